/- The walk of layer 21's Add. (printed by genadd.py) (merged: KeepM KeepN) -/
import Derived.Test.YtojincohnjophaaGreatDoorLogBackW
/-! The walks of layer 21's small methods: Text, Gen, Disk, Records, Budget. -/
namespace Go.Proofs.YtojincohnjophaaGreatDoor
open Go.RowKit
open DiskP (Bytes Disk Wr Fate noughts)
open KeepP (Cut Head K Kept okC okH pagesP saveP beginP)
set_option linter.unusedVariables false

section
variable {w : World} {b : Nat} {T : TypeId} {v0 v1 v2 v3 v4 v5 v6 v7 v8 v9 v10 v11 v12 v13 v14 v15 : Value}
theorem Box.cell16 (h : Box w b T #[v0, v1, v2, v3, v4, v5, v6, v7, v8, v9, v10, v11, v12, v13, v14, v15]) :
    (w.cell? ⟨b, 0, none⟩ = some v0 ∧ w.cell? ⟨b, 1, none⟩ = some v1) ∧ (w.cell? ⟨b, 2, none⟩ = some v2 ∧ w.cell? ⟨b, 3, none⟩ = some v3 ∧ w.cell? ⟨b, 4, none⟩ = some v4 ∧ w.cell? ⟨b, 5, none⟩ = some v5) ∧
    (w.cell? ⟨b, 6, none⟩ = some v6 ∧ w.cell? ⟨b, 7, none⟩ = some v7 ∧ w.cell? ⟨b, 8, none⟩ = some v8 ∧ w.cell? ⟨b, 9, none⟩ = some v9) ∧ (w.cell? ⟨b, 10, none⟩ = some v10 ∧ w.cell? ⟨b, 11, none⟩ = some v11) ∧
    (w.cell? ⟨b, 12, none⟩ = some v12 ∧ w.cell? ⟨b, 13, none⟩ = some v13 ∧ w.cell? ⟨b, 14, none⟩ = some v14 ∧ w.cell? ⟨b, 15, none⟩ = some v15) :=
  ⟨⟨h.cellAt rfl, h.cellAt rfl⟩, ⟨h.cellAt rfl, h.cellAt rfl, h.cellAt rfl, h.cellAt rfl⟩, ⟨h.cellAt rfl, h.cellAt rfl, h.cellAt rfl, h.cellAt rfl⟩, ⟨h.cellAt rfl, h.cellAt rfl⟩, ⟨h.cellAt rfl, h.cellAt rfl, h.cellAt rfl, h.cellAt rfl⟩⟩
end
theorem setCell_far {w : World} {a : Addr} {u : Value} {x : Nat} (h : x ≠ a.block) : (w.setCell a u).heap[x]? = w.heap[x]? := by
  simp only [World.setCell, Array.getElem?_modify]
  rw [if_neg (fun e => h e.symm)]
/-- stores into a block: what lies elsewhere stays -/
theorem Chg.set {b : Nat} {rv : Value} {w w' : World} (h : Chg b rv w w') (i : Nat) (u : Value) : Chg b rv w (w'.setCell ⟨b, i, none⟩ u) :=
  ⟨h.os, h.tape, h.output, by simp [World.setCell]; exact h.size, fun x hx h1 h2 => (setCell_far h1).trans (h.block x hx h1 h2)⟩
theorem Chg.trans_below {b : Nat} {rv : Value} {w w' w'' : World} (h : Chg b rv w w') (hb : Below w'.heap.size w' w'') : Chg b rv w w'' :=
  ⟨hb.os.trans h.os, hb.tape.trans h.tape, hb.output.trans h.output, Nat.le_trans h.size hb.size, fun x hx h1 h2 => (hb.block x (Nat.lt_of_lt_of_le hx h.size)).trans (h.block x hx h1 h2)⟩
theorem Dk.set1 {w : World} {V : Nat → Prop} {A : Option Addr} {n c : Nat} {B : Option Addr} {m e : Nat} {d : Disk} {b : Nat} (h : Dk w V A n c B m e d) (hV : ∀ x, V x → x ≠ b) (i : Nat) (u : Value) : Dk (w.setCell ⟨b, i, none⟩ u) V A n c B m e d :=
  h.keep (by simp [World.setCell]) fun x hx _ => setCell_far (hV x hx)
theorem own_set1 {w : World} {base b : Nat} {e : TypeId} {size n : Nat} {v : Value} {xs : List Value} (h : w.ownsRow base e size v n xs) (hb : v.ownBlock ≠ some b) (i : Nat) (u : Value) : (w.setCell ⟨b, i, none⟩ u).ownsRow base e size v n xs :=
  own_keepK h fun g hg => setCell_far (fun e => hb (by rw [hg, e]))

/-- the drive, written anew -/
abbrev setDrive (w : World) (b : Nat) (A : Option Addr) (n c : Nat) (B : Option Addr) (m e : Nat) (lf : Int) (dd : Bool) : World :=
  (((w.setCell ⟨b, 2, none⟩ (.slice A n c)).setCell ⟨b, 3, none⟩ (.slice B m e)).setCell ⟨b, 4, none⟩ (.int .i64 lf)).setCell ⟨b, 5, none⟩ (.bool dd)
theorem keep_drive {w : World} {V : Nat → Prop} {b : Nat} {rv : Value} {k : K} {A0 A B0 B : Option Addr} {n0 c0 m0 e0 n c m e : Nat} {d' : Disk} {lf : Int} {dd : Bool} (hB : Box w b 87 (kcells A0 n0 c0 B0 m0 e0 rv k)) (hD : Dk w (fun x => V x ∧ x ≠ b ∧ rv.ownBlock ≠ some x) A n c B m e d')
    (ho : w.ownsRow 0 9 1 rv k.records.length (secV k.records)) (hne : rv.ownBlock ≠ some b) (h1 : lf = d'.left) (h2 : dd = d'.dead) : KeepAt (setDrive w b A n c B m e lf dd) V b rv { k with drive := d' } := by
  subst h1 h2
  refine ⟨A, n, c, B, m, e, ?_, ?_, ?_, hne⟩
  · exact (((hB.set 2 (.slice A n c)).set 3 (.slice B m e)).set 4 (.int .i64 d'.left)).set 5 (.bool d'.dead)
  · exact ((((hD.set1 (fun x hx => hx.2.1) 2 _).set1 (fun x hx => hx.2.1) 3 _).set1 (fun x hx => hx.2.1) 4 _).set1 (fun x hx => hx.2.1) 5 _)
  · exact own_set1 (own_set1 (own_set1 (own_set1 ho hne _ _) hne _ _) hne _ _) hne _ _
theorem chg_drive {w w' : World} {b : Nat} {rv : Value} {A B : Option Addr} {n c m e : Nat} {lf : Int} {dd : Bool} (h : Chg b rv w w') : Chg b rv w (setDrive w' b A n c B m e lf dd) := (((h.set 2 _).set 3 _).set 4 _).set 5 _

set_option maxRecDepth 100000 in
theorem text_any (V : Nat → Prop) (b : Nat) (rv : Value) (k : K) (w : World) (h : KeepAt w V b rv k) :
    Calls Tryz.prog 16 #[.pointer (some ⟨b, 0, none⟩)] w fun q w' => q = .returned (.string (mkB k.text)) ∧ w = w' := by
  obtain ⟨A, n, c, B, m, e, hB, _, _, _⟩ := h
  obtain ⟨_, _, _, ⟨h10, _⟩, _⟩ := hB.cell16
  have hlt := hB.lt
  clear hB
  go_enter Tryz.func16, Tryz.ntmps16
  go_wp2_with fail
  go_ret
  exact ⟨rfl, rfl⟩
set_option maxRecDepth 100000 in
set_option maxHeartbeats 800000 in
theorem disk_any (V : Nat → Prop) (b : Nat) (rv : Value) (k : K) (w : World) (h : KeepAt w V b rv k) :
    Calls Tryz.prog 14 #[.pointer (some ⟨b, 0, none⟩)] w fun q w' => ∃ A n c B m e, q = .returned (dkv A n c B m e k.drive.left k.drive.dead) ∧ Dk w' V A n c B m e k.drive ∧ Below w.heap.size w w' := by
  obtain ⟨A, n, c, B, m, e, hB, hD, _, _⟩ := h
  have kB := hB.up (.cells #[.slice none 0 0, .slice none 0 0, .int .i64 0, .bool false] 54)
  have hlt := hB.lt
  obtain ⟨lf, hlf⟩ : ∃ lf, lf = k.drive.left := ⟨_, rfl⟩
  obtain ⟨dd, hdd⟩ : ∃ dd, dd = k.drive.dead := ⟨_, rfl⟩
  unfold kcells at kB
  rw [← hlf, ← hdd] at kB ⊢
  obtain ⟨_, ⟨h2, h3, h4, h5⟩, _, _, _⟩ := kB.cell16
  have kF := Box.new w 54 #[.slice A n c, .slice B m e, .int .i64 lf, .bool dd]
  have hbF : Below w.heap.size w (w.alloc (.cells #[.slice A n c, .slice B m e, .int .i64 lf, .bool dd] 54)) := (Below.refl _ _).alloc (Nat.le_refl _) _
  have HD := hide ((hD.mono (V' := V) fun x hx => hx.1).below hbF)
  obtain ⟨s0, s1, s2, s3⟩ := kF.cell4
  clear hB kB hD hlf hdd kF
  go_enter Tryz.func14, Tryz.ntmps14
  go_wp2_with fail
  exact bodyPost_ret (v := .agg #[.slice A n c, .slice B m e, .int .i64 lf, .bool dd]) (by simp [results, Tryz.results14, go_sem, s0, s1, s2, s3]) rfl ⟨A, n, c, B, m, e, rfl, HD.out, hbF⟩
set_option maxRecDepth 100000 in
theorem records_any (V : Nat → Prop) (b : Nat) (rv : Value) (k : K) (w : World) (h : KeepAt w V b rv k) (hr : k.records.length ≤ 1000000) :
    Calls Tryz.prog 17 #[.pointer (some ⟨b, 0, none⟩)] w fun q w' => ∃ v, q = .returned v ∧ w'.ownsRow w.heap.size 9 1 v k.records.length (secV k.records) ∧ Below w.heap.size w w' := by
  obtain ⟨A, n, c, B, m, e, hB, _, ho, _⟩ := h
  obtain ⟨_, _, _, ⟨_, h11⟩, _⟩ := hB.cell16
  have hlt := hB.lt
  obtain ⟨A1, c1, rfl⟩ := own_shape ho
  have HCL := hide (clone_str A1 k.records.length c1 _ _ w (Sl.of_own ho) (by omega) (secV_one _))
  clear hB ho hr
  go_enter Tryz.func17, Tryz.ntmps17
  go_wp2_with fail
  refine HCL.out.mono ?_
  rintro q w1 ⟨v, rfl, ho, hb⟩
  have HO := hide ho
  clear ho
  go_wp2_with fail
  go_ret
  exact ⟨v, rfl, HO.out, hb⟩
end Go.Proofs.YtojincohnjophaaGreatDoor

/-! The walk of layer 21's Add. (printed by genadd.py) -/
namespace Go.Proofs.YtojincohnjophaaGreatDoor
open Go.RowKit
open DiskP (Bytes Disk Wr Fate noughts)
open KeepP (Cut Head K Kept okC okH pagesP saveP beginP)
open LogP (Log zeroL Live okL Holds)
set_option linter.unusedVariables false

/-- the log, written anew -/
abbrev setLog (w : World) (b : Nat) (l : Log) : World :=
  (((w.setCell ⟨b, 12, none⟩ (.int .i64 (l.frm : Nat))).setCell ⟨b, 13, none⟩ (.int .i64 (l.len : Nat))).setCell ⟨b, 14, none⟩ (.int .i64 (l.at_ : Nat))).setCell ⟨b, 15, none⟩ (.int .i64 (l.seq : Nat))
theorem keep_log {w : World} {V : Nat → Prop} {b : Nat} {rv : Value} {k : K} {l : Log} (h : KeepAt w V b rv k) : KeepAt (setLog w b l) V b rv { k with log := l } := by
  obtain ⟨A, n, c, B, m, e, hB, hD, ho, hne⟩ := h
  refine ⟨A, n, c, B, m, e, ?_, ?_, ?_, hne⟩
  · exact (((hB.set 12 (.int .i64 (l.frm : Nat))).set 13 (.int .i64 (l.len : Nat))).set 14 (.int .i64 (l.at_ : Nat))).set 15 (.int .i64 (l.seq : Nat))
  · exact ((((hD.set1 (fun x hx => hx.2.1) 12 _).set1 (fun x hx => hx.2.1) 13 _).set1 (fun x hx => hx.2.1) 14 _).set1 (fun x hx => hx.2.1) 15 _)
  · exact own_set1 (own_set1 (own_set1 (own_set1 ho hne _ _) hne _ _) hne _ _) hne _ _
theorem chg_log {w w' : World} {b : Nat} {rv : Value} {l : Log} (h : Chg b rv w w') : Chg b rv w (setLog w' b l) := (((h.set 12 _).set 13 _).set 14 _).set 15 _
theorem Chg.app {w w' w'' : World} {b : Nat} {rv v' : Value} {base : Nat} {e : TypeId} {size n : Nat} {xs : List Value} (h : Chg b rv w w') (hA : Apd w' w'' base e size rv v' n xs) : Chg b rv w w'' := by
  have hg := hA.grown
  exact ⟨hg.os.trans h.os, hg.tape.trans h.tape, hg.output.trans h.output, Nat.le_trans h.size hg.size, fun x hx h1 h2 => (hA.far (Nat.lt_of_lt_of_le hx h.size) h2).trans (h.block x hx h1 h2)⟩
theorem keep_rec {w9 w10 : World} {V : Nat → Prop} {b : Nat} {rv v' : Value} {k : K} {A B : Option Addr} {n c m e : Nat} {s : ByteArray} {d : Disk} {l : Log} (hB : Box w9 b 87 (kcells A n c B m e rv { k with drive := d, log := l }))
    (hD : Dk w9 (fun x => V x ∧ x ≠ b ∧ rv.ownBlock ≠ some x) A n c B m e d) (hne : rv.ownBlock ≠ some b) (hA : Apd w9 w10 0 9 1 rv v' (k.records.length + 1) (strs (k.records.map mkB ++ [s]))) :
    KeepAt (w10.setCell ⟨b, 11, none⟩ v') V b v' { k with drive := d, records := k.records ++ [oct s], log := l } := by
  have kB := hB.at (hA.far hB.lt hne)
  have hlt := hB.lt
  have hne' : v'.ownBlock ≠ some b := fun e => by
    rcases hA.at_ with h | ⟨g, h, hg⟩
    · exact hne (h ▸ e)
    · rw [h] at e; injection e with e; omega
  have hD2 := (hD.lt'.keep hA.size fun x hx hl => hA.far hl hx.1.2.2).mono (V' := fun x => V x ∧ x ≠ b ∧ v'.ownBlock ≠ some x) fun x hx => ⟨hx.1.1, hx.1.2.1, fun e => by
    rcases hA.at_ with h | ⟨g, h, hg⟩
    · exact hx.1.2.2 (h ▸ e)
    · rw [h] at e; injection e with e; have := hx.2; omega⟩
  have ho := hA.own
  rw [secV_snoc2] at ho
  refine ⟨A, n, c, B, m, e, kB.set 11 v', hD2.set1 (fun x hx => hx.2.1) 11 _, ?_, hne'⟩
  show World.ownsRow _ 0 _ 1 v' (k.records ++ [oct s]).length (secV (k.records ++ [oct s]))
  rw [List.length_append, List.length_singleton]
  exact own_set1 ho hne' _ _
/-- what Add leaves -/
def addK (k : K) (s : Bytes) (R : Disk × Log × Nat) : K :=
  if R.2.2 = 0 then { k with drive := R.1, records := k.records ++ [s], log := R.2.1 } else if R.2.2 = 14 then { k with drive := R.1 } else k
/-- a row of one's own, written on, or a new one -/
def RowOn (w : World) (rv rv' : Value) : Prop := ∀ g, rv'.ownBlock = some g → rv.ownBlock = some g ∨ w.heap.size ≤ g

set_option maxRecDepth 100000 in
set_option maxHeartbeats 6400000 in
theorem add_any (V : Nat → Prop) (b : Nat) (rv : Value) (k : K) (s : ByteArray) (w : World) (h : KeepAt w V b rv k) (hok : okL k.drive k.log) (hdead : k.drive.dead = false) (hmm : k.drive.W.length ≤ 800000000) (hs : s.size ≤ 1000000) (hrl : k.records.length ≤ 1000000) :
    Calls Tryz.prog 11 #[.pointer (some ⟨b, 0, none⟩), .string s] w fun q w' => q = .returned (.int .i64 ((LogP.appendP k.drive k.log (oct s)).2.2 : Nat)) ∧
      ∃ rv', KeepAt w' (fun x => V x ∨ w.heap.size ≤ x) b rv' (addK k (oct s) (LogP.appendP k.drive k.log (oct s))) ∧ RowOn w rv rv' ∧ Chg b rv w w' := by
  obtain ⟨A, n, c, B, m, e, hB, hD, ho, hne⟩ := h
  obtain ⟨V0, hV0⟩ : ∃ V0 : Nat → Prop, V0 = fun x => V x ∧ x ≠ b ∧ rv.ownBlock ≠ some x := ⟨_, rfl⟩
  rw [← hV0] at hD
  have hwl := hD.wlen
  have hap := fun ww hD => append_any A n c B m e k.drive (fun x => V0 x ∧ x < w.heap.size) k.log s ww hD hok (by omega) hs
  obtain ⟨RR, hRR⟩ : ∃ RR, RR = LogP.appendP k.drive k.log (oct s) := ⟨_, rfl⟩
  rw [← hRR] at hap ⊢
  obtain ⟨lg, hlg⟩ : ∃ lg, lg = k.log := ⟨_, rfl⟩
  obtain ⟨lf, hlf⟩ : ∃ lf, lf = k.drive.left := ⟨_, rfl⟩
  have hB0 := hB
  unfold kcells at hB0
  rw [← hlg, ← hlf, hdead] at hap hB0
  have HAP : Hid (∀ ww, Dk ww (fun x => V0 x ∧ x < w.heap.size) A n c B m e k.drive → Calls Tryz.prog 32 #[.agg #[.slice A n c, .slice B m e, .int .i64 lf, .bool false], .agg #[.int .i64 (lg.frm : Nat), .int .i64 (lg.len : Nat), .int .i64 (lg.at_ : Nat), .int .i64 (lg.seq : Nat)], .string s] ww fun q w' => ∃ v, q = .returned (.tuple #[v, lgv RR.2.1, .int .i64 (RR.2.2 : Nat)]) ∧ DkV w' (fun x => (V0 x ∧ x < w.heap.size) ∨ ww.heap.size ≤ x) v RR.1 ∧ Below ww.heap.size ww w') := hap
  obtain ⟨Ar, cr, hrv⟩ := own_shape ho
  obtain ⟨nr, hnr⟩ : ∃ nr, nr = k.records.length := ⟨_, rfl⟩
  rw [← hnr] at hrv
  rw [hrv] at hB hB0 ho hne ⊢
  have HDK := hide hD
  have HO := hide ho
  have HB := hide hB
  have HNE := hide hne
  have HNR := hide hnr
  have HV0 : Hid (V0 = fun x => V x ∧ x ≠ b ∧ (Value.slice Ar nr cr).ownBlock ≠ some x) := by rw [← hrv]; exact hV0
  obtain ⟨_, ⟨h2, h3, h4, h5⟩, _, _, _⟩ := hB0.cell16
  have hlt := hB.lt
  clear hap hRR hlg hlf hdead hD ho hne hok hmm hV0 hwl hrv hnr hB
  go_enter Tryz.func11, Tryz.ntmps11
  go_upto_region 3 with (fail)
  clear h2 h3 h4 h5
  go_cut [5, 6, 7] from 14 to 29 (fun p q e wx => AppEnd V0 w RR p q e wx)
  case first =>
    have hDK := HDK
    refine wp_region_noPanic ?_
    refine RegS.region (ds := [15, 16, 17, 18, 19, 20, 21, 22, 23, 24, 25, 26, 14, 27, 28, 29, 5, 6]) (pure := [12, 13, 14, 15]) (fresh := [16, 17])
      (G := Gs [.is (.pointer (some ⟨b, 0, none⟩)), .is (.pointer (some ⟨b, 0, none⟩)), .is (.pointer (some ⟨b, 0, none⟩)), .is (.pointer (some ⟨b, 2, none⟩)), .is (.agg #[.slice A n c, .slice B m e, .int .i64 lf, .bool false]), .is (.pointer (some ⟨b, 0, none⟩)), .is (.pointer (some ⟨b, 0, none⟩)), .is (.pointer (some ⟨b, 0, none⟩)), .is (.pointer (some ⟨b, 12, none⟩)), .is (.agg #[.int .i64 (lg.frm : Nat), .int .i64 (lg.len : Nat), .int .i64 (lg.at_ : Nat), .int .i64 (lg.seq : Nat)]), .is (.string s), .three (.dk (fun x => V0 x ∧ x < w.heap.size ∨ w.heap.size ≤ x) RR.1) (lgv RR.2.1) (.int .i64 (RR.2.2 : Nat)), .three (.dk (fun x => V0 x ∧ x < w.heap.size ∨ w.heap.size ≤ x) RR.1) (lgv RR.2.1) (.int .i64 (RR.2.2 : Nat)), .dk (fun x => V0 x ∧ x < w.heap.size ∨ w.heap.size ≤ x) RR.1, .is (lgv RR.2.1), .is (.int .i64 (RR.2.2 : Nat)), .box w.heap.size 54 #[.slice none 0 0, .slice none 0 0, .int .i64 0, .bool false], .box w.heap.size 82 #[.int .i64 0, .int .i64 0, .int .i64 0, .int .i64 0]])
      rfl (by kernel_rfl) (by kernel_rfl) ⟨by kernel_rfl, by kernel_rfl, fun i _ v w w' => gs_keep _ i v w w', ?quiet, ?step⟩ (fun _ _ _ _ _ h => h) ?tail
    case quiet =>
      intro i o hi hp ho u ww hd
      obtain rfl | rfl | rfl | rfl : i = 12 ∨ i = 13 ∨ i = 14 ∨ i = 15 := by simp at hp; omega
      · simp only [List.getElem?_toArray, List.getElem?_cons_succ, List.getElem?_cons_zero, Option.some.injEq] at ho
        subst ho
        simp only [RegS.putAll, List.length_cons, List.length_nil, Nat.reduceAdd, List.getD_cons_zero, List.getD_cons_succ, Act.put, List.setIfInBounds_toArray, List.set_cons_zero, List.set_cons_succ]
        exact ⟨_, fun _ => rfl, hd 11 (by decide) (by rfl)⟩
      · simp only [List.getElem?_toArray, List.getElem?_cons_succ, List.getElem?_cons_zero, Option.some.injEq] at ho
        subst ho
        simp only [RegS.putAll, List.length_cons, List.length_nil, Nat.reduceAdd, List.getD_cons_zero, List.getD_cons_succ, Act.put, List.setIfInBounds_toArray, List.set_cons_zero, List.set_cons_succ]
        obtain ⟨x, e, h⟩ := hd 12 (by decide) (by rfl)
        rw [e]
        exact ⟨_, fun _ => rfl, h⟩
      · simp only [List.getElem?_toArray, List.getElem?_cons_succ, List.getElem?_cons_zero, Option.some.injEq] at ho
        subst ho
        simp only [RegS.putAll, List.length_cons, List.length_nil, Nat.reduceAdd, List.getD_cons_zero, List.getD_cons_succ, Act.put, List.setIfInBounds_toArray, List.set_cons_zero, List.set_cons_succ]
        obtain ⟨x, e, h⟩ := hd 12 (by decide) (by rfl)
        rw [e]
        exact ⟨_, fun _ => rfl, rfl⟩
      · simp only [List.getElem?_toArray, List.getElem?_cons_succ, List.getElem?_cons_zero, Option.some.injEq] at ho
        subst ho
        simp only [RegS.putAll, List.length_cons, List.length_nil, Nat.reduceAdd, List.getD_cons_zero, List.getD_cons_succ, Act.put, List.setIfInBounds_toArray, List.set_cons_zero, List.set_cons_succ]
        obtain ⟨x, e, h⟩ := hd 12 (by decide) (by rfl)
        rw [e]
        exact ⟨_, fun _ => rfl, rfl⟩
    case step =>
      intro i o hi hp ho u ww hb hd K hK
      obtain rfl | rfl | rfl | rfl | rfl | rfl | rfl | rfl | rfl | rfl | rfl | rfl | rfl | rfl : i = 0 ∨ i = 1 ∨ i = 2 ∨ i = 3 ∨ i = 4 ∨ i = 5 ∨ i = 6 ∨ i = 7 ∨ i = 8 ∨ i = 9 ∨ i = 10 ∨ i = 11 ∨ i = 16 ∨ i = 17 := by simp at hp hi; omega
      · simp only [List.getElem?_toArray, List.getElem?_cons_zero, Option.some.injEq] at ho
        subst ho
        simp only [RegS.putAll, List.length_cons, List.length_nil, Nat.reduceAdd, List.getD_cons_zero, List.getD_cons_succ, Act.put, List.setIfInBounds_toArray, List.set_cons_zero, List.set_cons_succ]
        go_simp
        exact hK _ _ rfl (Below.refl _ _) rfl (fun h => absurd h (by decide))
      · simp only [List.getElem?_toArray, List.getElem?_cons_succ, List.getElem?_cons_zero, Option.some.injEq] at ho
        subst ho
        simp only [RegS.putAll, List.length_cons, List.length_nil, Nat.reduceAdd, List.getD_cons_zero, List.getD_cons_succ, Act.put, List.setIfInBounds_toArray, List.set_cons_zero, List.set_cons_succ]
        have e0 : u 0 = .pointer (some ⟨b, 0, none⟩) := hd 0 (by decide) (by rfl)
        go_simp
        exact hK _ _ rfl (Below.refl _ _) rfl (fun h => absurd h (by decide))
      · simp only [List.getElem?_toArray, List.getElem?_cons_succ, List.getElem?_cons_zero, Option.some.injEq] at ho
        subst ho
        simp only [RegS.putAll, List.length_cons, List.length_nil, Nat.reduceAdd, List.getD_cons_zero, List.getD_cons_succ, Act.put, List.setIfInBounds_toArray, List.set_cons_zero, List.set_cons_succ]
        have e1 : u 1 = .pointer (some ⟨b, 0, none⟩) := hd 1 (by decide) (by rfl)
        go_simp
        exact hK _ _ rfl (Below.refl _ _) rfl (fun h => absurd h (by decide))
      · simp only [List.getElem?_toArray, List.getElem?_cons_succ, List.getElem?_cons_zero, Option.some.injEq] at ho
        subst ho
        simp only [RegS.putAll, List.length_cons, List.length_nil, Nat.reduceAdd, List.getD_cons_zero, List.getD_cons_succ, Act.put, List.setIfInBounds_toArray, List.set_cons_zero, List.set_cons_succ]
        have e2 : u 2 = .pointer (some ⟨b, 0, none⟩) := hd 2 (by decide) (by rfl)
        go_simp
        exact hK _ _ rfl (Below.refl _ _) rfl (fun h => absurd h (by decide))
      · simp only [List.getElem?_toArray, List.getElem?_cons_succ, List.getElem?_cons_zero, Option.some.injEq] at ho
        subst ho
        simp only [RegS.putAll, List.length_cons, List.length_nil, Nat.reduceAdd, List.getD_cons_zero, List.getD_cons_succ, Act.put, List.setIfInBounds_toArray, List.set_cons_zero, List.set_cons_succ]
        have e3 : u 3 = .pointer (some ⟨b, 2, none⟩) := hd 3 (by decide) (by rfl)
        obtain ⟨⟨_, _⟩, ⟨h2, h3, h4, h5⟩, ⟨_, _, _, _⟩, ⟨_, _⟩, h12, h13, h14, h15⟩ := (hB0.belowS hb).cell16
        go_simp
        exact hK _ _ rfl (Below.refl _ _) rfl (fun h => absurd h (by decide))
      · simp only [List.getElem?_toArray, List.getElem?_cons_succ, List.getElem?_cons_zero, Option.some.injEq] at ho
        subst ho
        simp only [RegS.putAll, List.length_cons, List.length_nil, Nat.reduceAdd, List.getD_cons_zero, List.getD_cons_succ, Act.put, List.setIfInBounds_toArray, List.set_cons_zero, List.set_cons_succ]
        go_simp
        exact hK _ _ rfl (Below.refl _ _) rfl (fun h => absurd h (by decide))
      · simp only [List.getElem?_toArray, List.getElem?_cons_succ, List.getElem?_cons_zero, Option.some.injEq] at ho
        subst ho
        simp only [RegS.putAll, List.length_cons, List.length_nil, Nat.reduceAdd, List.getD_cons_zero, List.getD_cons_succ, Act.put, List.setIfInBounds_toArray, List.set_cons_zero, List.set_cons_succ]
        have e5 : u 5 = .pointer (some ⟨b, 0, none⟩) := hd 5 (by decide) (by rfl)
        go_simp
        exact hK _ _ rfl (Below.refl _ _) rfl (fun h => absurd h (by decide))
      · simp only [List.getElem?_toArray, List.getElem?_cons_succ, List.getElem?_cons_zero, Option.some.injEq] at ho
        subst ho
        simp only [RegS.putAll, List.length_cons, List.length_nil, Nat.reduceAdd, List.getD_cons_zero, List.getD_cons_succ, Act.put, List.setIfInBounds_toArray, List.set_cons_zero, List.set_cons_succ]
        have e6 : u 6 = .pointer (some ⟨b, 0, none⟩) := hd 6 (by decide) (by rfl)
        go_simp
        exact hK _ _ rfl (Below.refl _ _) rfl (fun h => absurd h (by decide))
      · simp only [List.getElem?_toArray, List.getElem?_cons_succ, List.getElem?_cons_zero, Option.some.injEq] at ho
        subst ho
        simp only [RegS.putAll, List.length_cons, List.length_nil, Nat.reduceAdd, List.getD_cons_zero, List.getD_cons_succ, Act.put, List.setIfInBounds_toArray, List.set_cons_zero, List.set_cons_succ]
        have e7 : u 7 = .pointer (some ⟨b, 0, none⟩) := hd 7 (by decide) (by rfl)
        go_simp
        exact hK _ _ rfl (Below.refl _ _) rfl (fun h => absurd h (by decide))
      · simp only [List.getElem?_toArray, List.getElem?_cons_succ, List.getElem?_cons_zero, Option.some.injEq] at ho
        subst ho
        simp only [RegS.putAll, List.length_cons, List.length_nil, Nat.reduceAdd, List.getD_cons_zero, List.getD_cons_succ, Act.put, List.setIfInBounds_toArray, List.set_cons_zero, List.set_cons_succ]
        have e8 : u 8 = .pointer (some ⟨b, 12, none⟩) := hd 8 (by decide) (by rfl)
        obtain ⟨⟨_, _⟩, ⟨h2, h3, h4, h5⟩, ⟨_, _, _, _⟩, ⟨_, _⟩, h12, h13, h14, h15⟩ := (hB0.belowS hb).cell16
        go_simp
        exact hK _ _ rfl (Below.refl _ _) rfl (fun h => absurd h (by decide))
      · simp only [List.getElem?_toArray, List.getElem?_cons_succ, List.getElem?_cons_zero, Option.some.injEq] at ho
        subst ho
        simp only [RegS.putAll, List.length_cons, List.length_nil, Nat.reduceAdd, List.getD_cons_zero, List.getD_cons_succ, Act.put, List.setIfInBounds_toArray, List.set_cons_zero, List.set_cons_succ]
        go_simp
        exact hK _ _ rfl (Below.refl _ _) rfl (fun h => absurd h (by decide))
      · simp only [List.getElem?_toArray, List.getElem?_cons_succ, List.getElem?_cons_zero, Option.some.injEq] at ho
        subst ho
        simp only [RegS.putAll, List.length_cons, List.length_nil, Nat.reduceAdd, List.getD_cons_zero, List.getD_cons_succ, Act.put, List.setIfInBounds_toArray, List.set_cons_zero, List.set_cons_succ]
        have e4 : u 4 = .agg #[.slice A n c, .slice B m e, .int .i64 lf, .bool false] := hd 4 (by decide) (by rfl)
        have e9 : u 9 = .agg #[.int .i64 (lg.frm : Nat), .int .i64 (lg.len : Nat), .int .i64 (lg.at_ : Nat), .int .i64 (lg.seq : Nat)] := hd 9 (by decide) (by rfl)
        have e10 : u 10 = .string s := hd 10 (by decide) (by rfl)
        go_simp
        refine (HAP.out ww (hDK.out.lt'.below hb)).mono ?_
        rintro r w3 ⟨v, rfl, hv, hb3⟩
        exact hK _ _ rfl hb3 ⟨_, rfl, hv.mono fun b h => h.elim (fun h => .inl h) fun h => .inr (Nat.le_trans hb.size h)⟩ (fun h => absurd h (by decide))
      · simp only [List.getElem?_toArray, List.getElem?_cons_succ, List.getElem?_cons_zero, Option.some.injEq] at ho
        subst ho
        simp only [RegS.putAll, List.length_cons, List.length_nil, Nat.reduceAdd, List.getD_cons_zero, List.getD_cons_succ, Act.put, List.setIfInBounds_toArray, List.set_cons_zero, List.set_cons_succ]
        go_simp
        exact hK _ _ rfl ((Below.refl _ _).alloc (Nat.le_refl _) _) ⟨_, rfl, hb.size, Box.new _ _ _⟩ fun _ => ⟨rfl, by simp⟩
      · simp only [List.getElem?_toArray, List.getElem?_cons_succ, List.getElem?_cons_zero, Option.some.injEq] at ho
        subst ho
        simp only [RegS.putAll, List.length_cons, List.length_nil, Nat.reduceAdd, List.getD_cons_zero, List.getD_cons_succ, Act.put, List.setIfInBounds_toArray, List.set_cons_zero, List.set_cons_succ]
        go_simp
        exact hK _ _ rfl ((Below.refl _ _).alloc (Nat.le_refl _) _) ⟨_, rfl, hb.size, Box.new _ _ _⟩ fun _ => ⟨rfl, by simp⟩
    case tail =>
      intro u ww hb hG hp hne
      simp only [RegS.putAll, List.length_cons, List.length_nil, Nat.reduceAdd, List.getD_cons_zero, List.getD_cons_succ, Act.put, List.setIfInBounds_toArray, List.set_cons_zero, List.set_cons_succ, List.drop_succ_cons, List.drop_zero]
      obtain ⟨A2, n2, c2, B2, m2, e2, e9, hD2⟩ := hG 13 (by decide)
      have e10 : u 14 = lgv RR.2.1 := hG 14 (by decide)
      have e11 : u 15 = .int .i64 (RR.2.2 : Nat) := hG 15 (by decide)
      obtain ⟨b7, e12, l7, k7⟩ := hG 16 (by decide)
      obtain ⟨b8, e13, l8, k8⟩ := hG 17 (by decide)
      have hne78 : b7 ≠ b8 := by
        intro h
        exact hne 16 17 (by decide) (by decide) (by decide) (by decide) (by decide) (by rw [e12, e13, h])
      have hne87 : b8 ≠ b7 := fun h => hne78 h.symm
      have hD3 := (hD2.notBox k7 noStr_disk).notBox k8 noStr_log
      clear hG hp hne hD2 HAP hDK
      obtain ⟨D1, hD1⟩ : ∃ D1, D1 = RR.1 := ⟨_, rfl⟩
      obtain ⟨⟨f1, f2, f3, f4⟩, hL1⟩ : ∃ L1, L1 = RR.2.1 := ⟨_, rfl⟩
      obtain ⟨ev, hE1⟩ : ∃ ev, ev = RR.2.2 := ⟨_, rfl⟩
      rw [← hD1] at hD3 e9
      rw [← hL1] at e10
      rw [← hE1] at e11
      have hrr : RR = (D1, ⟨f1, f2, f3, f4⟩, ev) := by rw [hD1, hL1, hE1]
      unfold lgv at e10
      simp only at e10
      obtain ⟨lf2, hlf2⟩ : ∃ lf2, lf2 = D1.left := ⟨_, rfl⟩
      obtain ⟨dd2, hdd2⟩ : ∃ dd2, dd2 = D1.dead := ⟨_, rfl⟩
      rw [← hlf2, ← hdd2] at e9
      have HLF := hide hlf2
      have HDD := hide hdd2
      have HRR2 := hide hrr
      have HD3 := hide hD3
      clear hlf2 hdd2 hrr hD1 hL1 hE1 hD3
      obtain ⟨q0, q1, q2, q3⟩ := k7.cell4
      obtain ⟨r0, r1, r2, r3⟩ := k8.cell4
      have f0 := k7.frozen 0
      have f1' := k7.frozen 1
      have f2' := k7.frozen 2
      have f3' := k7.frozen 3
      have g0 := k8.frozen 0
      have g1 := k8.frozen 1
      have g2 := k8.frozen 2
      have g3 := k8.frozen 3
      go_wp2_with fail
      refine NoPanic.normal ?_
      go_wp2_with fail
      go_meet
      rw [HRR2.out]
      refine ⟨b7, b8, A2, n2, c2, B2, m2, e2, by first | rfl | exact e12, by first | rfl | exact e13, by first | rfl | exact e11, l7, l8, hne78, ?_, (k8.far4 hne78).set4, ?_, ?_⟩
      · show Box _ b7 _ #[_, _, .int .i64 D1.left, .bool D1.dead]
        rw [← HLF.out, ← HDD.out]
        exact k7.set4.far4 hne87
      · exact ((HD3.out.set4 fun x hx => hx.1.2).set4 fun x hx => hx.2).mono fun x hx => ⟨hx.1.1, hx.1.2, hx.2⟩
      · exact below_set4 (below_set4 hb l7) l8
  case rest =>
    obtain ⟨b7, b8, A2, n2, c2, B2, m2, e2, rfl, rfl, rfl, l7, l8, h78, k7, k8, hD2, hbc⟩ := hcut
    have kB := HB.out.belowS hbc
    have hoc := own_below HO.out hbc
    have hbs := hbc.size
    have hltc := HO.out.lt
    obtain ⟨D1, hD1⟩ : ∃ D1, D1 = RR.1 := ⟨_, rfl⟩
    obtain ⟨L1, hL1⟩ : ∃ L1, L1 = RR.2.1 := ⟨_, rfl⟩
    obtain ⟨ev, hE1⟩ : ∃ ev, ev = RR.2.2 := ⟨_, rfl⟩
    have hrr : RR = (D1, L1, ev) := by rw [hD1, hL1, hE1]
    rw [← hD1] at k7 hD2
    rw [← hL1] at k8
    rw [← hE1]
    obtain ⟨lf2, hlf2⟩ : ∃ lf2, lf2 = D1.left := ⟨_, rfl⟩
    obtain ⟨dd2, hdd2⟩ : ∃ dd2, dd2 = D1.dead := ⟨_, rfl⟩
    rw [← hlf2, ← hdd2] at k7
    have HRR := hide hrr
    have HLF := hide hlf2
    have HDD := hide hdd2
    have hD3 : Dk wc (fun x => (V x ∨ w.heap.size ≤ x) ∧ x ≠ b ∧ (Value.slice Ar nr cr).ownBlock ≠ some x) A2 n2 c2 B2 m2 e2 D1 := hD2.mono fun x hx => by
      rcases hx.1 with h | h
      · rw [HV0.out] at h
        exact ⟨.inl h.1.1, h.1.2.1, h.1.2.2⟩
      · exact ⟨.inr h, by omega, fun e => by have := (hltc x e).2; omega⟩
    have HD3 := hide hD3
    have hDK0 : Dk wc (fun x => (V x ∨ w.heap.size ≤ x) ∧ x ≠ b ∧ (Value.slice Ar nr cr).ownBlock ≠ some x) A n c B m e k.drive := (HDK.out.below hbc).mono fun x hx => by
      rw [HV0.out] at hx
      exact ⟨.inl hx.1, hx.2⟩
    have HDK0 := hide hDK0
    clear hDK0
    have HOC := hide hoc
    have HKB := hide kB
    have HC := hide (Chg.of (b := b) (rv := .slice Ar nr cr) hbc)
    have hltb := kB.lt
    clear hrr hlf2 hdd2 hD1 hL1 hE1 hD2 hD3 hoc HAP HDK hbc hB0
    have hB1 := kB
    unfold kcells at hB1
    obtain ⟨⟨_, _⟩, ⟨h2, h3, h4, h5⟩, ⟨_, _, _, _⟩, ⟨_, h11⟩, h12, h13, h14, h15⟩ := hB1.cell16
    obtain ⟨q0, q1, q2, q3⟩ := k7.cell4
    obtain ⟨r0, r1, r2, r3⟩ := k8.cell4
    have f2 := kB.frozen 2
    have f3 := kB.frozen 3
    have f4 := kB.frozen 4
    have f5 := kB.frozen 5
    by_cases he14 : ev = 14
    · subst he14
      clear hB1 kB
      have hK1 := keep_drive (lf := lf2) (dd := dd2) HKB.out HD3.out HOC.out HNE.out HLF.out HDD.out
      have hC1 := chg_drive (A := A2) (n := n2) (c := c2) (B := B2) (m := m2) (e := e2) (lf := lf2) (dd := dd2) HC.out
      have HK1 := hide hK1
      have HC1 := hide hC1
      clear hK1 hC1
      go_wp2_with fail
      exact bodyPost_ret (v := .int .i64 ((14 : Nat) : Int)) (by simp [results, Tryz.results11, go_sem]) rfl ⟨by rw [HRR.out], .slice Ar nr cr, by rw [HRR.out]; exact HK1.out, fun g hg => .inl hg, HC1.out⟩
    · by_cases he0 : ev = 0
      · subst he0
        have hK1 := keep_drive (lf := lf2) (dd := dd2) HKB.out HD3.out HOC.out HNE.out HLF.out HDD.out
        have hC1 := chg_drive (A := A2) (n := n2) (c := c2) (B := B2) (m := m2) (e := e2) (lf := lf2) (dd := dd2) HC.out
        have HK2 := hide (keep_log (l := L1) hK1)
        have HC2 := hide (chg_log (l := L1) hC1)
        have f12 := kB.frozen 12
        have f13 := kB.frozen 13
        have f14 := kB.frozen 14
        have f15 := kB.frozen 15
        have x7 : b7 ≠ b := by omega
        have x8 : b8 ≠ b := by omega
        have x7' := x7.symm
        have x8' := x8.symm
        clear hK1 hC1 hB1 kB he14
        go_upto_region 8 with (fail)
        go_region_law (fail)
        all_goals
          have hK9 := HK2.out.below (Below.refl _ _).drew
          have hC9 := HC2.out.trans_below (Below.refl _ _).drew
          obtain ⟨w9, hw9⟩ : ∃ y, y = ((((((((wc.setCell ⟨b, 2, none⟩ (.slice A2 n2 c2)).setCell ⟨b, 3, none⟩ (.slice B2 m2 e2)).setCell ⟨b, 4, none⟩ (.int .i64 lf2)).setCell ⟨b, 5, none⟩ (.bool dd2)).setCell ⟨b, 12, none⟩ (.int .i64 (L1.frm : Nat))).setCell ⟨b, 13, none⟩ (.int .i64 (L1.len : Nat))).setCell ⟨b, 14, none⟩ (.int .i64 (L1.at_ : Nat))).setCell ⟨b, 15, none⟩ (.int .i64 (L1.seq : Nat))).drew := ⟨_, rfl⟩
          rw [← hw9]
          rw [show (setLog (setDrive wc b A2 n2 c2 B2 m2 e2 lf2 dd2) b L1).drew = w9 from hw9.symm] at hK9 hC9
          clear hw9 q0 q1 q2 q3 r0 r1 r2 r3 f2 f3 f4 f5 f12 f13 f14 f15 h2 h3 h4 h5 h11 h12 h13 h14 h15 HK2 HC2 HKB HD3 HOC HC HDK0 k7 k8
          obtain ⟨A9, n9, c9, B9, m9, e9, hB9, hD9, ho9, hne9⟩ := hK9
          have ho9' : w9.ownsRow 0 9 1 (.slice Ar nr cr) k.records.length (strs (k.records.map mkB)) := ho9
          have hrl2 : k.records.length ≤ 1000000000000 := by omega
          have hB9' := hB9
          unfold kcells at hB9'
          obtain ⟨_, _, _, ⟨_, h11⟩, _⟩ := hB9'.cell16
          have hltb9 := hB9.lt
          have HB9 := hide hB9
          clear hB9 hB9' ho9
          go_wp2_with (at_builtin; refine wp_app_str rfl _ _ rfl 0 _ _ _ ho9' rfl s rfl hrl2 (Nat.zero_le _) ?_; intro v2 w10 hA; obtain ⟨Av, cv, hv2⟩ := own_shape hA.own; subst hv2; have kB10 := HB9.out.at (hA.far hltb9 hne9); have hB10' := kB10; unfold kcells at hB10'; obtain ⟨_, _, _, ⟨_, g11⟩, _⟩ := hB10'.cell16; have f11 := hB10'.frozen 11)
          have hfin := keep_rec HB9.out hD9 hne9 hA
          have hown9 : RowOn w (Value.slice Ar nr cr) (.slice Av (k.records.length + 1) cv) := by
            intro g' hg'
            rcases hA.at_ with h | ⟨g, h, hg⟩
            · exact .inl (h ▸ hg')
            · rw [h] at hg'; injection hg' with hg'; exact .inr (by have := hC9.size; omega)
          have hchg := (hC9.app hA).set 11 (.slice Av (k.records.length + 1) cv)
          exact bodyPost_ret (v := .int .i64 0) (by simp [results, Tryz.results11, go_sem]) rfl ⟨by rw [HRR.out]; rfl, _, by rw [HRR.out, addK]; simp only; rw [if_pos trivial]; exact hfin, hown9, hchg⟩
      · have n14 : decide (ev = 14) = false := by simpa using he14
        have n14' : ((ev : Int) == 14) = false := by rw [beq_eq_false_iff_ne]; omega
        have n0 : decide (ev = 0) = false := by simpa using he0
        have n0' : ((ev : Int) != 0) = true := by rw [bne_iff_ne]; omega
        have hK : addK k (oct s) RR = k := by rw [HRR.out, addK]; simp only; rw [if_neg he0, if_neg he14]
        have HK := hide hK
        clear hB1 kB he14 he0 hK
        go_wp2_with fail
        have hfin : KeepAt wc (fun x => V x ∨ w.heap.size ≤ x) b (.slice Ar nr cr) (addK k (oct s) RR) := by
          rw [HK.out]
          exact ⟨_, _, _, _, _, _, HKB.out, HDK0.out, HOC.out, HNE.out⟩
        exact bodyPost_ret (v := .int .i64 (ev : Nat)) (by simp [results, Tryz.results11, go_sem]) rfl ⟨by rw [HRR.out], .slice Ar nr cr, hfin, fun g hg => .inl hg, HC.out⟩
end Go.Proofs.YtojincohnjophaaGreatDoor
