/- The walk of DiskKeeps. (printed by genkeeps.py) -/
import Derived.Test.YteoiadfcchalfaaDiskAw
import Derived.Test.YteoiadfcchalfaaOpenW
import Derived.Deep.DeepCutAuto
import Derived.Deep.CutBlock
import Derived.Deep.RegionHeld3
namespace Go.Proofs.Yteoiadfcchalfaa
open Go.RowKit
open DiskP (Bytes Disk Wr Fate noughts)
set_option linter.unusedVariables false

theorem Box.set3 {w : World} {b : Nat} {T : TypeId} {v0 v1 v2 u0 u1 u2 : Value} (h : Box w b T #[v0, v1, v2]) : Box (((w.setCell ⟨b, 0, none⟩ u0).setCell ⟨b, 1, none⟩ u1).setCell ⟨b, 2, none⟩ u2) b T #[u0, u1, u2] :=
  ((h.set 0 u0).set 1 u1).set 2 u2
theorem below_set3 {B b : Nat} {a w : World} {u0 u1 u2 : Value} (h : Below B a w) (hb : B ≤ b) : Below B a (((w.setCell ⟨b, 0, none⟩ u0).setCell ⟨b, 1, none⟩ u1).setCell ⟨b, 2, none⟩ u2) :=
  ((h.setCell hb u0).setCell hb u1).setCell hb u2

/-- a disk in a box -/
structure DkBox (wr : World) (b : Nat) (V : Nat → Prop) (A : Option Addr) (n c : Nat) (B : Option Addr) (m e : Nat) (d : Disk) : Prop where
  box : Box wr b 50 #[.slice A n c, .slice B m e, .int .i64 d.left, .bool d.dead]
  dk : Dk wr V A n c B m e d
theorem DkBox.below {wr w' : World} {b : Nat} {V : Nat → Prop} {A : Option Addr} {n c : Nat} {B : Option Addr} {m e : Nat} {d : Disk} (h : DkBox wr b V A n c B m e d) (hb : Below wr.heap.size wr w') : DkBox w' b V A n c B m e d := ⟨h.box.belowS hb, h.dk.below hb⟩
/-- what a put has left: its disk and its error -/
def PutEnd (V : Nat → Prop) (W : World) (R : Disk × Nat) (p e : Value) (wc : World) : Prop :=
  ∃ b A n c B m k, p = .pointer (some ⟨b, 0, none⟩) ∧ e = .int .i64 (R.2 : Nat) ∧ W.heap.size ≤ b ∧
    Box wc b 50 #[.slice A n c, .slice B m k, .int .i64 R.1.left, .bool R.1.dead] ∧ Dk wc (fun x => (V x ∧ x < W.heap.size ∨ W.heap.size ≤ x) ∧ x ≠ b) A n c B m k R.1 ∧ Below W.heap.size W wc

/-- the disk of the first loop, in the box bd -/
def KpR (w0 : World) (bd i : Nat) (wr : World) : Prop :=
  ∃ A c B m e d, DiskP.Good 4 d ∧ m ≤ 10 * i ∧ DkBox wr bd (fun b => b ≠ bd) A 4 c B m e d ∧ Below w0.heap.size w0 wr
/-- the disk of the second loop, in the box bx: its sectors are still the same -/
def KqR (w0 : World) (S : List Bytes) (bx i : Nat) (wr : World) : Prop :=
  ∃ A c B m e x, DiskP.Good 4 x ∧ x.S = S ∧ m ≤ 10 * i ∧ DkBox wr bx (fun b => b ≠ bx) A 4 c B m e x ∧ Below w0.heap.size w0 wr
theorem putW_len {d : Disk} {n : Nat} (h : DiskP.Good n d) (i : Int) (s : Bytes) (he : (DiskP.put d i s).2 = 0) : (DiskP.put d i s).1.W.length ≤ d.W.length + s.length / 128 := by
  have := (put_ok_may h.may he).2.1
  omega
theorem wr_cell {w : World} {V : Nat → Prop} {A : Option Addr} {n i : Nat} {l : List Wr} (h : Sl w V 2 A n (wrV l)) (hi : i < n) :
    ∃ a x, A = some a ∧ x ∈ l ∧ w.cell? (a.add (i * 2)) = some (.int .i64 x.at_) ∧ w.cell? ⟨(a.add (i * 2)).block, (a.add (i * 2)).off + 1, none⟩ = some (.string (mkB x.s)) := by
  obtain ⟨a, e, _, _, hc⟩ := h.2 (by omega)
  have hl : i < l.length := by have := h.1; rw [wrV_length] at this; omega
  have := wrV_get (List.getElem?_eq_getElem hl)
  exact ⟨a, l[i], e, List.getElem_mem hl, hc _ _ this.1, by rw [← Addr.add_succ' _ 0, add_add']; exact hc _ _ this.2⟩
/-- what region 12 reads -/
abbrev KpS (bd bF : Nat) (v0 v1 v2 v3 t0 t1 t2 : Value) (ww : World) : Prop :=
  (ww.cell? ⟨bd, 0, none⟩ = some v0 ∧ ww.cell? ⟨bd, 1, none⟩ = some v1 ∧ ww.cell? ⟨bd, 2, none⟩ = some v2 ∧ ww.cell? ⟨bd, 3, none⟩ = some v3) ∧ ww.cell? ⟨bF, 0, none⟩ = some t0 ∧ ww.cell? ⟨bF, 1, none⟩ = some t1 ∧ ww.cell? ⟨bF, 2, none⟩ = some t2
theorem kpS_mk {bd bF : Nat} {T TF : TypeId} {v0 v1 v2 v3 t0 t1 t2 : Value} {ww : World} (k : Box ww bd T #[v0, v1, v2, v3]) (kF : Box ww bF TF #[t0, t1, t2]) : KpS bd bF v0 v1 v2 v3 t0 t1 t2 ww :=
  ⟨k.cell4, kF.cellAt rfl, kF.cellAt rfl, kF.cellAt rfl⟩
theorem below_undrewK {w w' : World} (h : Below w.drew.heap.size w.drew w') : Below w.heap.size w w' := (Below.refl w.heap.size w).drew.trans h
/-- is an octet what it was, or what one of the first j writes said? -/
def okK (yb db : UInt8) (W : List Wr) (i k j : Nat) : Bool := decide (yb = db) || (W.take j).any fun w => decide (w.at_ = (i : Int)) && decide (w.s[k]? = some yb)
theorem okK_zero (yb db : UInt8) (W : List Wr) (i k : Nat) : okK yb db W i k 0 = decide (yb = db) := by simp [okK]
theorem okK_succ {yb db : UInt8} {W : List Wr} {i k j : Nat} {x : Wr} (h : W[j]? = some x) : okK yb db W i k (j + 1) = (okK yb db W i k j || (decide (x.at_ = (i : Int)) && decide (x.s[k]? = some yb))) := by
  obtain ⟨h1, h2⟩ := List.getElem?_eq_some_iff.1 h
  unfold okK
  rw [List.take_succ_eq_append_getElem h1, h2, List.any_append, Bool.or_assoc]
  simp

set_option maxRecDepth 100000 in
set_option maxHeartbeats 12800000 in
theorem diskKeeps_walk (A0 : Option Addr) (n0 c0 : Nat) (l0 : List Wr) (A1 : Option Addr) (n1 c1 : Nat) (l1 : List Wr) (FA : Option Addr) (fn fc : Nat) (f : Fate) (w : World)
    (hn0 : n0 ≤ 9223372036854775807) (hs0 : Sl w (fun _ => True) 2 A0 n0 (wrV l0)) (hz0 : ∀ x ∈ l0, WrIn x) (hn1 : n1 ≤ 9223372036854775807) (hs1 : Sl w (fun _ => True) 2 A1 n1 (wrV l1)) (hz1 : ∀ x ∈ l1, WrIn x)
    (hf : Ft w (fun _ => True) FA fn fc f) (hfc : fn ≤ fc) (hfc2 : fc ≤ 9223372036854775807) :
    Calls Try.prog 7 #[.slice A0 n0 c0, .slice A1 n1 c1, ftv FA fn fc f] w fun q w' => q = .returned (.bool true) ∧ Below w.heap.size w w' := by
  have HS0 := hide hs0
  have HS1 := hide hs1
  have HZ0 := hide hz0
  have HZ1 := hide hz1
  have HNEW : Hid (∀ w1, Calls Try.prog 32 #[.int .i64 4] w1 fun q w' => ∃ v, q = .returned (.tuple #[v, .int .i64 0]) ∧ DkV w' (fun b => w1.heap.size ≤ b) v (DiskP.new 4) ∧ Below w1.heap.size w1 w') := fun w1 => new_any 4 w1 (by decide) (by decide)
  have hbF : Below w.heap.size w (w.alloc (.cells #[.slice FA fn fc, .int .i64 f.torn, .int .i64 f.cut] 47)) := (Below.refl _ _).alloc (Nat.le_refl _) _
  have kF := Box.new w 47 #[.slice FA fn fc, .int .i64 f.torn, .int .i64 f.cut]
  have hfl : Ft w (fun b => b < w.heap.size) FA fn fc f := ⟨hf.sl.lt, hf.le⟩
  have hfa := fates_any FA fn fc f (fun b => b < w.heap.size) _ (hfl.below hbF) hfc hfc2
  obtain ⟨ff, hff⟩ : ∃ ff, ff = fates f := ⟨_, rfl⟩
  have et : f.torn = ff.torn := by rw [hff]; rfl
  have ec : f.cut = ff.cut := by rw [hff]; rfl
  rw [← hff] at hfa
  unfold ftv at hfa ⊢
  rw [et, ec] at hfa hbF kF ⊢
  obtain ⟨tn, htn⟩ : ∃ tn, tn = ff.torn := ⟨_, rfl⟩
  obtain ⟨ct, hct⟩ : ∃ ct, ct = ff.cut := ⟨_, rfl⟩
  rw [← htn, ← hct] at hfa hbF kF ⊢
  have HFA := hide hfa
  have HTN := hide htn
  have HCT := hide hct
  clear hs0 hs1 hz0 hz1 hf hfl hfa hff et ec htn hct hfc hfc2
  go_enter Try.func7, Try.ntmps7
  go_wp2_with fail
  refine HFA.out.mono ?_
  rintro q w1 ⟨fk, rfl, hfk, hb1, hFt⟩
  have kF1 := kF.belowS hb1
  have hbw1 := hbF.trans (hb1.mono hbF.size)
  have f0 := kF1.frozen 0
  have f1 := kF1.frozen 1
  have f2 := kF1.frozen 2
  have q0 := kF1.cellAt (i := 0) rfl
  have q1 := kF1.cellAt (i := 1) rfl
  have q2 := kF1.cellAt (i := 2) rfl
  have HFT := hide hFt
  clear hFt HFA kF hbF hb1
  go_wp2_with fail
  have kF2 := kF1.set3 (u0 := .slice FA fk fc) (u1 := .int .i64 tn) (u2 := .int .i64 ct)
  have hbw2 := below_set3 (b := w.heap.size) (u0 := .slice FA fk fc) (u1 := .int .i64 tn) (u2 := .int .i64 ct) hbw1 (Nat.le_refl _)
  have hFt2 : Ft (((w1.setCell ⟨w.heap.size, 0, none⟩ (.slice FA fk fc)).setCell ⟨w.heap.size, 1, none⟩ (.int .i64 tn)).setCell ⟨w.heap.size, 2, none⟩ (.int .i64 ct)) (fun b => b < w.heap.size) FA fk fc ff :=
    ⟨HFT.out.sl.keep (by simp) fun b hb _ => by
      have hne : w.heap.size ≠ b := by omega
      simp [World.setCell, Array.getElem?_modify, hne], HFT.out.le⟩
  obtain ⟨wS, hwS⟩ : ∃ x, x = ((w1.setCell ⟨w.heap.size, 0, none⟩ (.slice FA fk fc)).setCell ⟨w.heap.size, 1, none⟩ (.int .i64 tn)).setCell ⟨w.heap.size, 2, none⟩ (.int .i64 ct) := ⟨_, rfl⟩
  rw [← hwS] at kF2 hbw2 hFt2 ⊢
  have HFT2 := hide hFt2
  clear hwS hFt2 kF1 hbw1 q0 q1 q2 f0 f1 f2 HFT
  refine (HNEW.out _).mono ?_
  rintro q w2 ⟨v, rfl, ⟨A, n, c, B, m, e, rfl, hD⟩, hb2⟩
  have hg := DiskP.good_new (n := 4) (by decide) (by decide)
  obtain ⟨d, hd⟩ : ∃ d, d = DiskP.new 4 := ⟨_, rfl⟩
  have hW : d.W = [] := by rw [hd]; rfl
  rw [← hd] at hD hg ⊢
  obtain rfl : n = 4 := by rw [← hD.len, hg.len]
  obtain rfl : m = 0 := by rw [← hD.wlen, hW]; rfl
  rw [hg.left, hg.dead]
  have kd := Box.new w2 50 #[.slice A 4 c, .slice B 0 e, .int .i64 (-1), .bool false]
  have hbA : Below w2.heap.size w2 (w2.alloc (.cells #[.slice A 4 c, .slice B 0 e, .int .i64 (-1), .bool false] 50)) := (Below.refl _ _).alloc (Nat.le_refl _) _
  have kF3 := kF2.belowS hb2
  have hbw3 := hbw2.trans (hb2.mono hbw2.size)
  have hD3 := (hD.lt'.below hbA).mono (V' := fun b => b ≠ w2.heap.size) fun b h => by omega
  have HFT3 := hide (HFT2.out.below hb2)
  obtain ⟨bd, hbd⟩ : ∃ bd, bd = w2.heap.size := ⟨_, rfl⟩
  have HN0 : Hid (KpR w2 bd 0 (w2.alloc (.cells #[.slice A 4 c, .slice B 0 e, .int .i64 (-1), .bool false] 50))) :=
    ⟨A, c, B, 0, e, d, hg, Nat.le_refl _, ⟨by rw [hg.left, hg.dead, hbd]; exact kd, by rw [hbd]; exact hD3⟩, hbA⟩
  have HBD := hide hbd
  have hFlt := kF3.lt
  rw [← hbd] at hFlt
  clear hd hW hg hD hD3 kd hbA hb2 hbw2 kF2 HFT2 hbd HNEW
  simp only [dkv]
  go_upto_block 0 with (fail)
  rw [← HBD.out]
  go_cut [] from 9 to 58 (fun wc => ∃ i, i ≤ 9 ∧ KpR w2 bd i wc)
  case first =>
    go_wp2_with fail
    go_loopw [9] (fun iv wr => ∃ i : Nat, iv = .int .i64 i ∧ i ≤ 9 ∧ KpR w2 bd i wr) (fun iv _ => 9 - (intOf iv).toNat)
    case atStart => exact ⟨0, rfl, by omega, HN0.out⟩
    case round =>
      clear HN0 HFT3 kF3
      obtain ⟨i, rfl, hi9, A, c, B, m, e, d, hG, hmi, hK, hbr⟩ := hrel
      by_cases hgo : i < n0 ∧ i < 9
      · obtain ⟨h1, h2⟩ := hgo
        have hbwr := hbw3.trans (hbr.mono hbw3.size)
        obtain ⟨aS, x, eA, hx, hcA, hcB⟩ := wr_cell (HS0.out.below hbwr) h1
        have hltS : (aS.add (i * 2)).block < wr.heap.size := World.block_lt_of_cell? wr _ hcA
        obtain ⟨z1, z2, z3⟩ := HZ0.out x hx
        obtain ⟨st, hst⟩ : ∃ st, st = mkB x.s := ⟨_, rfl⟩
        have hoct := fun w2 => octs17_any st w2 (by rw [hst, mkB_size]; exact z3)
        obtain ⟨at_, hat⟩ : ∃ at_, at_ = x.at_ := ⟨_, rfl⟩
        rw [← hst] at hcB
        rw [← hat] at hcA z1 z2
        obtain ⟨V, hV⟩ : ∃ V : Nat → Prop, V = fun b => b ≠ bd := ⟨_, rfl⟩
        have kx := hK.box
        have hdk := hK.dk
        rw [← hV] at hdk
        have hput := fun ww hD => put_any A 4 c B m e d (fun b => V b ∧ b < wr.heap.size) at_ (octs17 st) ww hD hG.may z1 z2 (by have := octs17_size st; omega) (by omega)
        have hgp := fun he => hG.put at_ (oct (octs17 st)) he
        have hwp := fun he => putW_len hG at_ (oct (octs17 st)) he
        obtain ⟨PP, hPP⟩ : ∃ PP, PP = DiskP.put d at_ (oct (octs17 st)) := ⟨_, rfl⟩
        rw [← hPP] at hput hgp hwp
        have hwl := hdk.wlen
        have hosz : (oct (octs17 st)).length ≤ 1280 := by rw [oct_length]; exact octs17_size st
        rw [hG.left, hG.dead] at hput kx
        have HPP : Hid (PP.2 = 0 → DiskP.Good 4 PP.1 ∧ PP.1.W.length ≤ 10 * (i + 1)) := fun he => ⟨(hgp he).1, by have := hwp he; omega⟩
        have HPUT := hide hput
        have HOCT := hide hoct
        have HDK := hide hdk
        have HV := hide hV
        have HG := hide hG
        have HK := hide hK
        have HIN : Hid ((i : Int) < (n0 : Int) ∧ (0 : Int) ≤ (i : Int) ∧ i < n0) := ⟨by omega, by omega, h1⟩
        have d1 : decide (i < n0) = true := by simpa using h1
        have d2 : decide ((i : Int) < 9) = true := by simp; omega
        clear hst hat hput hoct hdk hV hG hgp hwp hPP hK hx hwl hosz
        subst eA
        go_upto_region 8 with (fail)
        clear d1 d2 h1
        go_cut [10, 11] from 40 to 55 (fun p e wc => PutEnd V wr PP p e wc)
        case first =>
          refine wp_region_noPanic ?_
          refine RegS.region (ds := [41, 42, 43, 44, 45, 46, 47, 48, 49, 50, 51, 52, 53, 40, 54, 55, 10]) (pure := [13, 14, 15]) (fresh := [16])
            (G := Gs [.is (dkv A 4 c B m e (-1) false), .is (.slice (some aS) n0 c0), .is (.int .i64 (i : Nat)), .is (.pointer (some (aS.add (i * 2)))), .is (.pointer (some (aS.add (i * 2)))), .is (.int .i64 at_), .is (.slice (some aS) n0 c0), .is (.int .i64 (i : Nat)), .is (.pointer (some (aS.add (i * 2)))), .is (.pointer (some ⟨(aS.add (i * 2)).block, (aS.add (i * 2)).off + 1, none⟩)), .is (.string st), .is (.string (octs17 st)), .two (.dk (fun b => V b ∧ b < wr.heap.size ∨ wr.heap.size ≤ b) PP.1) (.int .i64 (PP.2 : Nat)), .two (.dk (fun b => V b ∧ b < wr.heap.size ∨ wr.heap.size ≤ b) PP.1) (.int .i64 (PP.2 : Nat)), .dk (fun b => V b ∧ b < wr.heap.size ∨ wr.heap.size ≤ b) PP.1, .is (.int .i64 (PP.2 : Nat)), .box wr.heap.size 50 #[.slice none 0 0, .slice none 0 0, .int .i64 0, .bool false]])
            rfl (by kernel_rfl) (by kernel_rfl) ⟨by kernel_rfl, by kernel_rfl, fun i _ v w w' => gs_keep _ i v w w', ?quiet, ?step⟩ (fun _ _ _ _ _ h => h) ?tail
          case quiet =>
            intro i o hi hp ho u ww hd
            obtain rfl | rfl | rfl : i = 13 ∨ i = 14 ∨ i = 15 := by simp at hp; omega
            · simp only [List.getElem?_toArray, List.getElem?_cons_succ, List.getElem?_cons_zero, Option.some.injEq] at ho
              subst ho
              simp only [RegS.putAll, List.length_cons, List.length_nil, Nat.reduceAdd, List.getD_cons_zero, List.getD_cons_succ, Act.put, List.setIfInBounds_toArray, List.set_cons_zero, List.set_cons_succ]
              exact ⟨_, fun _ => rfl, hd 12 (by decide) (by rfl)⟩
            · simp only [List.getElem?_toArray, List.getElem?_cons_succ, List.getElem?_cons_zero, Option.some.injEq] at ho
              subst ho
              simp only [RegS.putAll, List.length_cons, List.length_nil, Nat.reduceAdd, List.getD_cons_zero, List.getD_cons_succ, Act.put, List.setIfInBounds_toArray, List.set_cons_zero, List.set_cons_succ]
              obtain ⟨x, e, h⟩ := hd 13 (by decide) (by rfl)
              rw [e]
              exact ⟨_, fun _ => rfl, h⟩
            · simp only [List.getElem?_toArray, List.getElem?_cons_succ, List.getElem?_cons_zero, Option.some.injEq] at ho
              subst ho
              simp only [RegS.putAll, List.length_cons, List.length_nil, Nat.reduceAdd, List.getD_cons_zero, List.getD_cons_succ, Act.put, List.setIfInBounds_toArray, List.set_cons_zero, List.set_cons_succ]
              obtain ⟨x, e, h⟩ := hd 13 (by decide) (by rfl)
              rw [e]
              exact ⟨_, fun _ => rfl, rfl⟩
          case step =>
            intro i o hi hp ho u ww hb hd K hK
            obtain rfl | rfl | rfl | rfl | rfl | rfl | rfl | rfl | rfl | rfl | rfl | rfl | rfl | rfl : i = 0 ∨ i = 1 ∨ i = 2 ∨ i = 3 ∨ i = 4 ∨ i = 5 ∨ i = 6 ∨ i = 7 ∨ i = 8 ∨ i = 9 ∨ i = 10 ∨ i = 11 ∨ i = 12 ∨ i = 16 := by simp at hp hi; omega
            · simp only [List.getElem?_toArray, List.getElem?_cons_zero, Option.some.injEq] at ho
              subst ho
              simp only [RegS.putAll, List.length_cons, List.length_nil, Nat.reduceAdd, List.getD_cons_zero, List.getD_cons_succ, Act.put, List.setIfInBounds_toArray, List.set_cons_zero, List.set_cons_succ]
              obtain ⟨q0, q1, q2, q3⟩ := (kx.belowS hb).cell4
              go_simp
              exact hK _ _ rfl (Below.refl _ _) rfl (fun h => absurd h (by decide))
            · simp only [List.getElem?_toArray, List.getElem?_cons_succ, List.getElem?_cons_zero, Option.some.injEq] at ho
              subst ho
              simp only [RegS.putAll, List.length_cons, List.length_nil, Nat.reduceAdd, List.getD_cons_zero, List.getD_cons_succ, Act.put, List.setIfInBounds_toArray, List.set_cons_zero, List.set_cons_succ]
              go_simp
              exact hK _ _ rfl (Below.refl _ _) rfl (fun h => absurd h (by decide))
            · simp only [List.getElem?_toArray, List.getElem?_cons_succ, List.getElem?_cons_zero, Option.some.injEq] at ho
              subst ho
              simp only [RegS.putAll, List.length_cons, List.length_nil, Nat.reduceAdd, List.getD_cons_zero, List.getD_cons_succ, Act.put, List.setIfInBounds_toArray, List.set_cons_zero, List.set_cons_succ]
              go_simp
              exact hK _ _ rfl (Below.refl _ _) rfl (fun h => absurd h (by decide))
            · simp only [List.getElem?_toArray, List.getElem?_cons_succ, List.getElem?_cons_zero, Option.some.injEq] at ho
              subst ho
              simp only [RegS.putAll, List.length_cons, List.length_nil, Nat.reduceAdd, List.getD_cons_zero, List.getD_cons_succ, Act.put, List.setIfInBounds_toArray, List.set_cons_zero, List.set_cons_succ]
              have e1 : u 1 = .slice (some aS) n0 c0 := hd 1 (by decide) (by rfl)
              have e2 : u 2 = .int .i64 (i : Nat) := hd 2 (by decide) (by rfl)
              obtain ⟨y1, y2, y3⟩ := HIN.out
              go_simp
              exact hK _ _ rfl (Below.refl _ _) rfl (fun h => absurd h (by decide))
            · simp only [List.getElem?_toArray, List.getElem?_cons_succ, List.getElem?_cons_zero, Option.some.injEq] at ho
              subst ho
              simp only [RegS.putAll, List.length_cons, List.length_nil, Nat.reduceAdd, List.getD_cons_zero, List.getD_cons_succ, Act.put, List.setIfInBounds_toArray, List.set_cons_zero, List.set_cons_succ]
              have e3 : u 3 = .pointer (some (aS.add (i * 2))) := hd 3 (by decide) (by rfl)
              go_simp
              exact hK _ _ rfl (Below.refl _ _) rfl (fun h => absurd h (by decide))
            · simp only [List.getElem?_toArray, List.getElem?_cons_succ, List.getElem?_cons_zero, Option.some.injEq] at ho
              subst ho
              simp only [RegS.putAll, List.length_cons, List.length_nil, Nat.reduceAdd, List.getD_cons_zero, List.getD_cons_succ, Act.put, List.setIfInBounds_toArray, List.set_cons_zero, List.set_cons_succ]
              have e4 : u 4 = .pointer (some (aS.add (i * 2))) := hd 4 (by decide) (by rfl)
              have hcs := (hb.cell (p := aS.add (i * 2)) hltS).trans hcA
              go_simp
              exact hK _ _ rfl (Below.refl _ _) rfl (fun h => absurd h (by decide))
            · simp only [List.getElem?_toArray, List.getElem?_cons_succ, List.getElem?_cons_zero, Option.some.injEq] at ho
              subst ho
              simp only [RegS.putAll, List.length_cons, List.length_nil, Nat.reduceAdd, List.getD_cons_zero, List.getD_cons_succ, Act.put, List.setIfInBounds_toArray, List.set_cons_zero, List.set_cons_succ]
              go_simp
              exact hK _ _ rfl (Below.refl _ _) rfl (fun h => absurd h (by decide))
            · simp only [List.getElem?_toArray, List.getElem?_cons_succ, List.getElem?_cons_zero, Option.some.injEq] at ho
              subst ho
              simp only [RegS.putAll, List.length_cons, List.length_nil, Nat.reduceAdd, List.getD_cons_zero, List.getD_cons_succ, Act.put, List.setIfInBounds_toArray, List.set_cons_zero, List.set_cons_succ]
              go_simp
              exact hK _ _ rfl (Below.refl _ _) rfl (fun h => absurd h (by decide))
            · simp only [List.getElem?_toArray, List.getElem?_cons_succ, List.getElem?_cons_zero, Option.some.injEq] at ho
              subst ho
              simp only [RegS.putAll, List.length_cons, List.length_nil, Nat.reduceAdd, List.getD_cons_zero, List.getD_cons_succ, Act.put, List.setIfInBounds_toArray, List.set_cons_zero, List.set_cons_succ]
              have e6 : u 6 = .slice (some aS) n0 c0 := hd 6 (by decide) (by rfl)
              have e7 : u 7 = .int .i64 (i : Nat) := hd 7 (by decide) (by rfl)
              obtain ⟨y1, y2, y3⟩ := HIN.out
              go_simp
              exact hK _ _ rfl (Below.refl _ _) rfl (fun h => absurd h (by decide))
            · simp only [List.getElem?_toArray, List.getElem?_cons_succ, List.getElem?_cons_zero, Option.some.injEq] at ho
              subst ho
              simp only [RegS.putAll, List.length_cons, List.length_nil, Nat.reduceAdd, List.getD_cons_zero, List.getD_cons_succ, Act.put, List.setIfInBounds_toArray, List.set_cons_zero, List.set_cons_succ]
              have e8 : u 8 = .pointer (some (aS.add (i * 2))) := hd 8 (by decide) (by rfl)
              go_simp
              exact hK _ _ rfl (Below.refl _ _) rfl (fun h => absurd h (by decide))
            · simp only [List.getElem?_toArray, List.getElem?_cons_succ, List.getElem?_cons_zero, Option.some.injEq] at ho
              subst ho
              simp only [RegS.putAll, List.length_cons, List.length_nil, Nat.reduceAdd, List.getD_cons_zero, List.getD_cons_succ, Act.put, List.setIfInBounds_toArray, List.set_cons_zero, List.set_cons_succ]
              have e9 : u 9 = .pointer (some ⟨(aS.add (i * 2)).block, (aS.add (i * 2)).off + 1, none⟩) := hd 9 (by decide) (by rfl)
              have hcs := (hb.cell (p := ⟨(aS.add (i * 2)).block, (aS.add (i * 2)).off + 1, none⟩) hltS).trans hcB
              go_simp
              exact hK _ _ rfl (Below.refl _ _) rfl (fun h => absurd h (by decide))
            · simp only [List.getElem?_toArray, List.getElem?_cons_succ, List.getElem?_cons_zero, Option.some.injEq] at ho
              subst ho
              simp only [RegS.putAll, List.length_cons, List.length_nil, Nat.reduceAdd, List.getD_cons_zero, List.getD_cons_succ, Act.put, List.setIfInBounds_toArray, List.set_cons_zero, List.set_cons_succ]
              have e10 : u 10 = .string st := hd 10 (by decide) (by rfl)
              go_simp
              refine (HOCT.out _).mono ?_
              rintro r w3 ⟨rfl, rfl⟩
              exact hK _ _ rfl (Below.refl _ _) rfl (fun h => absurd h (by decide))
            · simp only [List.getElem?_toArray, List.getElem?_cons_succ, List.getElem?_cons_zero, Option.some.injEq] at ho
              subst ho
              simp only [RegS.putAll, List.length_cons, List.length_nil, Nat.reduceAdd, List.getD_cons_zero, List.getD_cons_succ, Act.put, List.setIfInBounds_toArray, List.set_cons_zero, List.set_cons_succ]
              have e0 : u 0 = dkv A 4 c B m e (-1) false := hd 0 (by decide) (by rfl)
              have e5 : u 5 = .int .i64 at_ := hd 5 (by decide) (by rfl)
              have e11 : u 11 = .string (octs17 st) := hd 11 (by decide) (by rfl)
              go_simp
              refine (HPUT.out ww (HDK.out.lt'.below hb)).mono ?_
              rintro q w2 ⟨v, rfl, hv, hb2⟩
              exact hK _ _ rfl hb2 ⟨v, rfl, hv.mono fun b h => h.elim (fun h => .inl h) fun h => .inr (Nat.le_trans hb.size h)⟩ (fun h => absurd h (by decide))
            · simp only [List.getElem?_toArray, List.getElem?_cons_succ, List.getElem?_cons_zero, Option.some.injEq] at ho
              subst ho
              simp only [RegS.putAll, List.length_cons, List.length_nil, Nat.reduceAdd, List.getD_cons_zero, List.getD_cons_succ, Act.put, List.setIfInBounds_toArray, List.set_cons_zero, List.set_cons_succ]
              go_simp
              exact hK _ _ rfl ((Below.refl _ _).alloc (Nat.le_refl _) _) ⟨_, rfl, hb.size, Box.new _ _ _⟩ fun _ => ⟨rfl, by simp⟩
          case tail =>
            intro u ww hb hG hp hne
            simp only [RegS.putAll, List.length_cons, List.length_nil, Nat.reduceAdd, List.getD_cons_zero, List.getD_cons_succ, Act.put, List.setIfInBounds_toArray, List.set_cons_zero, List.set_cons_succ, List.drop_succ_cons, List.drop_zero]
            obtain ⟨A3, n3, c3, B3, m3, e3, e14, hD3⟩ := hG 14 (by decide)
            have e15 : u 15 = .int .i64 (PP.2 : Nat) := hG 15 (by decide)
            obtain ⟨b7, e16, l7, k7⟩ := hG 16 (by decide)
            clear hG hp hne
            have hD4 := hD3.notBox k7 noStr_disk
            obtain ⟨lf3, hlf3⟩ : ∃ lf3, lf3 = PP.1.left := ⟨_, rfl⟩
            obtain ⟨dd3, hdd3⟩ : ∃ dd3, dd3 = PP.1.dead := ⟨_, rfl⟩
            rw [← hlf3, ← hdd3] at e14
            have HL3 := hide hlf3
            have HD3' := hide hdd3
            have HDK3 := hide hD4
            clear hlf3 hdd3 hD4 hD3 HPUT HOCT
            obtain ⟨q0, q1, q2, q3⟩ := k7.cell4
            have f0 := k7.frozen 0
            have f1' := k7.frozen 1
            have f2' := k7.frozen 2
            have f3' := k7.frozen 3
            go_wp2_with fail
            refine NoPanic.normal ?_
            go_wp2_with fail
            go_meet
            exact ⟨b7, A3, n3, c3, B3, m3, e3, by first | rfl | exact e16, by first | rfl | exact e15, l7, by rw [← HL3.out, ← HD3'.out]; exact k7.set4, HDK3.out.set4 fun x hx => hx.2, below_set4 hb l7⟩
        case rest =>
          obtain ⟨b7, A3, n3, c3, B3, m3, e3, rfl, rfl, l7, k7, hD7, hbc⟩ := hcut
          have hbrc := hbr.trans (hbc.mono hbr.size)
          by_cases he : PP.2 = 0
          · obtain ⟨hg', hw'⟩ := HPP.out he
            obtain rfl : n3 = 4 := by rw [← hD7.len, hg'.len]
            have hm3 : m3 ≤ 10 * (i + 1) := by rw [← hD7.wlen]; exact hw'
            have kd := HK.out.box.belowS hbc
            have hbdl := HK.out.box.lt
            rw [hg'.left, hg'.dead] at k7
            have HG' := hide hg'
            have HD7 := hide (hD7.mono (V' := fun b => b ≠ bd) fun b hb => by
              rcases hb.1 with h | h
              · rw [HV.out] at h; exact h.1
              · omega)
            have hez : ((PP.2 : Nat) : Int) = 0 := by omega
            rw [hez]
            have hbs : w2.heap.size ≤ bd := by rw [HBD.out]; exact Nat.le_refl _
            clear he hg' hw' hD7 hbc HPUT HOCT HDK HPP HG hez kx
            obtain ⟨q0, q1, q2, q3⟩ := k7.cell4
            obtain ⟨p0, p1, p2, p3⟩ := kd.cell4
            have f0 := kd.frozen 0
            have f1 := kd.frozen 1
            have f2 := kd.frozen 2
            have f3 := kd.frozen 3
            go_wp2_with fail
            go_roundw
            case rel => exact ⟨i + 1, by go_num, by omega, A3, c3, B3, m3, e3, PP.1, HG'.out, hm3, ⟨by rw [HG'.out.left, HG'.out.dead]; exact kd.set4, HD7.out.set4 fun x hx => hx⟩, below_set4 hbrc hbs⟩
            case measure => simp [intOf]; omega
          · have he1 : ((PP.2 : Nat) : Int) ≠ 0 := by omega
            have d5 : decide (PP.2 = 0) = false := by simpa using he
            have HK2 := hide (HK.out.below hbc)
            clear he HPUT HOCT HDK HPP HK hbc kx k7 hD7
            obtain ⟨ev, hev⟩ : ∃ ev, ev = PP.2 := ⟨_, rfl⟩
            rw [← hev] at he1 d5 ⊢
            clear hev
            go_wp2_with fail
            go_roundw
            case rel => exact ⟨i + 1, by go_num, by omega, A, c, B, m, e, d, HG.out, by omega, HK2.out, hbrc⟩
            case measure => simp [intOf]; omega
      · have HE : Hid (KpR w2 bd i wr) := ⟨A, c, B, m, e, d, hG, hmi, hK, hbr⟩
        by_cases h1 : i < n0
        · have d1 : decide (i < n0) = true := by simpa using h1
          have d2 : decide ((i : Int) < 9) = false := by simp; omega
          clear hgo h1 hG hmi hK hbr
          go_wp2_with fail
          go_meet
          exact ⟨i, hi9, HE.out⟩
        · have d1 : decide (i < n0) = false := by simpa using h1
          clear hgo h1 hG hmi hK hbr
          go_wp2_with fail
          go_meet
          exact ⟨i, hi9, HE.out⟩
  case rest =>
    clear HN0 HS0 HZ0
    revert wc
    intro wL hcut
    obtain ⟨i, hi9, A, c, B, m, e, d, hG, hmi, hK, hbr⟩ := hcut
    have hbwL := hbw3.trans (hbr.mono hbw3.size)
    have kFL := kF3.belowS hbr
    have HFTL := hide (HFT3.out.below hbr)
    have hbar := fun ww hD => barrier_any A 4 c B m e d (fun b => b ≠ bd ∧ b < wL.heap.size) ww hD hG.may
    rw [hG.barrier, hG.left, hG.dead] at hbar
    have hG2 := hG.behind
    obtain ⟨d2, hd2⟩ : ∃ d2, d2 = ({ d with S := DiskP.done d, W := [] } : Disk) := ⟨_, rfl⟩
    have hW2 : d2.W = [] := by rw [hd2]
    rw [hG.left, hG.dead] at hd2
    rw [hG.left, hG.dead] at hG2
    rw [← hd2] at hG2 hbar
    have HBAR := hide hbar
    have kL := hK.box
    rw [hG.left, hG.dead] at kL
    have HDKL := hide hK.dk
    clear hbar hd2 hG hK hmi hi9 hbr kF3 HFT3
    obtain ⟨q0, q1, q2, q3⟩ := kL.cell4
    go_wp2_with fail
    refine (HBAR.out _ HDKL.out.lt').mono ?_
    rintro q w4 ⟨v, rfl, ⟨A, n, c, B, m, e, rfl, hD4⟩, hb4⟩
    obtain rfl : n = 4 := by rw [← hD4.len, hG2.len]
    obtain rfl : m = 0 := by rw [← hD4.wlen, hW2]; rfl
    rw [hG2.left, hG2.dead]
    have kd4 := kL.belowS hb4
    have hlL := kL.lt
    have hbw4 := hbwL.trans (hb4.mono hbwL.size)
    have kF4 := kFL.belowS hb4
    have HD4 := hide (hD4.mono (V' := fun b => b ≠ bd) fun b hb => by rcases hb with h | h; exact h.1; omega)
    have HFT4 := hide (HFTL.out.below hb4)
    clear hD4 hb4 HFTL kFL hbwL kL q0 q1 q2 q3 HBAR HDKL
    obtain ⟨p0, p1, p2, p3⟩ := kd4.cell4
    have f0 := kd4.frozen 0
    have f1 := kd4.frozen 1
    have f2 := kd4.frozen 2
    have f3 := kd4.frozen 3
    simp only [dkv]
    have kdM := kd4.set4 (u0 := .slice A 4 c) (u1 := .slice B 0 e) (u2 := .int .i64 (-1)) (u3 := .bool false)
    have kFM := kF4.far4 (u0 := .slice A 4 c) (u1 := .slice B 0 e) (u2 := .int .i64 (-1)) (u3 := .bool false) (show bd ≠ w.heap.size by omega)
    have hDM := HD4.out.set4 (b := bd) (u0 := .slice A 4 c) (u1 := .slice B 0 e) (u2 := .int .i64 (-1)) (u3 := .bool false) fun x hx => hx
    have hbwM := below_set4 (b := bd) (u0 := .slice A 4 c) (u1 := .slice B 0 e) (u2 := .int .i64 (-1)) (u3 := .bool false) hbw4 (by omega)
    have hFtM : Ft ((((w4.setCell ⟨bd, 0, none⟩ (.slice A 4 c)).setCell ⟨bd, 1, none⟩ (.slice B 0 e)).setCell ⟨bd, 2, none⟩ (.int .i64 (-1))).setCell ⟨bd, 3, none⟩ (.bool false)) (fun b => b < w.heap.size) FA fk fc ff :=
      ⟨HFT4.out.sl.keep (by rw [set4_size]; exact Nat.le_refl _) fun b hb _ => set4_far (by omega), HFT4.out.le⟩
    obtain ⟨wM, hwM⟩ : ∃ x, x = (((w4.setCell ⟨bd, 0, none⟩ (.slice A 4 c)).setCell ⟨bd, 1, none⟩ (.slice B 0 e)).setCell ⟨bd, 2, none⟩ (.int .i64 (-1))).setCell ⟨bd, 3, none⟩ (.bool false) := ⟨_, rfl⟩
    rw [← hwM] at kdM kFM hDM hbwM hFtM
    have HWM := hide hwM
    have HDM := hide hDM
    have HFTM := hide hFtM
    have hcrq := DiskP.crash_quiet ff hG2.may hW2
    have HCR : Hid (∀ ww V', Dk ww V' A 4 c B 0 e d2 → Ft ww (fun b => b < w.heap.size) FA fk fc ff → Calls Try.prog 37 #[.agg #[.slice A 4 c, .slice B 0 e, .int .i64 (-1), .bool false], .agg #[.slice FA fk fc, .int .i64 tn, .int .i64 ct]] ww fun q w' =>
        ∃ A5 c5 B5 e5, q = .returned (.agg #[.slice A5 4 c5, .slice B5 0 e5, .int .i64 (-1), .bool false]) ∧ Sl w' (fun b => ww.heap.size ≤ b) 1 A5 4 (secV d2.S) ∧ Below ww.heap.size ww w') := by
      intro ww V' hD hF
      have := crash_any A 4 c B 0 e d2 V' _ FA fk fc ff ww hD hG2.may hF
      rw [hG2.left, hG2.dead, hcrq] at this
      unfold ftv at this
      rw [← HTN.out, ← HCT.out] at this
      refine this.mono ?_
      rintro q w' ⟨v, rfl, ⟨A5, n5, c5, B5, m5, e5, rfl, h5⟩, hb5⟩
      obtain rfl : n5 = 4 := by rw [← h5.len]; exact hG2.len
      obtain rfl : m5 = 0 := by rw [← h5.wlen]; rfl
      exact ⟨A5, c5, B5, e5, rfl, h5.sS, hb5⟩
    have HSA : Hid (∀ ww V V' A5 c5 B5 e5, Sl ww V 1 A5 4 (secV d2.S) → Dk ww V' A 4 c B 0 e d2 → Calls Try.prog 36 #[.agg #[.slice A5 4 c5, .slice B5 0 e5, .int .i64 (-1), .bool false], .agg #[.slice A 4 c, .slice B 0 e, .int .i64 (-1), .bool false]] ww fun q w' => q = .returned (.bool true) ∧ Below ww.heap.size ww w') :=
      fun ww V V' A5 c5 B5 e5 h1 h2 => same17_any A5 A B5 B 4 c5 c e5 e (-1) false d2.S V V' ww h1 h2.sS (by decide)
    have HG2 := hide hG2
    have HW2 := hide hW2
    clear kd4 kF4 hbw4 HD4 HFT4 hwM hDM hFtM hcrq hG2 hW2
    go_upto_region 12 with (fail)
    rw [← HWM.out]
    clear HWM p0 p1 p2 p3 f0 f1 f2 f3
    have HSS : Hid (∀ ww, Below wM.heap.size wM ww → KpS bd w.heap.size (.slice A 4 c) (.slice B 0 e) (.int .i64 (-1)) (.bool false) (.slice FA fk fc) (.int .i64 tn) (.int .i64 ct) ww) := fun ww hb => kpS_mk (kdM.belowS hb) (kFM.belowS hb)
    go_region_held3 (fun w' => (w'.cell? ⟨bd, 0, none⟩ = some (.slice A 4 c) ∧ w'.cell? ⟨bd, 1, none⟩ = some (.slice B 0 e) ∧ w'.cell? ⟨bd, 2, none⟩ = some (.int .i64 (-1)) ∧ w'.cell? ⟨bd, 3, none⟩ = some (.bool false)) ∧ w'.cell? ⟨w.heap.size, 0, none⟩ = some (.slice FA fk fc) ∧ w'.cell? ⟨w.heap.size, 1, none⟩ = some (.int .i64 tn) ∧ w'.cell? ⟨w.heap.size, 2, none⟩ = some (.int .i64 ct))
      (first | (with_reducible exact (HSS.out wM (Below.refl _ _))) | (with_reducible exact (HSS.out wM.drew (Below.refl _ _).drew)) | (with_reducible exact (HSS.out wx hbx)) | (with_reducible exact (HSS.out wy (hbx.trans (hby.mono hbx.size)))))
      (first
        | ((with_reducible refine (HCR.out _ _ (HDM.out.below (Below.refl _ _).drew) (HFTM.out.below (Below.refl _ _).drew)).mono ?_); rintro q wx ⟨A5, c5, B5, e5, rfl, hs5, hbx⟩; have hbx := below_undrewK hbx)
        | ((with_reducible refine (HSA.out _ _ _ _ _ _ _ hs5 (HDM.out.below hbx)).mono ?_); rintro q wy ⟨rfl, hby⟩))
    have hbN := hbx.trans (hby.mono hbx.size)
    have kdN := kdM.belowS hbN
    have kFN := kFM.belowS hbN
    have HDN := hide (HDM.out.lt'.below hbN)
    have HFTN := hide (HFTM.out.below hbN)
    have hbwN := hbwM.trans (hbN.mono hbwM.size)
    clear hbx hby hs5 HSA HSS kdM kFM HDM HFTM hbwM hbN
    obtain ⟨q0, q1, q2, q3⟩ := kdN.cell4
    have kx0 := Box.new wy 50 #[.slice A 4 c, .slice B 0 e, .int .i64 (-1), .bool false]
    have hbX : Below wy.heap.size wy (wy.alloc (.cells #[.slice A 4 c, .slice B 0 e, .int .i64 (-1), .bool false] 50)) := (Below.refl _ _).alloc (Nat.le_refl _) _
    obtain ⟨bx, hbx⟩ : ∃ bx, bx = wy.heap.size := ⟨_, rfl⟩
    have hDx := (HDN.out.lt'.below hbX).mono (V' := fun b => b ≠ bx) fun b h => by have := h.2; omega
    have HN1 : Hid (KqR wy d2.S bx 0 (wy.alloc (.cells #[.slice A 4 c, .slice B 0 e, .int .i64 (-1), .bool false] 50))) :=
      ⟨A, c, B, 0, e, d2, HG2.out, rfl, Nat.le_refl _, ⟨by rw [HG2.out.left, HG2.out.dead, hbx]; exact kx0, hDx⟩, hbX⟩
    have HBX := hide hbx
    clear kx0 hbX hDx hbx
    go_upto_block 2 with (fail)
    rw [← HBX.out]
    clear q0 q1 q2 q3
    go_cut [] from 14 to 112 (fun wc => ∃ i, i ≤ 9 ∧ KqR wy d2.S bx i wc)
    case first =>
      go_wp2_with fail
      go_loopw [14] (fun iv wr => ∃ i : Nat, iv = .int .i64 i ∧ i ≤ 9 ∧ KqR wy d2.S bx i wr) (fun iv _ => 9 - (intOf iv).toNat)
      case atStart => exact ⟨0, rfl, by omega, HN1.out⟩
      case round =>
        clear HN1 HFTN kFN HDN kdN
        obtain ⟨i, rfl, hi9, A, c, B, m, e, d, hG, hxS, hmi, hK, hbr⟩ := hrel
        by_cases hgo : i < n1 ∧ i < 9
        · obtain ⟨h1, h2⟩ := hgo
          have hbwr := hbwN.trans (hbr.mono hbwN.size)
          obtain ⟨aS, x, eA, hx, hcA, hcB⟩ := wr_cell (HS1.out.below hbwr) h1
          have hltS : (aS.add (i * 2)).block < wr.heap.size := World.block_lt_of_cell? wr _ hcA
          obtain ⟨z1, z2, z3⟩ := HZ1.out x hx
          obtain ⟨st, hst⟩ : ∃ st, st = mkB x.s := ⟨_, rfl⟩
          have hoct := fun w2 => octs17_any st w2 (by rw [hst, mkB_size]; exact z3)
          obtain ⟨at_, hat⟩ : ∃ at_, at_ = x.at_ := ⟨_, rfl⟩
          rw [← hst] at hcB
          rw [← hat] at hcA z1 z2
          obtain ⟨V, hV⟩ : ∃ V : Nat → Prop, V = fun b => b ≠ bx := ⟨_, rfl⟩
          have kx := hK.box
          have hdk := hK.dk
          rw [← hV] at hdk
          have hput := fun ww hD => put_any A 4 c B m e d (fun b => V b ∧ b < wr.heap.size) at_ (octs17 st) ww hD hG.may z1 z2 (by have := octs17_size st; omega) (by omega)
          have hgp := fun he => hG.put at_ (oct (octs17 st)) he
          have hwp := fun he => putW_len hG at_ (oct (octs17 st)) he
          obtain ⟨PP, hPP⟩ : ∃ PP, PP = DiskP.put d at_ (oct (octs17 st)) := ⟨_, rfl⟩
          rw [← hPP] at hput hgp hwp
          have hwl := hdk.wlen
          have hosz : (oct (octs17 st)).length ≤ 1280 := by rw [oct_length]; exact octs17_size st
          rw [hG.left, hG.dead] at hput kx
          have HPP : Hid (PP.2 = 0 → DiskP.Good 4 PP.1 ∧ PP.1.W.length ≤ 10 * (i + 1) ∧ PP.1.S = d2.S) := fun he => ⟨(hgp he).1, by have := hwp he; omega, (hgp he).2.trans hxS⟩
          have HPUT := hide hput
          have HOCT := hide hoct
          have HDK := hide hdk
          have HV := hide hV
          have HG := hide hG
          have HK := hide hK
          have HIN : Hid ((i : Int) < (n1 : Int) ∧ (0 : Int) ≤ (i : Int) ∧ i < n1) := ⟨by omega, by omega, h1⟩
          have d1 : decide (i < n1) = true := by simpa using h1
          have d2 : decide ((i : Int) < 9) = true := by simp; omega
          clear hst hat hput hoct hdk hV hG hgp hwp hPP hK hx hwl hosz
          subst eA
          go_upto_region 18 with (fail)
          clear d1 d2 h1
          go_cut [15, 16] from 91 to 106 (fun p e wc => PutEnd V wr PP p e wc)
          case first =>
            refine wp_region_noPanic ?_
            refine RegS.region (ds := [92, 93, 94, 95, 96, 97, 98, 99, 100, 101, 102, 103, 104, 91, 105, 106, 15]) (pure := [13, 14, 15]) (fresh := [16])
              (G := Gs [.is (dkv A 4 c B m e (-1) false), .is (.slice (some aS) n1 c1), .is (.int .i64 (i : Nat)), .is (.pointer (some (aS.add (i * 2)))), .is (.pointer (some (aS.add (i * 2)))), .is (.int .i64 at_), .is (.slice (some aS) n1 c1), .is (.int .i64 (i : Nat)), .is (.pointer (some (aS.add (i * 2)))), .is (.pointer (some ⟨(aS.add (i * 2)).block, (aS.add (i * 2)).off + 1, none⟩)), .is (.string st), .is (.string (octs17 st)), .two (.dk (fun b => V b ∧ b < wr.heap.size ∨ wr.heap.size ≤ b) PP.1) (.int .i64 (PP.2 : Nat)), .two (.dk (fun b => V b ∧ b < wr.heap.size ∨ wr.heap.size ≤ b) PP.1) (.int .i64 (PP.2 : Nat)), .dk (fun b => V b ∧ b < wr.heap.size ∨ wr.heap.size ≤ b) PP.1, .is (.int .i64 (PP.2 : Nat)), .box wr.heap.size 50 #[.slice none 0 0, .slice none 0 0, .int .i64 0, .bool false]])
              rfl (by kernel_rfl) (by kernel_rfl) ⟨by kernel_rfl, by kernel_rfl, fun i _ v w w' => gs_keep _ i v w w', ?quiet, ?step⟩ (fun _ _ _ _ _ h => h) ?tail
            case quiet =>
              intro i o hi hp ho u ww hd
              obtain rfl | rfl | rfl : i = 13 ∨ i = 14 ∨ i = 15 := by simp at hp; omega
              · simp only [List.getElem?_toArray, List.getElem?_cons_succ, List.getElem?_cons_zero, Option.some.injEq] at ho
                subst ho
                simp only [RegS.putAll, List.length_cons, List.length_nil, Nat.reduceAdd, List.getD_cons_zero, List.getD_cons_succ, Act.put, List.setIfInBounds_toArray, List.set_cons_zero, List.set_cons_succ]
                exact ⟨_, fun _ => rfl, hd 12 (by decide) (by rfl)⟩
              · simp only [List.getElem?_toArray, List.getElem?_cons_succ, List.getElem?_cons_zero, Option.some.injEq] at ho
                subst ho
                simp only [RegS.putAll, List.length_cons, List.length_nil, Nat.reduceAdd, List.getD_cons_zero, List.getD_cons_succ, Act.put, List.setIfInBounds_toArray, List.set_cons_zero, List.set_cons_succ]
                obtain ⟨x, e, h⟩ := hd 13 (by decide) (by rfl)
                rw [e]
                exact ⟨_, fun _ => rfl, h⟩
              · simp only [List.getElem?_toArray, List.getElem?_cons_succ, List.getElem?_cons_zero, Option.some.injEq] at ho
                subst ho
                simp only [RegS.putAll, List.length_cons, List.length_nil, Nat.reduceAdd, List.getD_cons_zero, List.getD_cons_succ, Act.put, List.setIfInBounds_toArray, List.set_cons_zero, List.set_cons_succ]
                obtain ⟨x, e, h⟩ := hd 13 (by decide) (by rfl)
                rw [e]
                exact ⟨_, fun _ => rfl, rfl⟩
            case step =>
              intro i o hi hp ho u ww hb hd K hK
              obtain rfl | rfl | rfl | rfl | rfl | rfl | rfl | rfl | rfl | rfl | rfl | rfl | rfl | rfl : i = 0 ∨ i = 1 ∨ i = 2 ∨ i = 3 ∨ i = 4 ∨ i = 5 ∨ i = 6 ∨ i = 7 ∨ i = 8 ∨ i = 9 ∨ i = 10 ∨ i = 11 ∨ i = 12 ∨ i = 16 := by simp at hp hi; omega
              · simp only [List.getElem?_toArray, List.getElem?_cons_zero, Option.some.injEq] at ho
                subst ho
                simp only [RegS.putAll, List.length_cons, List.length_nil, Nat.reduceAdd, List.getD_cons_zero, List.getD_cons_succ, Act.put, List.setIfInBounds_toArray, List.set_cons_zero, List.set_cons_succ]
                obtain ⟨q0, q1, q2, q3⟩ := (kx.belowS hb).cell4
                go_simp
                exact hK _ _ rfl (Below.refl _ _) rfl (fun h => absurd h (by decide))
              · simp only [List.getElem?_toArray, List.getElem?_cons_succ, List.getElem?_cons_zero, Option.some.injEq] at ho
                subst ho
                simp only [RegS.putAll, List.length_cons, List.length_nil, Nat.reduceAdd, List.getD_cons_zero, List.getD_cons_succ, Act.put, List.setIfInBounds_toArray, List.set_cons_zero, List.set_cons_succ]
                go_simp
                exact hK _ _ rfl (Below.refl _ _) rfl (fun h => absurd h (by decide))
              · simp only [List.getElem?_toArray, List.getElem?_cons_succ, List.getElem?_cons_zero, Option.some.injEq] at ho
                subst ho
                simp only [RegS.putAll, List.length_cons, List.length_nil, Nat.reduceAdd, List.getD_cons_zero, List.getD_cons_succ, Act.put, List.setIfInBounds_toArray, List.set_cons_zero, List.set_cons_succ]
                go_simp
                exact hK _ _ rfl (Below.refl _ _) rfl (fun h => absurd h (by decide))
              · simp only [List.getElem?_toArray, List.getElem?_cons_succ, List.getElem?_cons_zero, Option.some.injEq] at ho
                subst ho
                simp only [RegS.putAll, List.length_cons, List.length_nil, Nat.reduceAdd, List.getD_cons_zero, List.getD_cons_succ, Act.put, List.setIfInBounds_toArray, List.set_cons_zero, List.set_cons_succ]
                have e1 : u 1 = .slice (some aS) n1 c1 := hd 1 (by decide) (by rfl)
                have e2 : u 2 = .int .i64 (i : Nat) := hd 2 (by decide) (by rfl)
                obtain ⟨y1, y2, y3⟩ := HIN.out
                go_simp
                exact hK _ _ rfl (Below.refl _ _) rfl (fun h => absurd h (by decide))
              · simp only [List.getElem?_toArray, List.getElem?_cons_succ, List.getElem?_cons_zero, Option.some.injEq] at ho
                subst ho
                simp only [RegS.putAll, List.length_cons, List.length_nil, Nat.reduceAdd, List.getD_cons_zero, List.getD_cons_succ, Act.put, List.setIfInBounds_toArray, List.set_cons_zero, List.set_cons_succ]
                have e3 : u 3 = .pointer (some (aS.add (i * 2))) := hd 3 (by decide) (by rfl)
                go_simp
                exact hK _ _ rfl (Below.refl _ _) rfl (fun h => absurd h (by decide))
              · simp only [List.getElem?_toArray, List.getElem?_cons_succ, List.getElem?_cons_zero, Option.some.injEq] at ho
                subst ho
                simp only [RegS.putAll, List.length_cons, List.length_nil, Nat.reduceAdd, List.getD_cons_zero, List.getD_cons_succ, Act.put, List.setIfInBounds_toArray, List.set_cons_zero, List.set_cons_succ]
                have e4 : u 4 = .pointer (some (aS.add (i * 2))) := hd 4 (by decide) (by rfl)
                have hcs := (hb.cell (p := aS.add (i * 2)) hltS).trans hcA
                go_simp
                exact hK _ _ rfl (Below.refl _ _) rfl (fun h => absurd h (by decide))
              · simp only [List.getElem?_toArray, List.getElem?_cons_succ, List.getElem?_cons_zero, Option.some.injEq] at ho
                subst ho
                simp only [RegS.putAll, List.length_cons, List.length_nil, Nat.reduceAdd, List.getD_cons_zero, List.getD_cons_succ, Act.put, List.setIfInBounds_toArray, List.set_cons_zero, List.set_cons_succ]
                go_simp
                exact hK _ _ rfl (Below.refl _ _) rfl (fun h => absurd h (by decide))
              · simp only [List.getElem?_toArray, List.getElem?_cons_succ, List.getElem?_cons_zero, Option.some.injEq] at ho
                subst ho
                simp only [RegS.putAll, List.length_cons, List.length_nil, Nat.reduceAdd, List.getD_cons_zero, List.getD_cons_succ, Act.put, List.setIfInBounds_toArray, List.set_cons_zero, List.set_cons_succ]
                go_simp
                exact hK _ _ rfl (Below.refl _ _) rfl (fun h => absurd h (by decide))
              · simp only [List.getElem?_toArray, List.getElem?_cons_succ, List.getElem?_cons_zero, Option.some.injEq] at ho
                subst ho
                simp only [RegS.putAll, List.length_cons, List.length_nil, Nat.reduceAdd, List.getD_cons_zero, List.getD_cons_succ, Act.put, List.setIfInBounds_toArray, List.set_cons_zero, List.set_cons_succ]
                have e6 : u 6 = .slice (some aS) n1 c1 := hd 6 (by decide) (by rfl)
                have e7 : u 7 = .int .i64 (i : Nat) := hd 7 (by decide) (by rfl)
                obtain ⟨y1, y2, y3⟩ := HIN.out
                go_simp
                exact hK _ _ rfl (Below.refl _ _) rfl (fun h => absurd h (by decide))
              · simp only [List.getElem?_toArray, List.getElem?_cons_succ, List.getElem?_cons_zero, Option.some.injEq] at ho
                subst ho
                simp only [RegS.putAll, List.length_cons, List.length_nil, Nat.reduceAdd, List.getD_cons_zero, List.getD_cons_succ, Act.put, List.setIfInBounds_toArray, List.set_cons_zero, List.set_cons_succ]
                have e8 : u 8 = .pointer (some (aS.add (i * 2))) := hd 8 (by decide) (by rfl)
                go_simp
                exact hK _ _ rfl (Below.refl _ _) rfl (fun h => absurd h (by decide))
              · simp only [List.getElem?_toArray, List.getElem?_cons_succ, List.getElem?_cons_zero, Option.some.injEq] at ho
                subst ho
                simp only [RegS.putAll, List.length_cons, List.length_nil, Nat.reduceAdd, List.getD_cons_zero, List.getD_cons_succ, Act.put, List.setIfInBounds_toArray, List.set_cons_zero, List.set_cons_succ]
                have e9 : u 9 = .pointer (some ⟨(aS.add (i * 2)).block, (aS.add (i * 2)).off + 1, none⟩) := hd 9 (by decide) (by rfl)
                have hcs := (hb.cell (p := ⟨(aS.add (i * 2)).block, (aS.add (i * 2)).off + 1, none⟩) hltS).trans hcB
                go_simp
                exact hK _ _ rfl (Below.refl _ _) rfl (fun h => absurd h (by decide))
              · simp only [List.getElem?_toArray, List.getElem?_cons_succ, List.getElem?_cons_zero, Option.some.injEq] at ho
                subst ho
                simp only [RegS.putAll, List.length_cons, List.length_nil, Nat.reduceAdd, List.getD_cons_zero, List.getD_cons_succ, Act.put, List.setIfInBounds_toArray, List.set_cons_zero, List.set_cons_succ]
                have e10 : u 10 = .string st := hd 10 (by decide) (by rfl)
                go_simp
                refine (HOCT.out _).mono ?_
                rintro r w3 ⟨rfl, rfl⟩
                exact hK _ _ rfl (Below.refl _ _) rfl (fun h => absurd h (by decide))
              · simp only [List.getElem?_toArray, List.getElem?_cons_succ, List.getElem?_cons_zero, Option.some.injEq] at ho
                subst ho
                simp only [RegS.putAll, List.length_cons, List.length_nil, Nat.reduceAdd, List.getD_cons_zero, List.getD_cons_succ, Act.put, List.setIfInBounds_toArray, List.set_cons_zero, List.set_cons_succ]
                have e0 : u 0 = dkv A 4 c B m e (-1) false := hd 0 (by decide) (by rfl)
                have e5 : u 5 = .int .i64 at_ := hd 5 (by decide) (by rfl)
                have e11 : u 11 = .string (octs17 st) := hd 11 (by decide) (by rfl)
                go_simp
                refine (HPUT.out ww (HDK.out.lt'.below hb)).mono ?_
                rintro q w2 ⟨v, rfl, hv, hb2⟩
                exact hK _ _ rfl hb2 ⟨v, rfl, hv.mono fun b h => h.elim (fun h => .inl h) fun h => .inr (Nat.le_trans hb.size h)⟩ (fun h => absurd h (by decide))
              · simp only [List.getElem?_toArray, List.getElem?_cons_succ, List.getElem?_cons_zero, Option.some.injEq] at ho
                subst ho
                simp only [RegS.putAll, List.length_cons, List.length_nil, Nat.reduceAdd, List.getD_cons_zero, List.getD_cons_succ, Act.put, List.setIfInBounds_toArray, List.set_cons_zero, List.set_cons_succ]
                go_simp
                exact hK _ _ rfl ((Below.refl _ _).alloc (Nat.le_refl _) _) ⟨_, rfl, hb.size, Box.new _ _ _⟩ fun _ => ⟨rfl, by simp⟩
            case tail =>
              intro u ww hb hG hp hne
              simp only [RegS.putAll, List.length_cons, List.length_nil, Nat.reduceAdd, List.getD_cons_zero, List.getD_cons_succ, Act.put, List.setIfInBounds_toArray, List.set_cons_zero, List.set_cons_succ, List.drop_succ_cons, List.drop_zero]
              obtain ⟨A3, n3, c3, B3, m3, e3, e14, hD3⟩ := hG 14 (by decide)
              have e15 : u 15 = .int .i64 (PP.2 : Nat) := hG 15 (by decide)
              obtain ⟨b7, e16, l7, k7⟩ := hG 16 (by decide)
              clear hG hp hne
              have hD4 := hD3.notBox k7 noStr_disk
              obtain ⟨lf3, hlf3⟩ : ∃ lf3, lf3 = PP.1.left := ⟨_, rfl⟩
              obtain ⟨dd3, hdd3⟩ : ∃ dd3, dd3 = PP.1.dead := ⟨_, rfl⟩
              rw [← hlf3, ← hdd3] at e14
              have HL3 := hide hlf3
              have HD3' := hide hdd3
              have HDK3 := hide hD4
              clear hlf3 hdd3 hD4 hD3 HPUT HOCT
              obtain ⟨q0, q1, q2, q3⟩ := k7.cell4
              have f0 := k7.frozen 0
              have f1' := k7.frozen 1
              have f2' := k7.frozen 2
              have f3' := k7.frozen 3
              go_wp2_with fail
              refine NoPanic.normal ?_
              go_wp2_with fail
              go_meet
              exact ⟨b7, A3, n3, c3, B3, m3, e3, by first | rfl | exact e16, by first | rfl | exact e15, l7, by rw [← HL3.out, ← HD3'.out]; exact k7.set4, HDK3.out.set4 fun x hx => hx.2, below_set4 hb l7⟩
          case rest =>
            obtain ⟨b7, A3, n3, c3, B3, m3, e3, rfl, rfl, l7, k7, hD7, hbc⟩ := hcut
            have hbrc := hbr.trans (hbc.mono hbr.size)
            by_cases he : PP.2 = 0
            · obtain ⟨hg', hw', hS'⟩ := HPP.out he
              obtain rfl : n3 = 4 := by rw [← hD7.len, hg'.len]
              have hm3 : m3 ≤ 10 * (i + 1) := by rw [← hD7.wlen]; exact hw'
              have kd := HK.out.box.belowS hbc
              have hbdl := HK.out.box.lt
              rw [hg'.left, hg'.dead] at k7
              have HG' := hide hg'
              have HD7 := hide (hD7.mono (V' := fun b => b ≠ bx) fun b hb => by
                rcases hb.1 with h | h
                · rw [HV.out] at h; exact h.1
                · omega)
              have hez : ((PP.2 : Nat) : Int) = 0 := by omega
              rw [hez]
              have hbs : wy.heap.size ≤ bx := by rw [HBX.out]; exact Nat.le_refl _
              clear he hg' hw' hD7 hbc HPUT HOCT HDK HPP HG hez kx
              obtain ⟨q0, q1, q2, q3⟩ := k7.cell4
              obtain ⟨p0, p1, p2, p3⟩ := kd.cell4
              have f0 := kd.frozen 0
              have f1 := kd.frozen 1
              have f2 := kd.frozen 2
              have f3 := kd.frozen 3
              have kx2 := kd.set4 (u0 := .slice A3 4 c3) (u1 := .slice B3 m3 e3) (u2 := .int .i64 (-1)) (u3 := .bool false)
              have hDx := HD7.out.set4 (b := bx) (u0 := .slice A3 4 c3) (u1 := .slice B3 m3 e3) (u2 := .int .i64 (-1)) (u3 := .bool false) fun x hx => hx
              have hbrx := below_set4 (b := bx) (u0 := .slice A3 4 c3) (u1 := .slice B3 m3 e3) (u2 := .int .i64 (-1)) (u3 := .bool false) hbrc hbs
              have hput2 := fun ww V' hD => put_any A3 4 c3 B3 m3 e3 PP.1 V' 0 (reps 122 128) ww hD HG'.out.may (by decide) (by decide) (by rw [reps_size]; decide) (by omega)
              rw [HG'.out.left, HG'.out.dead] at hput2
              have HPUT2 := hide hput2
              have HALL2 : Hid (∀ w1, Calls Try.prog 38 #[.int .u8 122, .int .i64 1] w1 fun e w' => e = .returned (.string (reps 122 128)) ∧ Below w1.heap.size w1 w') := fun w1 => all17_any 122 1 128 w1 rfl (by decide)
              obtain ⟨wX, hwX⟩ : ∃ x, x = ((((wc.setCell ⟨bx, 0, none⟩ (.slice A3 4 c3)).setCell ⟨bx, 1, none⟩ (.slice B3 m3 e3)).setCell ⟨bx, 2, none⟩ (.int .i64 (-1))).setCell ⟨bx, 3, none⟩ (.bool false)) := ⟨_, rfl⟩
              rw [← hwX] at kx2 hDx hbrx
              have HWX := hide hwX
              have HDX := hide hDx
              clear hwX hDx hput2 HD7
              go_upto_region 21 with (fail)
              rw [← HWX.out]
              clear HWX q0 q1 q2 q3 p0 p1 p2 p3 f0 f1 f2 f3 kd k7
              have HSS : Hid (∀ ww, Below wX.heap.size wX ww → _) := fun ww hb => (kx2.belowS hb).cell4
              go_region_held3 (fun w' => w'.cell? ⟨bx, 0, none⟩ = some (.slice A3 4 c3) ∧ w'.cell? ⟨bx, 1, none⟩ = some (.slice B3 m3 e3) ∧ w'.cell? ⟨bx, 2, none⟩ = some (.int .i64 (-1)) ∧ w'.cell? ⟨bx, 3, none⟩ = some (.bool false))
                (first | (with_reducible exact (HSS.out wX (Below.refl _ _))) | (with_reducible exact (HSS.out wX.drew (Below.refl _ _).drew)) | (with_reducible exact (HSS.out wa hba)) | (with_reducible exact (HSS.out wb (hba.trans (hbb.mono hba.size)))))
                (first
                  | ((with_reducible refine (HALL2.out _).mono ?_); rintro q wa ⟨rfl, hba⟩; have hba := below_undrewK hba)
                  | ((with_reducible refine (HPUT2.out _ _ (HDX.out.below hba)).mono ?_); rintro q wb ⟨v, rfl, hv, hbb⟩))
              have hbb2 := hba.trans (hbb.mono hba.size)
              have hbrE := hbrx.trans (hbb2.mono hbrx.size)
              clear hv hba hbb HSS HPUT2 HALL2
              go_wp2_with fail
              go_roundw
              case rel => exact ⟨i + 1, by go_num, by omega, A3, c3, B3, m3, e3, PP.1, HG'.out, hS', hm3, ⟨by rw [HG'.out.left, HG'.out.dead]; exact kx2.belowS hbb2, HDX.out.lt'.below hbb2 |>.mono fun b hb => hb.1⟩, hbrE⟩
              case measure => simp [intOf]; omega
            · have he1 : ((PP.2 : Nat) : Int) ≠ 0 := by omega
              have d5 : decide (PP.2 = 0) = false := by simpa using he
              have HK2 := hide (HK.out.below hbc)
              clear he HPUT HOCT HDK HPP HK hbc kx k7 hD7
              obtain ⟨ev, hev⟩ : ∃ ev, ev = PP.2 := ⟨_, rfl⟩
              rw [← hev] at he1 d5 ⊢
              clear hev
              go_wp2_with fail
              go_roundw
              case rel => exact ⟨i + 1, by go_num, by omega, A, c, B, m, e, d, HG.out, hxS, by omega, HK2.out, hbrc⟩
              case measure => simp [intOf]; omega
        · have HE : Hid (KqR wy d2.S bx i wr) := ⟨A, c, B, m, e, d, hG, hxS, hmi, hK, hbr⟩
          by_cases h1 : i < n1
          · have d1 : decide (i < n1) = true := by simpa using h1
            have d2 : decide ((i : Int) < 9) = false := by simp; omega
            clear hgo h1 hG hxS hmi hK hbr
            go_wp2_with fail
            go_meet
            exact ⟨i, hi9, HE.out⟩
          · have d1 : decide (i < n1) = false := by simpa using h1
            clear hgo h1 hG hxS hmi hK hbr
            go_wp2_with fail
            go_meet
            exact ⟨i, hi9, HE.out⟩

    case rest =>
      revert wc
      intro wP hcut
      obtain ⟨i, hi9, A3, c3, B3, m3, e3, x, hG, hxS, hmi, hK, hbr⟩ := hcut
      have kxP := hK.box
      rw [hG.left, hG.dead] at kxP
      have HDXP := hide hK.dk
      have kdP := kdN.belowS hbr
      have kFP := kFN.belowS hbr
      have HDP := hide (HDN.out.below hbr)
      have HFTP := hide (HFTN.out.below hbr)
      have hbwP := hbwN.trans (hbr.mono hbwN.size)
      obtain ⟨y, hy⟩ : ∃ y, y = DiskP.crash x ff := ⟨_, rfl⟩
      have hyp := LogP.crash_may ff hG.may
      rw [← hy] at hyp
      have hyS : y.S = DiskP.crashGo ff 0 x.W x.S := by rw [hyp.2.2.1]
      have hyM : DiskP.may y = true := hyp.2.2.2.may
      have hylen : y.S.length = 4 := by rw [hyS, DiskP.crashGo_len, hG.len]
      have hyW : y.W = [] := by rw [hyp.2.2.1]
      have hyl : y.left = -1 := by rw [hyp.2.2.1]
      have hyd : y.dead = false := by rw [hyp.2.2.1]
      have HCR2 : Hid (∀ ww V', Dk ww V' A3 4 c3 B3 m3 e3 x → Ft ww (fun b => b < w.heap.size) FA fk fc ff → Calls Try.prog 37 #[.agg #[.slice A3 4 c3, .slice B3 m3 e3, .int .i64 (-1), .bool false], .agg #[.slice FA fk fc, .int .i64 tn, .int .i64 ct]] ww fun q w' =>
          ∃ A6 c6 B6 e6, q = .returned (.agg #[.slice A6 4 c6, .slice B6 0 e6, .int .i64 (-1), .bool false]) ∧ Dk w' (fun b => ww.heap.size ≤ b) A6 4 c6 B6 0 e6 y ∧ Below ww.heap.size ww w') := by
        intro ww V' hD hF
        have := crash_any A3 4 c3 B3 m3 e3 x V' _ FA fk fc ff ww hD hG.may hF
        rw [hG.left, hG.dead, ← hy] at this
        unfold ftv at this
        rw [← HTN.out, ← HCT.out] at this
        refine this.mono ?_
        rintro q w' ⟨v, rfl, ⟨A5, n5, c5, B5, m5, e5, rfl, h5⟩, hb5⟩
        obtain rfl : n5 = 4 := by rw [← h5.len]; exact hylen
        obtain rfl : m5 = 0 := by rw [← h5.wlen, hyW]; rfl
        exact ⟨A5, c5, B5, e5, by rw [hyl, hyd], h5, hb5⟩
      have HYM := hide hyM
      have HYL : Hid (y.left = -1 ∧ y.dead = false) := ⟨hyl, hyd⟩
      have HOK : Hid (∀ i k : Nat, ∀ yb db : UInt8, (y.S.getD i [])[k]? = some yb → (d2.S.getD i [])[k]? = some db → okK yb db x.W i k m3 = true) := by
        intro i k yb db h1 h2
        have hmw := (DiskP.may_iff x).1 hG.may
        rw [hyS] at h1
        rcases (DiskP.crashGo_from ff x.W 0 x.S hmw.2.2.2.2 hmw.2.2.2.1).2 i k yb h1 with h | ⟨v, hv, e1, e2⟩
        · rw [hxS, h2] at h
          have := Option.some.inj h
          simp [okK, this]
        · unfold okK
          rw [List.take_of_length_le (by rw [hK.dk.wlen]; exact Nat.le_refl _)]
          simp only [Bool.or_eq_true, List.any_eq_true]
          exact .inr ⟨v, hv, by simp [e1, e2]⟩
      have HWL : Hid (∀ v ∈ x.W, v.s.length = 128) := fun v hv => (((DiskP.may_iff x).1 hG.may).2.2.2.2 v hv).2.2
      have HSL : Hid (∀ s ∈ d2.S, s.length = 128) := ((DiskP.may_iff d2).1 HG2.out.may).2.2.2.1
      have HYS : Hid (∀ s ∈ y.S, s.length = 128) := ((DiskP.may_iff y).1 hyM).2.2.2.1
      have hm3 : m3 ≤ 90 := by omega
      clear hG hxS hmi hK hbr kdN kFN HDN HFTN hbwN hy hyp hyS hyM hylen hyW hyl hyd HN1
      obtain ⟨q0, q1, q2, q3⟩ := kxP.cell4
      have t0 := kFP.cellAt (i := 0) rfl
      have t1 := kFP.cellAt (i := 1) rfl
      have t2 := kFP.cellAt (i := 2) rfl
      go_wp2_with fail
      refine (HCR2.out _ _ HDXP.out HFTP.out).mono ?_
      rintro q w7 ⟨A6, c6, B6, e6, rfl, hD6, hb7⟩
      have kxQ := kxP.belowS hb7
      have kdQ := kdP.belowS hb7
      have HDXQ := hide (HDXP.out.below hb7)
      have HDQ := hide (HDP.out.below hb7)
      have hbwQ := hbwP.trans (hb7.mono hbwP.size)
      have ky := Box.new w7 50 #[.slice A6 4 c6, .slice B6 0 e6, .int .i64 (-1), .bool false]
      have hbY : Below w7.heap.size w7 (w7.alloc (.cells #[.slice A6 4 c6, .slice B6 0 e6, .int .i64 (-1), .bool false] 50)) := (Below.refl _ _).alloc (Nat.le_refl _) _
      obtain ⟨by_, hby_⟩ : ∃ b, b = w7.heap.size := ⟨_, rfl⟩
      have hDY := hD6.lt'.below hbY
      have kxR := kxQ.belowS hbY
      have kdR := kdQ.belowS hbY
      have HDXR := hide (HDXQ.out.below hbY)
      have HDR := hide (HDQ.out.below hbY)
      have hbwR := hbwQ.trans (hbY.mono hbwQ.size)
      have HRM : Hid (∀ ww V', Dk ww V' A6 4 c6 B6 0 e6 y → Calls Try.prog 39 #[.agg #[.slice A6 4 c6, .slice B6 0 e6, .int .i64 (-1), .bool false]] ww fun q w' => q = .returned (.bool true) ∧ Below ww.heap.size ww w') := by
        intro ww V' hD
        have := rmay_any A6 4 c6 B6 0 e6 y V' ww hD
        rw [HYL.out.1, HYL.out.2, HYM.out] at this
        exact this
      rw [← hby_] at ky
      have HBY := hide hby_
      have HDY := hide hDY
      obtain ⟨wR, hwR⟩ : ∃ x, x = w7.alloc (.cells #[.slice A6 4 c6, .slice B6 0 e6, .int .i64 (-1), .bool false] 50) := ⟨_, rfl⟩
      rw [← hwR] at ky kxR kdR hbwR HDXR HDR HDY
      have HWR := hide hwR
      clear q0 q1 q2 q3 t0 t1 t2 hby_ hDY hbY kxQ kdQ HDXQ HDQ hbwQ kxP kdP kFP HDXP HDP HFTP hbwP HCR2 hb7 hD6 hwR
      go_upto_region 23 with (fail)
      rw [← HWR.out, ← HBY.out]
      clear HWR HBY
      obtain ⟨q0, q1, q2, q3⟩ := ky.cell4
      go_wp2_with fail
      refine (HRM.out _ _ HDY.out).mono ?_
      rintro q wE ⟨rfl, hbE⟩
      have kyE := ky.belowS hbE
      have kxE := kxR.belowS hbE
      have kdE := kdR.belowS hbE
      have HDXE := hide (HDXR.out.below hbE)
      have HDE := hide (HDR.out.below hbE)
      have HDYE := hide (HDY.out.below hbE)
      have hbwE := hbwR.trans (hbE.mono hbwR.size)
      clear q0 q1 q2 q3 ky kxR kdR HDXR HDR HDY hbwR hbE HRM
      have HKY := hide kyE
      have HKX := hide kxE
      have HKD := hide kdE
      obtain ⟨q0, q1, q2, q3⟩ := kyE.cell4
      clear kyE kxE kdE
      go_wp2_with fail
      clear q0 q1 q2 q3
      go_loopw [18] (fun iv wr => ∃ i : Nat, iv = .int .i64 i ∧ i ≤ 4 ∧ Below wE.heap.size wE wr) (fun iv _ => 4 - (intOf iv).toNat)
      case atStart => exact ⟨0, rfl, by omega, Below.refl _ _⟩
      case round =>
        obtain ⟨i, rfl, hi4, hbi⟩ := hrel
        by_cases hi : i < 4
        · have d1 : decide ((i : Int) < 4) = true := by simp; omega
          have hi' : (i : Int) < 4 := by omega
          go_wp2_with fail
          go_loopw [19] (fun kv wr => ∃ k : Nat, kv = .int .i64 k ∧ k ≤ 128 ∧ Below wE.heap.size wE wr) (fun kv _ => 128 - (intOf kv).toNat)
          case atStart => exact ⟨0, rfl, by omega, hbi⟩
          case round =>
            obtain ⟨k, rfl, hk128, hbk⟩ := hrel
            by_cases hk : k < 128
            · have e1 : decide ((k : Int) < 128) = true := by simp; omega
              obtain ⟨sY, hsY⟩ : ∃ s, s = mkB (y.S.getD i []) := ⟨_, rfl⟩
              obtain ⟨sD, hsD⟩ : ∃ s, s = mkB (d2.S.getD i []) := ⟨_, rfl⟩
              have hDYk := HDYE.out.below hbk
              have hDk := HDE.out.below hbk
              obtain ⟨aY, xY, eY, gY, cY⟩ := hDYk.sec hi
              obtain ⟨aD, xD, eD, gD, cD⟩ := hDk.sec hi
              have gY' : y.S.getD i [] = xY := by rw [List.getD_eq_getElem?_getD, gY]; rfl
              have gD' : d2.S.getD i [] = xD := by rw [List.getD_eq_getElem?_getD, gD]; rfl
              have lY : xY.length = 128 := HYS.out _ (List.mem_of_getElem? gY)
              have lD : xD.length = 128 := HSL.out _ (List.mem_of_getElem? gD)
              rw [gY'] at hsY
              rw [gD'] at hsD
              rw [← hsY] at cY
              rw [← hsD] at cD
              have szY : sY.size = 128 := by rw [hsY, mkB_size, lY]
              have szD : sD.size = 128 := by rw [hsD, mkB_size, lD]
              have kY : k < sY.size := by omega
              have kD : k < sD.size := by omega
              obtain ⟨yb, hyb⟩ : ∃ b, b = sY[k] := ⟨_, rfl⟩
              obtain ⟨db, hdb⟩ : ∃ b, b = sD[k] := ⟨_, rfl⟩
              have hyk : (y.S.getD i [])[k]? = some yb := by
                rw [gY', hyb, List.getElem?_eq_getElem (by omega)]
                subst hsY
                rfl
              have hdk : (d2.S.getD i [])[k]? = some db := by
                rw [gD', hdb, List.getElem?_eq_getElem (by omega)]
                subst hsD
                rfl
              have HFIN := hide (HOK.out i k yb db hyk hdk)
              have nY : (sY[k].toNat : Int) = (yb.toNat : Int) := by rw [hyb]
              have nD : (sD[k].toNat : Int) = (db.toNat : Int) := by rw [hdb]
              obtain ⟨q0, _, _, _⟩ := (HKY.out.belowS hbk).cell4
              obtain ⟨p0, _, _, _⟩ := (HKD.out.belowS hbk).cell4
              obtain ⟨b0, hb0⟩ : ∃ b0, b0 = decide (yb = db) := ⟨_, rfl⟩
              have iY : (k : Int) < (sY.size : Int) := by omega
              have iD : (k : Int) < (sD.size : Int) := by omega
              have HSY : Hid (∀ xx, y.S[i]? = some xx → mkB xx = sY) := fun xx h => by
                rw [gY] at h
                rw [hsY, Option.some.inj h]
              subst eY eD
              clear hsY hsD hDYk hDk gY gD gY' gD' lY lD szY szD hyb hdb hyk hdk
              go_wp2_with fail
              go_quiet (fail)
              have hbeq : ((yb.toNat : Int) == (db.toNat : Int)) = okK yb db x.W i k 0 := by
                rw [okK_zero, Bool.eq_iff_iff]
                simp only [beq_iff_eq, decide_eq_true_eq]
                constructor
                · intro h; exact UInt8.toNat_inj.1 (by omega)
                · intro h; rw [h]
              rw [hbeq]
              have hbq : Below wE.heap.size wE (wr.drewN nq) := below_drewN hbk nq
              obtain ⟨wq, hwq⟩ : ∃ x, x = wr.drewN nq := ⟨_, rfl⟩
              obtain ⟨o0, ho0⟩ : ∃ o, o = okK yb db x.W i k 0 := ⟨_, rfl⟩
              rw [← hwq] at hbq ⊢
              rw [← ho0]
              have HO0 := hide ho0
              clear q0 p0 cY cD hbeq hwq hb0 ho0 nD iD kD hbk
              go_wp2_with fail
              go_loopw [20, 21] (fun ov jv wr => ∃ j : Nat, ov = .bool (okK yb db x.W i k j) ∧ jv = .int .i64 j ∧ j ≤ m3 ∧ Below wE.heap.size wE wr) (fun _ jv _ => m3 - (intOf jv).toNat)
              case atStart => exact ⟨0, by rw [HO0.out], rfl, by omega, hbq⟩
              case round =>
                obtain ⟨j, rfl, rfl, hjm, hbj⟩ := hrel
                clear HO0
                obtain ⟨p0, p1, _, _⟩ := (HKX.out.belowS hbj).cell4
                by_cases hj : j < m3
                · have e2 : decide (j < m3) = true := by simpa using hj
                  obtain ⟨aW, x1, eW, gW, cW1, cW2⟩ := (HDXE.out.below hbj).wr hj
                  have hst := okK_succ (yb := yb) (db := db) (i := i) (k := k) gW
                  have lW := HWL.out _ (List.mem_of_getElem? gW)
                  obtain ⟨sW, hsW⟩ : ∃ s, s = mkB x1.s := ⟨_, rfl⟩
                  have szW : sW.size = 128 := by rw [hsW, mkB_size, lW]
                  have kW : k < sW.size := by omega
                  have hwk : x1.s[k]? = some sW[k] := by
                    rw [List.getElem?_eq_getElem (by omega)]
                    subst hsW
                    rfl
                  rw [← hsW] at cW2
                  obtain ⟨xb, hxb⟩ : ∃ b, b = sW[k] := ⟨_, rfl⟩
                  have nW : (sW[k].toNat : Int) = (xb.toNat : Int) := by rw [hxb]
                  rw [← hxb] at hwk
                  rw [hwk] at hst
                  obtain ⟨o1, ho1⟩ : ∃ o, o = okK yb db x.W i k j := ⟨_, rfl⟩
                  obtain ⟨o2, ho2⟩ : ∃ o, o = okK yb db x.W i k (j + 1) := ⟨_, rfl⟩
                  rw [← ho1, ← ho2] at hst
                  rw [← ho1]
                  have HO2 := hide ho2
                  have HST := hide hst
                  obtain ⟨atv, hat⟩ : ∃ a, a = x1.at_ := ⟨_, rfl⟩
                  rw [← hat] at cW1
                  have HAT := hide hat
                  have iW : (k : Int) < (sW.size : Int) := by omega
                  have jI : (j : Int) < (m3 : Int) := by omega
                  obtain ⟨q0, _, _, _⟩ := (HKY.out.belowS hbj).cell4
                  obtain ⟨aY2, xY2, eY2, gY2, cY2⟩ := (HDYE.out.below hbj).sec hi
                  have hxs := HSY.out _ gY2
                  rw [hxs] at cY2
                  obtain rfl := Option.some.inj eY2
                  subst eW
                  have HBJ := hide hbj
                  have SZW := hide szW
                  clear hsW szW lW hwk hxb ho1 ho2 hst hat gW gY2 hxs eY2 hbj
                  cases o1 with
                  | true =>
                    go_wp2_with fail
                    go_quiet (fail)
                    go_wp2_with fail
                    go_roundw
                    case rel => exact ⟨j + 1, by rw [← HO2.out, HST.out]; rfl, by go_num, by omega, below_drewN HBJ.out _⟩
                    case measure => simp [intOf]; omega
                  | false =>
                    by_cases hai : atv = (i : Int)
                    · have hb2 : ((xb.toNat : Int) == (yb.toNat : Int)) = o2 := by
                        rw [HST.out, ← HAT.out, hai, Bool.eq_iff_iff]
                        simp only [beq_iff_eq, Bool.false_or, decide_true, Bool.true_and, decide_eq_true_eq, Option.some.injEq]
                        constructor
                        · intro h; exact UInt8.toNat_inj.1 (by omega)
                        · intro h; rw [h]
                      have HB2 := hide hb2
                      subst hai
                      have sz1 : ((sW.size : Int) == 128) = true := by rw [SZW.out]; rfl
                      have sz2 : decide (sW.size = 128) = true := by simpa using SZW.out
                      clear hb2
                      go_wp2_with fail
                      go_quiet (fail)
                      rw [HB2.out]
                      go_wp2_with fail
                      go_roundw
                      case rel => exact ⟨j + 1, by rw [← HO2.out], by go_num, by omega, below_drewN HBJ.out _⟩
                      case measure => simp [intOf]; omega
                    · have ho2 : o2 = false := by
                        rw [HST.out, ← HAT.out]
                        simp [hai]
                      subst ho2
                      have x1 : decide (atv = (i : Int)) = false := by simpa using hai
                      have x2 : (atv == (i : Int)) = false := by simpa using hai
                      clear hai
                      go_wp2_with fail
                      go_quiet (fail)
                      go_wp2_with fail
                      go_roundw
                      case rel => exact ⟨j + 1, by rw [← HO2.out], by go_num, by omega, below_drewN HBJ.out _⟩
                      case measure => simp [intOf]; omega
                · have e2 : decide (j < m3) = false := by simpa using hj
                  have hjm3 : j = m3 := by omega
                  subst hjm3
                  rw [HFIN.out]
                  go_wp2_with fail
                  go_roundw
                  case rel => exact ⟨k + 1, by go_num, by omega, hbj⟩
                  case measure => simp [intOf]; omega
            · have e1 : decide ((k : Int) < 128) = false := by simp; omega
              go_wp2_with fail
              go_roundw
              case rel => exact ⟨i + 1, by go_num, by omega, hbk⟩
              case measure => simp [intOf]; omega
        · have d1 : decide ((i : Int) < 4) = false := by simp; omega
          go_wp2_with fail
          refine (awake17_any _).mono ?_
          rintro q w9 ⟨rfl, hb9⟩
          go_wp2_with fail
          go_ret
          have hbz := hbwE.trans (hbi.mono hbwE.size)
          exact ⟨rfl, hbz.trans (hb9.mono hbz.size)⟩
end Go.Proofs.Yteoiadfcchalfaa

