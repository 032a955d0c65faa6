/- The walk of LogBack. (printed by genback.py) -/
import Derived.Test.YteoiadfcchalfaaLogL
import Derived.Test.YteoiadfcchalfaaSlotB
import Derived.Deep.DeepCutAuto
import Derived.Deep.CutBlock
import Derived.Deep.RegionHeld3
namespace Go.Proofs.Yteoiadfcchalfaa
open Go.RowKit
open DiskP (Bytes Disk Wr Fate noughts)
open LogP (Log zeroL Live okL Holds)
set_option linter.unusedVariables false

def Fc.txt (l : List Bytes) (k : Nat) : Fc := ⟨fun v w => ∃ A c, v = .slice A k c ∧ Sl w (fun b => b < w.heap.size) 1 A k (secV l), fun _ w w' hb ⟨A, c, e, h⟩ => ⟨A, c, e, (h.below hb).mono fun b hb' => by have := hb.size; omega⟩⟩
/-- texts that are in no box of a log -/
theorem sl_notBox {w : World} {A : Option Addr} {k b : Nat} {l : List Bytes} {vs : Array Value} {T : TypeId} {u0 u1 u2 u3 : Value} (h : Sl w (fun b => b < w.heap.size) 1 A k (secV l)) (hB : Box w b T vs) (hs : ∀ (i : Nat) (s : ByteArray), vs[i]? ≠ some (Value.string s)) :
    Sl ((((w.setCell ⟨b, 0, none⟩ u0).setCell ⟨b, 1, none⟩ u1).setCell ⟨b, 2, none⟩ u2).setCell ⟨b, 3, none⟩ u3) (fun _ => True) 1 A k (secV l) := by
  refine ⟨h.1, fun hn => ?_⟩
  obtain ⟨a, e, hv, hx, hc⟩ := h.2 hn
  obtain ⟨a', s', e', _, hc'⟩ := h.str hn
  obtain rfl : a = a' := Option.some.inj (e.symm.trans e')
  rw [show (a.add 0) = a by simp [Addr.add]] at hc'
  have hne : a.block ≠ b := by
    intro e2
    unfold Box at hB
    subst e2
    simp only [World.cell?, hB] at hc'
    split at hc'
    · cases hc'
    · exact hs _ _ hc'
  refine ⟨a, e, trivial, by rw [set4_size]; exact hx, fun j u hu => ?_⟩
  rw [World.cell?_of_block (w := w) (a := a.add j) (by rw [blk_add]; exact set4_far hne)]
  exact hc j u hu

/-- what stands ahead of the first loop's round i -/
def BackR (w0 : World) (bd i : Nat) (all at_ : Value) (wr : World) : Prop :=
  ∃ recs d x A n c B m e, recs.length ≤ i ∧ i ≤ 12 ∧ LBox wr (fun k => w0.heap.size ≤ k ∧ k ≠ bd ∧ k ≠ bd + 1 ∧ all.ownBlock ≠ some k ∧ at_.ownBlock ≠ some k) bd A n c B m e d x ∧ Holds 20 d 2 16 0 5 recs x ∧ d.left = -1 ∧
    wr.ownsRow (bd + 2) 9 1 all recs.length (secV recs) ∧ wr.ownsRow (bd + 2) 67 4 at_ recs.length (logsV (startsL 2 16 0 5 recs recs.length)) ∧ Below w0.heap.size w0 wr
theorem secV_snoc (recs : List Bytes) (fs : ByteArray) : secV recs ++ [.string fs] = secV (recs ++ [oct fs]) := by
  simp [secV, strs, mkB_oct]
theorem below_undrew {w w' : World} (h : Below w.drew.heap.size w.drew w') : Below w.heap.size w w' := (Below.refl w.heap.size w).drew.trans h
theorem ft_drew {w : World} {V : Nat → Prop} {FA : Option Addr} {fn fc : Nat} {f : Fate} (h : Ft w V FA fn fc f) : Ft w.drew V FA fn fc f := h.below (Below.refl _ _).drew
theorem secV_snoc2 (recs : List Bytes) (fs : ByteArray) : strs (recs.map mkB ++ [fs]) = secV (recs ++ [oct fs]) := by
  simp [secV, strs, mkB_oct]
/-- what region 14 reads -/
abbrev BackS (b7 b8 bF : Nat) (v0 v1 v2 v3 u0 u1 u2 u3 t0 t1 t2 : Value) (ww : World) : Prop :=
  (ww.cell? ⟨b7, 0, none⟩ = some v0 ∧ ww.cell? ⟨b7, 1, none⟩ = some v1 ∧ ww.cell? ⟨b7, 2, none⟩ = some v2 ∧ ww.cell? ⟨b7, 3, none⟩ = some v3) ∧ (ww.cell? ⟨b8, 0, none⟩ = some u0 ∧ ww.cell? ⟨b8, 1, none⟩ = some u1 ∧ ww.cell? ⟨b8, 2, none⟩ = some u2 ∧ ww.cell? ⟨b8, 3, none⟩ = some u3) ∧ ww.cell? ⟨bF, 0, none⟩ = some t0 ∧ ww.cell? ⟨bF, 1, none⟩ = some t1 ∧ ww.cell? ⟨bF, 2, none⟩ = some t2
theorem backS_mk {b7 b8 bF : Nat} {T7 T8 TF : TypeId} {v0 v1 v2 v3 u0 u1 u2 u3 t0 t1 t2 : Value} {ww : World} (k7 : Box ww b7 T7 #[v0, v1, v2, v3]) (k8 : Box ww b8 T8 #[u0, u1, u2, u3]) (kF : Box ww bF TF #[t0, t1, t2]) : BackS b7 b8 bF v0 v1 v2 v3 u0 u1 u2 u3 t0 t1 t2 ww :=
  ⟨k7.cell4, k8.cell4, kF.cellAt rfl, kF.cellAt rfl, kF.cellAt rfl⟩
theorem backS_all {b7 b8 bF bd : Nat} {T7 T8 TF : TypeId} {v0 v1 v2 v3 u0 u1 u2 u3 t0 t1 t2 : Value} {w6 : World} (k7 : Box w6 b7 T7 #[v0, v1, v2, v3]) (k8 : Box w6 b8 T8 #[u0, u1, u2, u3]) (kF : Box w6 bF TF #[t0, t1, t2])
    (h1 : b7 ≠ bd ∧ b7 ≠ bd + 1) (h2 : b8 ≠ bd ∧ b8 ≠ bd + 1) (h3 : bF ≠ bd ∧ bF ≠ bd + 1) : ∀ ww, Below w6.heap.size w6 ww → BackS b7 b8 bF v0 v1 v2 v3 u0 u1 u2 u3 t0 t1 t2 ww ∧
      (∀ a0 a1 a2 a3, BackS b7 b8 bF v0 v1 v2 v3 u0 u1 u2 u3 t0 t1 t2 ((((ww.setCell ⟨bd, 0, none⟩ a0).setCell ⟨bd, 1, none⟩ a1).setCell ⟨bd, 2, none⟩ a2).setCell ⟨bd, 3, none⟩ a3) ∧
        ∀ c0 c1 c2 c3, BackS b7 b8 bF v0 v1 v2 v3 u0 u1 u2 u3 t0 t1 t2 ((((((((ww.setCell ⟨bd, 0, none⟩ a0).setCell ⟨bd, 1, none⟩ a1).setCell ⟨bd, 2, none⟩ a2).setCell ⟨bd, 3, none⟩ a3).setCell ⟨bd + 1, 0, none⟩ c0).setCell ⟨bd + 1, 1, none⟩ c1).setCell ⟨bd + 1, 2, none⟩ c2).setCell ⟨bd + 1, 3, none⟩ c3)) := fun ww hb =>
  ⟨backS_mk (k7.belowS hb) (k8.belowS hb) (kF.belowS hb), fun a0 a1 a2 a3 => ⟨backS_mk ((k7.belowS hb).far4 h1.1.symm) ((k8.belowS hb).far4 h2.1.symm) ((kF.belowS hb).far4 h3.1.symm), fun c0 c1 c2 c3 =>
    backS_mk (((k7.belowS hb).far4 h1.1.symm).far4 h1.2.symm) (((k8.belowS hb).far4 h2.1.symm).far4 h2.2.symm) (((kF.belowS hb).far4 h3.1.symm).far4 h3.2.symm)⟩⟩
theorem backR_step {w0 wr wc w5 w6 wy : World} {bd i n c m e n3 c3 m3 e3 : Nat} {A B A3 B3 : Option Addr} {d d' : Disk} {x l' : Log} {recs : List Bytes} {s : Bytes} {v7 v7' v8 v8' : Value} {lf2 : Int} {dd2 : Bool} {V : Nat → Prop}
    (hs1 : w0.heap.size ≤ bd) (hbw : Below w0.heap.size w0 wr) (hri : recs.length ≤ i) (hi : i + 1 ≤ 12) (kL : LBox wr V bd A n c B m e d x)
    (hown7 : wr.ownsRow (bd + 2) 9 1 v7 recs.length (secV recs)) (hown8 : wr.ownsRow (bd + 2) 67 4 v8 recs.length (logsV (startsL 2 16 0 5 recs recs.length))) (hbc : Below wr.heap.size wr wc)
    (hA1 : Apd wc w5 (bd + 2) 67 4 v8 v8' (recs.length + 1) (logsV (startsL 2 16 0 5 recs recs.length) ++ [.int .i64 (x.frm : Nat), .int .i64 (x.len : Nat), .int .i64 (x.at_ : Nat), .int .i64 (x.seq : Nat)]))
    (hA2 : Apd w5 w6 (bd + 2) 9 1 v7 v7' (recs.length + 1) (secV (recs ++ [s]))) (hby : Below w6.heap.size w6 wy)
    (hDy : Dk wy (fun b => w6.heap.size ≤ b) A3 n3 c3 B3 m3 e3 d') (hH' : Holds 20 d' 2 16 0 5 (recs ++ [s]) l') (hl' : d'.left = -1) (h1 : lf2 = d'.left) (h2 : dd2 = d'.dead) (hH : Holds 20 d 2 16 0 5 recs x) :
    BackR w0 bd (i + 1) v7' v8' ((((((((wy.setCell ⟨bd, 0, none⟩ (.slice A3 n3 c3)).setCell ⟨bd, 1, none⟩ (.slice B3 m3 e3)).setCell ⟨bd, 2, none⟩ (.int .i64 lf2)).setCell ⟨bd, 3, none⟩ (.bool dd2)).setCell ⟨bd + 1, 0, none⟩ (.int .i64 (l'.frm : Nat))).setCell ⟨bd + 1, 1, none⟩ (.int .i64 (l'.len : Nat))).setCell ⟨bd + 1, 2, none⟩ (.int .i64 (l'.at_ : Nat))).setCell ⟨bd + 1, 3, none⟩ (.int .i64 (l'.seq : Nat))) := by
  have hxl := kL.bx.lt
  have hcs := hbc.size
  have ho8 := own_below hown8 hbc
  have ho7 := own_below hown7 hbc
  have hb5 := hA1.below ho8 (Below.refl (bd + 2) wc) (Nat.le_refl _) (by omega)
  have ho75 := own_other ho8 ho7 (by decide) hA1.grown
  have hz5 := hA1.size
  have hb6 := hA2.below ho75 (Below.refl (bd + 2) w5) (Nat.le_refl _) (by omega)
  have hz6 := hA2.size
  have ho86 := own_other ho75 hA1.own (by decide) hA2.grown
  have hzy := hby.size
  have kd6 := (((kL.bd.belowS hbc).below hb5 (by omega)).below hb6 (by omega)).belowS hby
  have kx6 := (((kL.bx.belowS hbc).below hb5 (by omega)).below hb6 (by omega)).belowS hby
  have hlt7 := hA2.own.lt
  have hlt8 := ho86.lt
  refine ⟨recs ++ [s], d', l', A3, n3, c3, B3, m3, e3, by simp; omega, hi, ?_, hH', hl', ?_, ?_, ?_⟩
  · refine LBox.put (x := l') rfl rfl kd6 kx6 (hDy.mono fun k hk => ?_) (fun k hk => ⟨hk.2.1, hk.2.2.1⟩) h1 h2
    have := hbw.size
    exact ⟨by omega, by omega, by omega, fun e => by have := (hlt7 _ e).2; omega, fun e => by have := (hlt8 _ e).2; omega⟩
  · rw [List.length_append, List.length_singleton]
    exact own_set4 (own_set4 (own_below hA2.own hby) (by omega) _ _ _ _) (by omega) _ _ _ _
  · have e4 : logsV (startsL 2 16 0 5 (recs ++ [s]) (recs ++ [s]).length) = logsV (startsL 2 16 0 5 recs recs.length) ++ [.int .i64 (x.frm : Nat), .int .i64 (x.len : Nat), .int .i64 (x.at_ : Nat), .int .i64 (x.seq : Nat)] := by
      rw [List.length_append, List.length_singleton, ← startsL_snoc s hH, logsV_append]; rfl
    rw [e4, List.length_append, List.length_singleton]
    exact own_set4 (own_set4 (own_below ho86 hby) (by omega) _ _ _ _) (by omega) _ _ _ _
  · exact below_set4 (below_set4 ((((hbw.trans (hbc.mono hbw.size)).trans (hb5.mono (by omega))).trans (hb6.mono (by omega))).trans (hby.mono (by omega))) hs1) (by omega)
theorem backR_drew {w0 wr : World} {bd i : Nat} {v u : Value} (h : BackR w0 bd i v u wr) : BackR w0 bd i v u wr.drew := by
  obtain ⟨recs, d, x, A, n, c, B, m, e, h1, h2, h3, h4, h5, h6, h7, h8⟩ := h
  exact ⟨recs, d, x, A, n, c, B, m, e, h1, h2, h3.below (Below.refl _ _).drew, h4, h5, own_below h6 (Below.refl _ _).drew, own_below h7 (Below.refl _ _).drew, h8.drew⟩

set_option maxRecDepth 100000 in
set_option maxHeartbeats 6400000 in
theorem logBack_walk (A0 : Option Addr) (n0 c0 : Nat) (ss : List ByteArray) (FA : Option Addr) (fn fc : Nat) (f : Fate) (V2 : Nat → Prop) (w : World) (hs : Sl w (fun _ => True) 1 A0 n0 (strs ss)) (hn : n0 ≤ 9223372036854775807) (hz : ∀ s ∈ ss, s.size ≤ 9223372036854775807) (hf : Ft w V2 FA fn fc f) (hfc : fn ≤ fc) (hfc2 : fc ≤ 9223372036854775807) :
    Calls Try.prog 12 #[.slice A0 n0 c0, ftv FA fn fc f] w fun q w' => q = .returned (.bool true) ∧ Below w.heap.size w w' := by
  have hbF : Below w.heap.size w (w.alloc (.cells #[.slice FA fn fc, .int .i64 f.torn, .int .i64 f.cut] 47)) := (Below.refl _ _).alloc (Nat.le_refl _) _
  have kF := Box.new w 47 #[.slice FA fn fc, .int .i64 f.torn, .int .i64 f.cut]
  have HSO := hide (fun w1 => some_any 20 w1 (by decide) (by decide))
  have HZ := hide hz
  have HS := hide (hs.below hbF)
  have HFT := hide (hf.below hbF)
  have HFC : Hid (fn ≤ fc ∧ fc ≤ 9223372036854775807) := ⟨hfc, hfc2⟩
  obtain ⟨tn, htn⟩ : ∃ tn, tn = f.torn := ⟨_, rfl⟩
  obtain ⟨ct, hct⟩ : ∃ ct, ct = f.cut := ⟨_, rfl⟩
  unfold ftv
  rw [← htn, ← hct] at hbF kF HS HFT ⊢
  have HTN := hide htn
  have HCT := hide hct
  obtain ⟨wf, hwf⟩ : ∃ wf, wf = w.alloc (.cells #[.slice FA fn fc, .int .i64 tn, .int .i64 ct] 47) := ⟨_, rfl⟩
  rw [← hwf] at hbF kF HS HFT
  have HWF := hide hwf
  clear hz hs hf htn hct hwf hfc hfc2
  go_enter Try.func12, Try.ntmps12
  go_wp2_with fail
  have hwf := HWF.out
  clear HWF
  rw [← hwf]
  clear hwf
  refine (HSO.out _).mono ?_
  rintro q w1 ⟨v, rfl, ⟨A, n, c, B, m, e, rfl, hD⟩, hb1⟩
  have hh := LogP.holds_new (n := 20) (frm := 2) (len := 16) (q := 5) (by decide) (by decide) (by decide) (by decide) (by decide) (by decide)
  obtain ⟨d, hd⟩ : ∃ d, d = DiskP.new 20 := ⟨_, rfl⟩
  have hleft : d.left = -1 := by rw [hd]; rfl
  rw [← hd] at hh hD ⊢
  obtain ⟨lf, hlf⟩ : ∃ lf, lf = d.left := ⟨_, rfl⟩
  obtain ⟨dd, hdd⟩ : ∃ dd, dd = d.dead := ⟨_, rfl⟩
  rw [← hlf, ← hdd]
  have HLF := hide hlf
  have HDD := hide hdd
  have HL1 := hide hleft
  have HH := hide hh
  have HD := hide hD
  have hs1 := hb1.size
  clear hd hh hD hleft hlf hdd HSO
  have kd := (Box.new w1 50 #[.slice A n c, .slice B m e, .int .i64 lf, .bool dd]).up (.cells #[.int .i64 2, .int .i64 16, .int .i64 0, .int .i64 5] 67)
  have kx := Box.new (w1.alloc (.cells #[.slice A n c, .slice B m e, .int .i64 lf, .bool dd] 50)) 67 #[.int .i64 2, .int .i64 16, .int .i64 0, .int .i64 5]
  rw [World.size_alloc] at kx
  have hbA : Below w1.heap.size w1 ((w1.alloc (.cells #[.slice A n c, .slice B m e, .int .i64 lf, .bool dd] 50)).alloc (.cells #[.int .i64 2, .int .i64 16, .int .i64 0, .int .i64 5] 67)) := ((Below.refl _ _).alloc (Nat.le_refl _) _).alloc (by simp) _
  have hbw := hb1.trans (hbA.mono hs1)
  have hDA := (HD.out.lt'.below hbA).mono (V' := fun k => wf.heap.size ≤ k ∧ k ≠ w1.heap.size ∧ k ≠ w1.heap.size + 1 ∧ (Value.slice none 0 0).ownBlock ≠ some k ∧ (Value.slice none 0 0).ownBlock ≠ some k) fun k hk => ⟨hk.1, by omega, by omega, by simp [Value.ownBlock], by simp [Value.ownBlock]⟩
  have HN0 : Hid (BackR wf w1.heap.size 0 (.slice none 0 0) (.slice none 0 0) ((w1.alloc (.cells #[.slice A n c, .slice B m e, .int .i64 lf, .bool dd] 50)).alloc (.cells #[.int .i64 2, .int .i64 16, .int .i64 0, .int .i64 5] 67))) :=
    ⟨[], d, ⟨2, 16, 0, 5⟩, A, n, c, B, m, e, Nat.le_refl _, by omega, ⟨by rw [← HLF.out, ← HDD.out]; exact kd, kx, hDA⟩, HH.out, HL1.out, ⟨rfl, .inl ⟨rfl, rfl⟩⟩, ⟨rfl, .inl ⟨rfl, rfl⟩⟩, hbw⟩
  obtain ⟨bd, hbd⟩ : ∃ bd, bd = w1.heap.size := ⟨_, rfl⟩
  rw [← hbd] at HN0 hs1
  have HBD := hide hbd
  clear kd kx hbA hbw hDA HD HH HLF HDD HL1
  simp only [dkv]
  go_upto_block 0 with (fail)
  rw [← HBD.out]
  clear hbd
  go_cut [7, 8] from 9 to 66 (fun all at_ wc => ∃ i, BackR wf bd i all at_ wc)
  case first =>
    go_wp2_with fail
    go_loopw [7, 8, 9] (fun all at_ iv wr => ∃ i : Nat, iv = .int .i64 i ∧ BackR wf bd i all at_ wr) (fun _ _ iv _ => 12 - (intOf iv).toNat)
    case atStart => exact ⟨0, rfl, HN0.out⟩
    case round =>
      clear HN0 HBD
      obtain ⟨i, rfl, recs, d, x, A, n, c, B, m, e, hri, hi9, kL, hH, hleft, hown7, hown8, hbw⟩ := hrel
      by_cases hgo : i < n0 ∧ i < 12
      · obtain ⟨h1, h2⟩ := hgo
        obtain ⟨aS, s, eA, es, hcS⟩ := (HS.out.below hbw).str h1
        have hfew := fun w2 => few18_any s w2 (HZ.out s (List.mem_of_getElem? es))
        have hfz := few18_size s
        obtain ⟨fs, hfs⟩ : ∃ fs, fs = few18 s := ⟨_, rfl⟩
        rw [← hfs] at hfew hfz
        obtain ⟨V, hV⟩ : ∃ V : Nat → Prop, V = fun k => wf.heap.size ≤ k ∧ k ≠ bd ∧ k ≠ bd + 1 ∧ u7.ownBlock ≠ some k ∧ u8.ownBlock ≠ some k := ⟨_, rfl⟩
        rw [← hV] at kL
        have hroom : 5 + recs.length ≤ LogP.maxSeq := by unfold LogP.maxSeq; omega
        have hap := fun ww hD => append_any A n c B m e d (fun b => V b ∧ b < wr.heap.size) x fs ww hD (hH.okL hroom) (by have := kL.dk.wlen; rw [hH.quiet] at this; simp at this; omega) (by omega)
        obtain ⟨RR, hRR⟩ : ∃ RR, RR = LogP.appendP d x (oct fs) := ⟨_, rfl⟩
        rw [← hRR] at hap
        obtain ⟨lf, hlf⟩ : ∃ lf, lf = d.left := ⟨_, rfl⟩
        obtain ⟨dd, hdd⟩ : ∃ dd, dd = d.dead := ⟨_, rfl⟩
        have kbd := kL.bd
        have kbx := kL.bx
        have HDK := hide kL.dk
        have HKL := hide kL
        rw [← hlf, ← hdd] at kbd hap
        have HFEW := hide hfew
        have HAP : Hid (∀ ww, Dk ww (fun b => V b ∧ b < wr.heap.size) A n c B m e d → Calls Try.prog 45 #[dkv A n c B m e lf dd, .agg #[.int .i64 (x.frm : Nat), .int .i64 (x.len : Nat), .int .i64 (x.at_ : Nat), .int .i64 (x.seq : Nat)], .string fs] ww fun q w' => ∃ v, q = .returned (.tuple #[v, lgv RR.2.1, .int .i64 (RR.2.2 : Nat)]) ∧ DkV w' (fun b => (V b ∧ b < wr.heap.size) ∨ ww.heap.size ≤ b) v RR.1 ∧ Below ww.heap.size ww w') := hap
        have HRR := hide hRR
        have HH := hide hH
        have HLEFT := hide hleft
        have HOWN7 := hide hown7
        have HOWN8 := hide hown8
        have HV := hide hV
        have HLF := hide hlf
        have HROOM := hide hroom
        have d1 : decide (i < n0) = true := by simpa using h1
        have d2 : decide ((i : Int) < 12) = true := by simp; omega
        have hni : (i : Int) < (n0 : Int) := by omega
        clear hfew hap hRR hH hleft hown7 hown8 hV hlf hdd hfs kL es hroom
        subst eA
        go_wp2_with fail
        refine (HFEW.out _).mono ?_
        rintro q w2 ⟨rfl, rfl⟩
        obtain ⟨q0, q1, q2, q3⟩ := kbd.cell4
        obtain ⟨r0, r1, r2, r3⟩ := kbx.cell4
        go_wp2_with fail
        refine (HAP.out _ HDK.out.lt').mono ?_
        rintro q wc ⟨v, rfl, ⟨A2, n2, c2, B2, m2, e2, rfl, hD2⟩, hbc⟩
        have hbwc := hbw.trans (hbc.mono hbw.size)
        rcases HH.out.append HROOM.out (oct fs) with ⟨_, e1⟩ | ⟨_, _, e1⟩ | ⟨_, _, d', l', ev, e1, hev⟩
        · have hr := HRR.out.trans e1
          subst hr
          clear e1 HRR hD2 HAP HFEW HDK kbd kbx q0 q1 q2 q3 r0 r1 r2 r3
          go_wp2_with fail
          go_roundw
          case rel => exact ⟨i + 1, by go_num, recs, d, x, A, n, c, B, m, e, by omega, by omega, by rw [← HV.out]; exact (HKL.out.below hbc).below (((Below.refl _ _).alloc (Nat.le_refl _) _).alloc (by simp) _), HH.out, HLEFT.out, own_below (own_below HOWN7.out hbc) (((Below.refl _ _).alloc (Nat.le_refl _) _).alloc (by simp) _), own_below (own_below HOWN8.out hbc) (((Below.refl _ _).alloc (Nat.le_refl _) _).alloc (by simp) _), (hbwc.alloc hbwc.size _).alloc (by simp; have := hbwc.size; omega) _⟩
          case measure => simp [intOf]; omega
        · have hr := HRR.out.trans e1
          subst hr
          clear e1 HRR hD2 HAP HFEW HDK kbd kbx q0 q1 q2 q3 r0 r1 r2 r3
          go_wp2_with fail
          go_roundw
          case rel => exact ⟨i + 1, by go_num, recs, d, x, A, n, c, B, m, e, by omega, by omega, by rw [← HV.out]; exact (HKL.out.below hbc).below (((Below.refl _ _).alloc (Nat.le_refl _) _).alloc (by simp) _), HH.out, HLEFT.out, own_below (own_below HOWN7.out hbc) (((Below.refl _ _).alloc (Nat.le_refl _) _).alloc (by simp) _), own_below (own_below HOWN8.out hbc) (((Below.refl _ _).alloc (Nat.le_refl _) _).alloc (by simp) _), (hbwc.alloc hbwc.size _).alloc (by simp; have := hbwc.size; omega) _⟩
          case measure => simp [intOf]; omega
        · have hr := HRR.out.trans e1
          rcases hev with ⟨rfl, hH', hleft'⟩ | ⟨_, h14, _⟩
          · subst hr
            simp only at hD2
            obtain ⟨lf2, hlf2⟩ : ∃ lf2, lf2 = d'.left := ⟨_, rfl⟩
            obtain ⟨dd2, hdd2⟩ : ∃ dd2, dd2 = d'.dead := ⟨_, rfl⟩
            have hcr := fun n ww hD hF => crash_any A2 n2 c2 B2 m2 e2 d' (fun b => (V b ∧ b < wr.heap.size) ∨ wr.heap.size ≤ b) V2 FA n fc (fates f) ww hD hH'.live.may hF
            have hHc := hH'.crash (fates f)
            have hLc : (DiskP.crash d' (fates f)).left = -1 := by rw [DiskP.crash_quiet _ hH'.live.may hH'.quiet]
            obtain ⟨dC, hdC⟩ : ∃ dC, dC = DiskP.crash d' (fates f) := ⟨_, rfl⟩
            rw [← hdC] at hHc hLc
            have HCR : Hid (∀ n ww, Dk ww (fun b => (V b ∧ b < wr.heap.size) ∨ wr.heap.size ≤ b) A2 n2 c2 B2 m2 e2 d' → Ft ww V2 FA n fc (fates f) → Calls Try.prog 37 #[.agg #[.slice A2 n2 c2, .slice B2 m2 e2, .int .i64 lf2, .bool dd2], .agg #[.slice FA n fc, .int .i64 tn, .int .i64 ct]] ww fun q w' => ∃ A3 n3 c3 B3 m3 e3 lf3 dd3, q = .returned (.agg #[.slice A3 n3 c3, .slice B3 m3 e3, .int .i64 lf3, .bool dd3]) ∧ (lf3 = dC.left ∧ dd3 = dC.dead ∧ Dk w' (fun b => ww.heap.size ≤ b) A3 n3 c3 B3 m3 e3 dC) ∧ Below ww.heap.size ww w') := by
              intro n ww hD hF
              have := hcr n ww hD hF
              rw [← hdC] at this
              rw [hlf2, hdd2, HTN.out, HCT.out]
              refine this.mono ?_
              rintro q w' ⟨v, rfl, ⟨A3, n3, c3, B3, m3, e3, rfl, hD3⟩, hb⟩
              exact ⟨A3, n3, c3, B3, m3, e3, _, _, rfl, ⟨rfl, rfl, hD3⟩, hb⟩
            have HFA : Hid (∀ ww, Ft ww V2 FA fn fc f → Calls Try.prog 31 #[.agg #[.slice FA fn fc, .int .i64 tn, .int .i64 ct]] ww fun q w' => ∃ n, q = .returned (.agg #[.slice FA n fc, .int .i64 tn, .int .i64 ct]) ∧ Below ww.heap.size ww w' ∧ Ft w' V2 FA n fc (fates f)) := by
              intro ww hF
              have := fates_any FA fn fc f V2 ww hF HFC.out.1 HFC.out.2
              rw [HTN.out, HCT.out]
              exact this.mono fun q w' ⟨n, h1, _, h2, h3⟩ => ⟨n, h1, h2, h3⟩
            simp only [dkv, lgv]
            rw [← hlf2, ← hdd2]
            have k7c := (Box.new wc 50 #[.slice A2 n2 c2, .slice B2 m2 e2, .int .i64 lf2, .bool dd2]).up (.cells #[.int .i64 (l'.frm : Nat), .int .i64 (l'.len : Nat), .int .i64 (l'.at_ : Nat), .int .i64 (l'.seq : Nat)] 67)
            have k8c := Box.new (wc.alloc (.cells #[.slice A2 n2 c2, .slice B2 m2 e2, .int .i64 lf2, .bool dd2] 50)) 67 #[.int .i64 (l'.frm : Nat), .int .i64 (l'.len : Nat), .int .i64 (l'.at_ : Nat), .int .i64 (l'.seq : Nat)]
            rw [World.size_alloc] at k8c
            have hbB : Below wc.heap.size wc ((wc.alloc (.cells #[.slice A2 n2 c2, .slice B2 m2 e2, .int .i64 lf2, .bool dd2] 50)).alloc (.cells #[.int .i64 (l'.frm : Nat), .int .i64 (l'.len : Nat), .int .i64 (l'.at_ : Nat), .int .i64 (l'.seq : Nat)] 67)) := ((Below.refl _ _).alloc (Nat.le_refl _) _).alloc (by simp) _
            obtain ⟨wB, hwB⟩ : ∃ wB, wB = (wc.alloc (.cells #[.slice A2 n2 c2, .slice B2 m2 e2, .int .i64 lf2, .bool dd2] 50)).alloc (.cells #[.int .i64 (l'.frm : Nat), .int .i64 (l'.len : Nat), .int .i64 (l'.at_ : Nat), .int .i64 (l'.seq : Nat)] 67) := ⟨_, rfl⟩
            rw [← hwB] at k7c k8c hbB
            have hbrB := hbc.trans (hbB.mono hbc.size)
            have hDB := hD2.lt'.below hbB
            have ho7B := own_below HOWN7.out hbrB
            have ho8B := own_below HOWN8.out hbrB
            have kxB := kbx.belowS hbrB
            have hbdB : bd + 2 ≤ wB.heap.size := by have := kxB.lt; omega
            have hrl : recs.length ≤ 1000000000 := by omega
            have HWB := hide hwB
            have HLF2 := hide hlf2
            have HDD2 := hide hdd2
            have HHC := hide hHc
            have HLC := hide hLc
            have HDB := hide hDB
            clear e1 HRR hD2 HAP HFEW HDK kbd kbx q0 q1 q2 q3 r0 r1 r2 r3 hcr hHc hLc hdC hlf2 hdd2 hwB hDB hH' hleft'
            go_upto_region 13 with (fail)
            rw [← HWB.out]
            obtain ⟨q0, q1, q2, q3⟩ := kxB.cell4
            go_wp2_with (at_builtin; refine app_log rfl _ _ rfl (bd + 2) _ _ _ ho8B rfl _ _ _ _ rfl (ints4_one _ _ _ _) hrl hbdB ?_; intro v8 w5 hA1; have ho75 := own_other ho8B ho7B (by decide) hA1.grown; have hbd5 : bd + 2 ≤ w5.heap.size := Nat.le_trans hbdB hA1.size; go_wp2_with (at_builtin; refine wp_app_str rfl _ _ rfl (bd + 2) _ _ (recs.map mkB) ho75 rfl fs rfl (by omega) hbd5 ?_; intro v7 w6 hA2))
            have hb5 := hA1.below ho8B (Below.refl (bd + 2) wB) (Nat.le_refl _) hbdB
            have hb6 := hA2.below ho75 (Below.refl (bd + 2) w5) (Nat.le_refl _) hbd5
            have hlt7 := HOWN7.out.lt
            have hlt8 := HOWN8.out.lt
            have hcs := hbc.size
            have hz5 := hA1.size
            have hz6 := hA2.size
            have hxl := HKL.out.bx.lt
            have k75 := k7c.at (hA1.far k7c.lt fun e => by have := (hlt8 _ e).2; omega)
            have k85 := k8c.at (hA1.far k8c.lt fun e => by have := (hlt8 _ e).2; omega)
            have k76 := k75.at (hA2.far k75.lt fun e => by have := (hlt7 _ e).2; omega)
            have k86 := k85.at (hA2.far k85.lt fun e => by have := (hlt7 _ e).2; omega)
            have hbw6 : Below wf.heap.size wf w6 := ((hbw.trans (hbrB.mono hbw.size)).trans (hb5.mono (by omega))).trans (hb6.mono (by omega))
            have kF6 := kF.belowS hbw6
            have hfb : w.heap.size < wf.heap.size := kF.lt
            have kd6 := ((HKL.out.bd.belowS hbrB).below hb5 (by omega)).below hb6 (by omega)
            have kx6 := ((HKL.out.bx.belowS hbrB).below hb5 (by omega)).below hb6 (by omega)
            have hD5 := HDB.out.lt'.keep hz5 fun b h1 h2 => hA1.far h2 fun e => by
              rcases h1.1.1 with h | h
              · rw [HV.out] at h; exact h.1.2.2.2.2 e
              · have := (hlt8 _ e).2; omega
            have hD6 := hD5.lt'.keep hz6 fun b h1 h2 => hA2.far h2 fun e => by
              rcases h1.1.1.1 with h | h
              · rw [HV.out] at h; exact h.1.2.2.2.1 e
              · have := (hlt7 _ e).2; omega
            have HD6 := hide (hD6.mono (V' := fun b => (V b ∧ b < wr.heap.size) ∨ wr.heap.size ≤ b) fun b h => h.1.1.1)
            have HFT6 := hide (HFT.out.below hbw6)
            have HSS := hide (backS_all (bd := bd) k76 k86 kF6 ⟨by omega, by omega⟩ ⟨by omega, by omega⟩ ⟨by omega, by omega⟩)
            have HA1 := hide hA1
            have HA2 := hide hA2
            rw [secV_snoc2] at hA2
            have HA2' := hide hA2
            have f0 := kd6.frozen 0
            have f1 := kd6.frozen 1
            have f2 := kd6.frozen 2
            have f3 := kd6.frozen 3
            have g0 := kx6.frozen 0
            have g1 := kx6.frozen 1
            have g2 := kx6.frozen 2
            have g3 := kx6.frozen 3
            have HBRB := hide hbrB
            clear q0 q1 q2 q3 hA1 hA2 hb5 hD5 hD6 k75 k85 k7c k8c ho75 ho7B ho8B hbB hbrB kxB hlt7 hlt8
            go_region_held3 (fun w' => (w'.cell? ⟨wc.heap.size, 0, none⟩ = some (.slice A2 n2 c2) ∧ w'.cell? ⟨wc.heap.size, 1, none⟩ = some (.slice B2 m2 e2) ∧ w'.cell? ⟨wc.heap.size, 2, none⟩ = some (.int .i64 lf2) ∧ w'.cell? ⟨wc.heap.size, 3, none⟩ = some (.bool dd2)) ∧ (w'.cell? ⟨wc.heap.size + 1, 0, none⟩ = some (.int .i64 (l'.frm : Nat)) ∧ w'.cell? ⟨wc.heap.size + 1, 1, none⟩ = some (.int .i64 (l'.len : Nat)) ∧ w'.cell? ⟨wc.heap.size + 1, 2, none⟩ = some (.int .i64 (l'.at_ : Nat)) ∧ w'.cell? ⟨wc.heap.size + 1, 3, none⟩ = some (.int .i64 (l'.seq : Nat))) ∧ w'.cell? ⟨w.heap.size, 0, none⟩ = some (.slice FA fn fc) ∧ w'.cell? ⟨w.heap.size, 1, none⟩ = some (.int .i64 tn) ∧ w'.cell? ⟨w.heap.size, 2, none⟩ = some (.int .i64 ct))
              (first | (with_reducible exact (HSS.out w6 (Below.refl _ _)).1) | (with_reducible exact (HSS.out w6.drew (Below.refl _ _).drew).1) | (with_reducible exact (HSS.out wx hbx).1) | (with_reducible exact (HSS.out wy (hbx.trans (hby.mono hbx.size))).1) | (with_reducible exact ((HSS.out wy (hbx.trans (hby.mono hbx.size))).2 _ _ _ _).1) | (with_reducible exact ((HSS.out wy (hbx.trans (hby.mono hbx.size))).2 _ _ _ _).2 _ _ _ _))
              (first
                | ((with_reducible refine (HFA.out _ (ft_drew HFT6.out)).mono ?_); rintro q wx ⟨nF, rfl, hbx, hFx⟩; have hbx := below_undrew hbx)
                | ((with_reducible refine (HCR.out _ _ (HD6.out.below hbx) hFx).mono ?_); rintro q wy ⟨A3, n3, c3, B3, m3, e3, lf3, dd3, rfl, HD3, hby⟩; have HD3 := hide HD3; have kdy := kd6.belowS (hbx.trans (hby.mono hbx.size)); have kxy := kx6.belowS (hbx.trans (hby.mono hbx.size)); obtain ⟨y0, y1, y2, y3⟩ := kdy.cell4; obtain ⟨z0, z1, z2, z3⟩ := kxy.cell4; have e0' := kdy.frozen 0; have e1' := kdy.frozen 1; have e2' := kdy.frozen 2; have e3' := kdy.frozen 3; have g0' := kxy.frozen 0; have g1' := kxy.frozen 1; have g2' := kxy.frozen 2; have g3' := kxy.frozen 3))
            go_wp2_with fail
            go_roundw
            case rel => exact ⟨i + 1, by go_num, backR_step hs1 hbw hri (by omega) HKL.out HOWN7.out HOWN8.out HBRB.out HA1.out HA2'.out (hbx.trans (hby.mono hbx.size)) (HD3.out.2.2.mono fun b hb => Nat.le_trans hbx.size hb) HHC.out HLC.out rfl rfl HH.out⟩
            case measure => simp [intOf]; omega
          · exact absurd HLEFT.out h14
      · have HE : Hid (BackR wf bd i _ _ wr) := ⟨recs, d, x, A, n, c, B, m, e, hri, hi9, kL, hH, hleft, hown7, hown8, hbw⟩
        by_cases h1 : i < n0
        · have d1 : decide (i < n0) = true := by simpa using h1
          have d2 : decide ((i : Int) < 12) = false := by simp; omega
          clear hgo h1 kL hH hleft hown7 hown8 hbw hri hi9
          go_wp2_with fail
          go_meet
          exact ⟨i, HE.out⟩
        · have d1 : decide (i < n0) = false := by simpa using h1
          clear hgo h1 kL hH hleft hown7 hown8 hbw hri hi9
          go_wp2_with fail
          go_meet
          exact ⟨i, HE.out⟩
  case rest =>
    clear HN0 HS HZ
    revert wc
    intro wL hcut
    obtain ⟨i, recs, d, x, A, n, c, B, m, e, hri, hi9, kL, hH, hleft, hown7, hown8, hbw⟩ := hcut
    obtain ⟨A7, c7, rfl⟩ := own_shape hown7
    obtain ⟨A8, c8, rfl⟩ := own_shape hown8
    obtain ⟨r, hr⟩ : ∃ r, r = recs.length := ⟨_, rfl⟩
    rw [← hr] at hown7 hown8 hri ⊢
    obtain ⟨lf, hlf⟩ : ∃ lf, lf = d.left := ⟨_, rfl⟩
    obtain ⟨dd, hdd⟩ : ∃ dd, dd = d.dead := ⟨_, rfl⟩
    have kbd := kL.bd
    have kbx := kL.bx
    rw [← hlf, ← hdd] at kbd
    have HDK := hide kL.dk
    have HH := hide hH
    have HLF := hide hlf
    have HDD := hide hdd
    have HR := hide hr
    have HOWN7 := hide hown7
    have HOWN8 := hide hown8
    have hr12 : r ≤ 12 := by omega
    have hbwB := hbF.trans (hbw.mono hbF.size)
    clear kL hH hleft hown7 hown8 hlf hdd hr
    go_upto_block 2 with (fail)
    go_cut [] from 14 to 97 (fun wc => Below wL.heap.size wL wc)
    case first =>
      go_wp2_with fail
      go_loopw [14] (fun iv wr => ∃ k : Nat, iv = .int .i64 k ∧ k ≤ r ∧ Below wL.heap.size wL wr) (fun iv _ => r - (intOf iv).toNat)
      case atStart => exact ⟨0, rfl, Nat.zero_le _, Below.refl _ _⟩
      case round =>
        obtain ⟨k, rfl, hkr, hbR⟩ := hrel
        by_cases hlt : k < r
        · obtain ⟨g7, cap7, hv7, hgb7, hgl7, hgc7⟩ := own_form HOWN7.out (by omega)
          obtain ⟨g8, cap8, hv8, hgb8, hgl8, hgc8⟩ := own_form HOWN8.out (by omega)
          injection hv7 with hv7 _ hc7
          injection hv8 with hv8 _ hc8
          subst hv7 hc7 hv8 hc8
          obtain ⟨sk, hsk⟩ : ∃ sk, sk = LogP.sum (recs.take k) := ⟨_, rfl⟩
          obtain ⟨sq, hsq⟩ : ∃ sq, sq = 5 + k := ⟨_, rfl⟩
          have hkl : (recs.take k).length = k := by rw [List.length_take, ← HR.out]; omega
          have hH2 : Holds 20 d 2 16 0 5 (recs.take k ++ recs.drop k) x := by rw [List.take_append_drop]; exact HH.out
          have hH3 := hH2.tail
          rw [hkl, ← hsk, ← hsq, Nat.zero_add] at hH3
          have hok3 : okL d ⟨2, 16, sk, sq⟩ := hH3.ok0 (by unfold LogP.maxSeq; omega)
          have hdl : (recs.drop k).length = r - k := by rw [List.length_drop, ← HR.out]
          have HSC : Hid (∀ ww V', Dk ww V' A n c B m e d → Calls Try.prog 47 #[dkv A n c B m e lf dd, .agg #[.int .i64 2, .int .i64 16, .int .i64 (sk : Nat), .int .i64 (sq : Nat)]] ww fun q w' => ∃ A5 c5, q = .returned (.tuple #[.slice A5 (r - k) c5, .agg #[.int .i64 (x.frm : Nat), .int .i64 (x.len : Nat), .int .i64 (x.at_ : Nat), .int .i64 (x.seq : Nat)], .int .i64 0]) ∧ Sl w' (fun b => b < w'.heap.size) 1 A5 (r - k) (secV (recs.drop k)) ∧ Below ww.heap.size ww w') := by
            intro ww V' hD
            have := scan_any A n c B m e d V' ⟨2, 16, sk, sq⟩ ww hD hok3
            rw [hH3.scan] at this
            rw [HLF.out, HDD.out]
            refine this.mono ?_
            rintro q w' ⟨v, rfl, ho, hb⟩
            unfold OwnT at ho
            simp only at ho
            rw [hdl] at ho
            obtain ⟨A5, c5, rfl⟩ := own_shape ho
            exact ⟨A5, c5, rfl, (Sl.of_own ho).lt, hb⟩
          have HAT : Hid (∀ ww, Below wL.heap.size wL ww → ww.cell? ⟨g8, k * 4, none⟩ = some (.int .i64 2) ∧ ww.cell? ⟨g8, k * 4 + 1, none⟩ = some (.int .i64 16) ∧ ww.cell? ⟨g8, k * 4 + 2, none⟩ = some (.int .i64 (sk : Nat)) ∧ ww.cell? ⟨g8, k * 4 + 3, none⟩ = some (.int .i64 (sq : Nat))) := by
            intro ww hb
            obtain ⟨a, x1, ea, ex, q0, q1, q2, q3⟩ := sl_log ((Sl.of_own HOWN8.out).below hb) hlt
            rw [startsL_get hlt] at ex
            obtain rfl := (Option.some.inj ex).symm
            obtain rfl := (Option.some.inj ea).symm
            simp only [Nat.zero_add, ← hsk, ← hsq, add_base] at q0 q1 q2 q3
            exact ⟨q0, q1, q2, q3⟩
          have HKK : Hid ((k : Int) < (r : Int) ∧ (0 : Int) ≤ (k : Int)) := ⟨by omega, by omega⟩
          have h7 := (Sl.of_own HOWN7.out).below hbR
          have H7 := hide h7
          have d1 : decide (k < r) = true := by simpa using hlt
          clear hsk hsq hkl hH2 hH3 hok3 hdl h7
          go_upto_region 18 with (fail)
          go_cut [15, 16, 17] from 73 to 82 (fun p q e wx => ∃ A5 c5 bZ, p = .slice A5 (r - k) c5 ∧ q = .pointer (some ⟨bZ, 0, none⟩) ∧ e = .int .i64 0 ∧ Sl wx (fun _ => True) 1 A5 (r - k) (secV (recs.drop k)) ∧ Box wx bZ 67 #[.int .i64 (x.frm : Nat), .int .i64 (x.len : Nat), .int .i64 (x.at_ : Nat), .int .i64 (x.seq : Nat)] ∧ Below wr.heap.size wr wx)
          case first =>
            refine wp_region_noPanic ?_
            refine RegS.region (ds := [74, 75, 76, 77, 78, 79, 73, 80, 81, 82, 16]) (pure := [6, 7, 8, 9]) (fresh := [10])
              (G := Gs [.is (dkv A n c B m e lf dd), .is (.slice (some ⟨g8, 0, none⟩) r c8), .is (.int .i64 (k : Nat)), .is (.pointer (some ⟨g8, k * 4, none⟩)), .is (.agg #[.int .i64 2, .int .i64 16, .int .i64 (sk : Nat), .int .i64 (sq : Nat)]), .three (Fc.txt (recs.drop k) (r - k)) (.agg #[.int .i64 (x.frm : Nat), .int .i64 (x.len : Nat), .int .i64 (x.at_ : Nat), .int .i64 (x.seq : Nat)]) (.int .i64 0), .three (Fc.txt (recs.drop k) (r - k)) (.agg #[.int .i64 (x.frm : Nat), .int .i64 (x.len : Nat), .int .i64 (x.at_ : Nat), .int .i64 (x.seq : Nat)]) (.int .i64 0), (Fc.txt (recs.drop k) (r - k)), .is (.agg #[.int .i64 (x.frm : Nat), .int .i64 (x.len : Nat), .int .i64 (x.at_ : Nat), .int .i64 (x.seq : Nat)]), .is (.int .i64 0), .box wr.heap.size 67 #[.int .i64 0, .int .i64 0, .int .i64 0, .int .i64 0]])
              rfl (by kernel_rfl) (by kernel_rfl) ⟨by kernel_rfl, by kernel_rfl, fun i _ v w w' => gs_keep _ i v w w', ?quiet, ?step⟩ (fun _ _ _ _ _ h => h) ?tail
            case quiet =>
              intro i o hi hp ho u ww hd
              obtain rfl | rfl | rfl | rfl : i = 6 ∨ i = 7 ∨ i = 8 ∨ i = 9 := by simp at hp; omega
              · simp only [List.getElem?_toArray, List.getElem?_cons_succ, List.getElem?_cons_zero, Option.some.injEq] at ho
                subst ho
                simp only [RegS.putAll, List.length_cons, List.length_nil, Nat.reduceAdd, List.getD_cons_zero, List.getD_cons_succ, Act.put, List.setIfInBounds_toArray, List.set_cons_zero, List.set_cons_succ]
                exact ⟨_, fun _ => rfl, hd 5 (by decide) (by rfl)⟩
              · simp only [List.getElem?_toArray, List.getElem?_cons_succ, List.getElem?_cons_zero, Option.some.injEq] at ho
                subst ho
                simp only [RegS.putAll, List.length_cons, List.length_nil, Nat.reduceAdd, List.getD_cons_zero, List.getD_cons_succ, Act.put, List.setIfInBounds_toArray, List.set_cons_zero, List.set_cons_succ]
                obtain ⟨x, e, h⟩ := hd 6 (by decide) (by rfl)
                rw [e]
                exact ⟨_, fun _ => rfl, h⟩
              · simp only [List.getElem?_toArray, List.getElem?_cons_succ, List.getElem?_cons_zero, Option.some.injEq] at ho
                subst ho
                simp only [RegS.putAll, List.length_cons, List.length_nil, Nat.reduceAdd, List.getD_cons_zero, List.getD_cons_succ, Act.put, List.setIfInBounds_toArray, List.set_cons_zero, List.set_cons_succ]
                obtain ⟨x, e, h⟩ := hd 6 (by decide) (by rfl)
                rw [e]
                exact ⟨_, fun _ => rfl, rfl⟩
              · simp only [List.getElem?_toArray, List.getElem?_cons_succ, List.getElem?_cons_zero, Option.some.injEq] at ho
                subst ho
                simp only [RegS.putAll, List.length_cons, List.length_nil, Nat.reduceAdd, List.getD_cons_zero, List.getD_cons_succ, Act.put, List.setIfInBounds_toArray, List.set_cons_zero, List.set_cons_succ]
                obtain ⟨x, e, h⟩ := hd 6 (by decide) (by rfl)
                rw [e]
                exact ⟨_, fun _ => rfl, rfl⟩
            case step =>
              intro i o hi hp ho u ww hb hd K hK
              obtain rfl | rfl | rfl | rfl | rfl | rfl | rfl : i = 0 ∨ i = 1 ∨ i = 2 ∨ i = 3 ∨ i = 4 ∨ i = 5 ∨ i = 10 := by simp at hp hi; omega
              · simp only [List.getElem?_toArray, List.getElem?_cons_zero, Option.some.injEq] at ho
                subst ho
                simp only [RegS.putAll, List.length_cons, List.length_nil, Nat.reduceAdd, List.getD_cons_zero, List.getD_cons_succ, Act.put, List.setIfInBounds_toArray, List.set_cons_zero, List.set_cons_succ]
                obtain ⟨q0, q1, q2, q3⟩ := ((kbd.belowS hbR).belowS hb).cell4
                go_simp
                exact hK _ _ rfl (Below.refl _ _) rfl (fun h => absurd h (by decide))
              · simp only [List.getElem?_toArray, List.getElem?_cons_succ, List.getElem?_cons_zero, Option.some.injEq] at ho
                subst ho
                simp only [RegS.putAll, List.length_cons, List.length_nil, Nat.reduceAdd, List.getD_cons_zero, List.getD_cons_succ, Act.put, List.setIfInBounds_toArray, List.set_cons_zero, List.set_cons_succ]
                go_simp
                exact hK _ _ rfl (Below.refl _ _) rfl (fun h => absurd h (by decide))
              · simp only [List.getElem?_toArray, List.getElem?_cons_succ, List.getElem?_cons_zero, Option.some.injEq] at ho
                subst ho
                simp only [RegS.putAll, List.length_cons, List.length_nil, Nat.reduceAdd, List.getD_cons_zero, List.getD_cons_succ, Act.put, List.setIfInBounds_toArray, List.set_cons_zero, List.set_cons_succ]
                go_simp
                exact hK _ _ rfl (Below.refl _ _) rfl (fun h => absurd h (by decide))
              · simp only [List.getElem?_toArray, List.getElem?_cons_succ, List.getElem?_cons_zero, Option.some.injEq] at ho
                subst ho
                simp only [RegS.putAll, List.length_cons, List.length_nil, Nat.reduceAdd, List.getD_cons_zero, List.getD_cons_succ, Act.put, List.setIfInBounds_toArray, List.set_cons_zero, List.set_cons_succ]
                have e1 : u 1 = .slice (some ⟨g8, 0, none⟩) r c8 := hd 1 (by decide) (by rfl)
                have e2 : u 2 = .int .i64 (k : Nat) := hd 2 (by decide) (by rfl)
                obtain ⟨kk1, kk2⟩ := HKK.out
                go_simp
                exact hK _ _ rfl (Below.refl _ _) rfl (fun h => absurd h (by decide))
              · simp only [List.getElem?_toArray, List.getElem?_cons_succ, List.getElem?_cons_zero, Option.some.injEq] at ho
                subst ho
                simp only [RegS.putAll, List.length_cons, List.length_nil, Nat.reduceAdd, List.getD_cons_zero, List.getD_cons_succ, Act.put, List.setIfInBounds_toArray, List.set_cons_zero, List.set_cons_succ]
                have e3 : u 3 = .pointer (some ⟨g8, k * 4, none⟩) := hd 3 (by decide) (by rfl)
                obtain ⟨q0, q1, q2, q3⟩ := HAT.out ww (hbR.trans (hb.mono hbR.size))
                go_simp
                exact hK _ _ rfl (Below.refl _ _) rfl (fun h => absurd h (by decide))
              · simp only [List.getElem?_toArray, List.getElem?_cons_succ, List.getElem?_cons_zero, Option.some.injEq] at ho
                subst ho
                simp only [RegS.putAll, List.length_cons, List.length_nil, Nat.reduceAdd, List.getD_cons_zero, List.getD_cons_succ, Act.put, List.setIfInBounds_toArray, List.set_cons_zero, List.set_cons_succ]
                have e0 : u 0 = dkv A n c B m e lf dd := hd 0 (by decide) (by rfl)
                have e4 : u 4 = (.agg #[.int .i64 2, .int .i64 16, .int .i64 (sk : Nat), .int .i64 (sq : Nat)]) := hd 4 (by decide) (by rfl)
                go_simp
                refine (HSC.out ww _ ((HDK.out.below hbR).below hb)).mono ?_
                rintro q w3 ⟨A5, c5, rfl, hs5, hb3⟩
                exact hK _ _ rfl hb3 ⟨_, rfl, A5, c5, rfl, hs5⟩ (fun h => absurd h (by decide))
              · simp only [List.getElem?_toArray, List.getElem?_cons_succ, List.getElem?_cons_zero, Option.some.injEq] at ho
                subst ho
                simp only [RegS.putAll, List.length_cons, List.length_nil, Nat.reduceAdd, List.getD_cons_zero, List.getD_cons_succ, Act.put, List.setIfInBounds_toArray, List.set_cons_zero, List.set_cons_succ]
                go_simp
                exact hK _ _ rfl ((Below.refl _ _).alloc (Nat.le_refl _) _) ⟨_, rfl, hb.size, Box.new _ _ _⟩ fun _ => ⟨rfl, by simp⟩
            case tail =>
              intro u ww hb hG hp hne
              simp only [RegS.putAll, List.length_cons, List.length_nil, Nat.reduceAdd, List.getD_cons_zero, List.getD_cons_succ, Act.put, List.setIfInBounds_toArray, List.set_cons_zero, List.set_cons_succ, List.drop_succ_cons, List.drop_zero]
              obtain ⟨A5, c5, e7, hs5⟩ := hG 7 (by decide)
              have e8 : u 8 = (.agg #[.int .i64 (x.frm : Nat), .int .i64 (x.len : Nat), .int .i64 (x.at_ : Nat), .int .i64 (x.seq : Nat)]) := hG 8 (by decide)
              have e9 : u 9 = .int .i64 0 := hG 9 (by decide)
              obtain ⟨bZ, e10, l10, k10⟩ := hG 10 (by decide)
              have hs6 := (hs5.lt').keep (w' := ((((ww.setCell ⟨bZ, 0, none⟩ (.int .i64 (x.frm : Nat))).setCell ⟨bZ, 1, none⟩ (.int .i64 (x.len : Nat))).setCell ⟨bZ, 2, none⟩ (.int .i64 (x.at_ : Nat))).setCell ⟨bZ, 3, none⟩ (.int .i64 (x.seq : Nat))))
              have HS5 := hide hs5
              clear hG hp hne hs6 hs5
              obtain ⟨q0, q1, q2, q3⟩ := k10.cell4
              have f0 := k10.frozen 0
              have f1' := k10.frozen 1
              have f2' := k10.frozen 2
              have f3' := k10.frozen 3
              go_wp2_with fail
              refine NoPanic.normal ?_
              go_wp2_with fail
              go_meet
              exact ⟨A5, c5, bZ, by first | rfl | exact e7, by first | rfl | exact e10, by first | rfl | exact e9, sl_notBox HS5.out k10 noStr_log, k10.set4, below_set4 hb l10⟩
          case rest =>
            revert wc
            intro wZ hcut
            obtain ⟨A5, c5, bZ, rfl, rfl, rfl, hs5, kZ, hbZ⟩ := hcut
            have hbwZ := hbR.trans (hbZ.mono hbR.size)
            have hcut7 := (H7.out.below hbZ).cut (k := k) (m := r) (cap := c7) (Nat.le_of_lt hlt) (Nat.le_refl _) hgc7
            have ncap : ¬ c7 = k := by omega
            rw [if_neg ncap] at hcut7
            simp only [Option.map_some, Nat.mul_one, add_base] at hcut7
            have e7 : ((secV recs).drop k).take (r - k) = secV (recs.drop k) := by
              rw [List.take_of_length_le (by rw [List.length_drop, secV_length, HR.out]; omega)]
              simp [secV, strs, List.map_drop]
            rw [e7] at hcut7
            have HS7 := hide hcut7
            have HS5 := hide hs5
            have HSM : Hid (∀ ww, Below wZ.heap.size wZ ww → Calls Try.prog 21 #[.slice A5 (r - k) c5, .slice (some ⟨g7, k, none⟩) (r - k) (c7 - k)] ww fun q w' => q = .returned (.bool true) ∧ ∃ q, w' = ww.drewN q) := by
              intro ww hb
              have := same_any A5 (some ⟨g7, k, none⟩) (r - k) (r - k) c5 (c7 - k) ((recs.drop k).map mkB) ((recs.drop k).map mkB) _ _ ww (HS5.out.below hb) (HS7.out.below hb) (by omega)
              simpa using this
            have hbwz2 := hbwB.trans (hbwZ.mono hbwB.size)
            have kxZ := kbx.belowS hbwZ
            obtain ⟨q0, q1, q2, q3⟩ := kZ.cell4
            obtain ⟨r0, r1, r2, r3⟩ := kxZ.cell4
            have y1 : (k : Int) ≤ (r : Int) := by omega
            have y2 : (r : Int) ≤ (c7 : Int) := by omega
            have y3 : ((r : Int) - (k : Int)).toNat = r - k := by omega
            have y4 : ((c7 : Int) - (k : Int)).toNat = c7 - k := by omega
            clear hcut7 hs5 e7 HSC HAT
            go_wp2_with fail
            refine (HSM.out _ (Below.refl _ _)).mono ?_
            rintro q w' ⟨rfl, nq, rfl⟩
            go_wp2_with fail
            go_roundw
            case rel => exact ⟨k + 1, by go_num, by omega, below_drewN hbwZ nq⟩
            case measure => simp [intOf]; omega
        · have d1 : decide (k < r) = false := by simpa using hlt
          clear hlt
          go_wp2_with fail
          go_meet
          exact hbR
    case rest =>
      revert wc
      intro wM hbM
      have hbwM := hbwB.trans (hbM.mono hbwB.size)
      have hH2 : Holds 20 d 2 16 0 5 (recs ++ []) x := by rw [List.append_nil]; exact HH.out
      have hH3 := hH2.tail
      have hx : x = ⟨2, 16, 0 + LogP.sum recs, 5 + recs.length⟩ := HH.out.log
      have hsc : LogP.scanP d x = ([], x, 0) := by
        have := hH3.scan
        rw [← hx] at this
        exact this
      have hok3 : okL d x := HH.out.okL (by unfold LogP.maxSeq; have := HR.out; omega)
      have HSC : Hid (∀ ww V', Dk ww V' A n c B m e d → Calls Try.prog 47 #[dkv A n c B m e lf dd, .agg #[.int .i64 (x.frm : Nat), .int .i64 (x.len : Nat), .int .i64 (x.at_ : Nat), .int .i64 (x.seq : Nat)]] ww fun q w' => ∃ A5 c5, q = .returned (.tuple #[.slice A5 0 c5, .agg #[.int .i64 (x.frm : Nat), .int .i64 (x.len : Nat), .int .i64 (x.at_ : Nat), .int .i64 (x.seq : Nat)], .int .i64 0]) ∧ Below ww.heap.size ww w') := by
        intro ww V' hD
        have := scan_any A n c B m e d V' x ww hD hok3
        rw [hsc] at this
        rw [HLF.out, HDD.out]
        refine this.mono ?_
        rintro q w' ⟨v, rfl, ho, hb⟩
        obtain ⟨A5, c5, rfl⟩ := own_shape ho
        exact ⟨A5, c5, rfl, hb⟩
      have kbdM := kbd.belowS hbM
      have kbxM := kbx.belowS hbM
      have HDM := hide (HDK.out.below hbM)
      clear hH2 hH3 hx hsc hok3
      obtain ⟨q0, q1, q2, q3⟩ := kbdM.cell4
      obtain ⟨r0, r1, r2, r3⟩ := kbxM.cell4
      go_wp2_with fail
      refine (HSC.out _ _ HDM.out).mono ?_
      rintro q wN ⟨A5, c5, rfl, hbN⟩
      have kxN := kbxM.belowS hbN
      have hbwN := hbwM.trans (hbN.mono hbwM.size)
      have hxlt := kxN.lt
      clear q0 q1 q2 q3 r0 r1 r2 r3
      obtain ⟨r0, r1, r2, r3⟩ := kxN.cell4
      go_wp2_with fail
      refine (awake18_any _).mono ?_
      rintro q w9 ⟨rfl, hb9⟩
      have hbA := hbwN.alloc hbwN.size (.cells #[.int .i64 (x.frm : Nat), .int .i64 (x.len : Nat), .int .i64 (x.at_ : Nat), .int .i64 (x.seq : Nat)] 67)
      go_wp2_with fail
      go_ret
      exact ⟨rfl, hbA.trans (hb9.mono hbA.size)⟩
end Go.Proofs.Yteoiadfcchalfaa
