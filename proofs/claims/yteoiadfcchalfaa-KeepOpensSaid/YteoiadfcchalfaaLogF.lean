/- The walk of layer 18's Clear. (printed by genclear.py) -/
import Derived.Test.YteoiadfcchalfaaRegU
namespace Go.Proofs.Yteoiadfcchalfaa
open Go.RowKit
open DiskP (Bytes Disk Wr Fate noughts)
open LogP (Log zeroL Live okL)
set_option linter.unusedVariables false

def Fc.put (i : Nat) (s : ByteArray) : Fc := ⟨fun v w => ∃ b1 b2, v = stV (.put b1 b2 i s) ∧ stBox w (St.put b1 b2 i s), fun _ _ _ hb ⟨b1, b2, e, h⟩ => ⟨b1, b2, e, stBox.keep (B := 0) h fun b h => hb.block b h⟩⟩
def Fc.steps (i : Nat) (s : ByteArray) : Fc := ⟨fun v w => ∃ g b1 b2, v = .slice (some ⟨g, 0, none⟩) 2 2 ∧ Sl w (fun _ => True) 1 (some ⟨g, 0, none⟩) 2 ([St.put b1 b2 i s, St.bar].map stV) ∧ stBox w (St.put b1 b2 i s),
  fun _ _ _ hb ⟨g, b1, b2, e, h1, h2⟩ => ⟨g, b1, b2, e, h1.below hb, stBox.keep (B := 0) h2 fun b h => hb.block b h⟩⟩

theorem clear_steps (b1 b2 : Nat) (d : Disk) (l : Log) : LogP.runP d ([.put b1 b2 (l.frm + l.at_) (mkB (noughts 128)), .bar].map stF) = LogP.clearP d l := by
  simp [LogP.clearP, stF, oct_mkB]
theorem clear_ok (b1 b2 i : Nat) (d : Disk) (hm : DiskP.may d = true) (hw : d.W.length ≤ 800000000) : RunOK d [.put b1 b2 i (mkB (noughts 128)), .bar] := by
  refine ⟨hm, by omega, fun h1 => ?_⟩
  have q1 : (DiskP.put d ((i : Nat) : Int) (oct (mkB (noughts 128)))).2 = 0 := h1
  have p1 := put_ok_may hm q1
  refine ⟨p1.1, ?_, fun _ => trivial⟩
  have := p1.2.1
  rw [oct_mkB, LogP.noughts_len] at this
  have h3 : (stF (.put b1 b2 i (mkB (noughts 128))) d).1.W.length ≤ d.W.length + 128 / 128 := by simp only [stF, oct_mkB]; exact this
  omega

set_option maxRecDepth 100000 in
set_option maxHeartbeats 3200000 in
theorem clear_any (A : Option Addr) (n c : Nat) (B : Option Addr) (m e : Nat) (d : Disk) (V : Nat → Prop) (l : Log) (w : World) (h : Dk w V A n c B m e d) (hok : okL d l) (hmm : m ≤ 800000000) :
    Calls Try.prog 49 #[dkv A n c B m e d.left d.dead, lgv l] w fun q w' => ∃ v, q = .returned (.tuple #[v, .int .i64 ((LogP.clearP d l).2 : Nat)]) ∧ DkV w' (fun b => V b ∨ w.heap.size ≤ b) v (LogP.clearP d l).1 ∧ Below w.heap.size w w' := by
  have hlm := fun w1 hD => lmay_any A n c B m e d V l w1 hD hok
  have hm := hok.1
  have hwl := h.wlen
  have hrun := fun b1 b2 F fc w1 hD hl hb => run_any A n c B m e d (fun x => V x ∧ x < w.heap.size) F 2 fc [.put b1 b2 (l.frm + l.at_) (mkB (noughts 128)), .bar] w1 hD hl hb (clear_ok b1 b2 _ d hm (by omega)) (by omega)
  obtain ⟨_, k1, k2, k3, k4, k5⟩ := hok
  rw [h.len] at k1
  have hn4 : n ≤ 4000 := by have := ((DiskP.may_iff d).1 hm).2.1; rw [h.len] at this; exact this
  unfold LogP.maxSeq at k5
  obtain ⟨RR, hRR⟩ : ∃ RR, RR = LogP.clearP d l := ⟨_, rfl⟩
  have hrun2 : ∀ b1 b2 F fc w1, Dk w1 (fun x => V x ∧ x < w.heap.size) A n c B m e d → Sl w1 (fun _ => True) 1 F 2 ([.put b1 b2 (l.frm + l.at_) (mkB (noughts 128)), .bar].map stV) → stBox w1 (.put b1 b2 (l.frm + l.at_) (mkB (noughts 128))) →
      Calls Try.prog 80 #[dkv A n c B m e d.left d.dead, .slice F 2 fc] w1 fun q w' => ∃ v, q = .returned (.tuple #[v, .int .i64 (RR.2 : Nat)]) ∧ DkV w' (fun b => (V b ∧ b < w.heap.size) ∨ w1.heap.size ≤ b) v RR.1 ∧ Below w1.heap.size w1 w' := fun b1 b2 F fc w1 q1 q2 q3 => by
    have := hrun b1 b2 F fc w1 q1 q2 (fun st hst => by
      simp only [List.mem_cons, List.not_mem_nil, or_false] at hst
      rcases hst with rfl | rfl
      · exact q3
      · trivial)
    rw [clear_steps, ← hRR] at this
    exact this
  rw [← hRR]
  clear hrun hRR
  obtain ⟨frm, len, at_, seq⟩ := l
  simp only at k1 k2 k3 k4 k5 hrun2
  unfold lgv at hlm
  simp only at hlm
  unfold lgv
  simp only
  have hb1 : Below w.heap.size w (w.alloc (.cells #[.slice A n c, .slice B m e, .int .i64 d.left, .bool d.dead] 50)) := (Below.refl _ _).alloc (Nat.le_refl _) _
  have hb2 := hb1.alloc hb1.size (.cells #[.int .i64 (frm : Nat), .int .i64 (len : Nat), .int .i64 (at_ : Nat), .int .i64 (seq : Nat)] 67)
  have hb3 := hb2.alloc hb2.size (.cells #[.slice none 0 0, .slice none 0 0, .int .i64 0, .bool false] 50)
  have kA := ((Box.new w 50 #[.slice A n c, .slice B m e, .int .i64 d.left, .bool d.dead]).up (.cells #[.int .i64 (frm : Nat), .int .i64 (len : Nat), .int .i64 (at_ : Nat), .int .i64 (seq : Nat)] 67)).up (.cells #[.slice none 0 0, .slice none 0 0, .int .i64 0, .bool false] 50)
  have kB := (Box.new (w.alloc (.cells #[.slice A n c, .slice B m e, .int .i64 d.left, .bool d.dead] 50)) 67 #[.int .i64 (frm : Nat), .int .i64 (len : Nat), .int .i64 (at_ : Nat), .int .i64 (seq : Nat)]).up (.cells #[.slice none 0 0, .slice none 0 0, .int .i64 0, .bool false] 50)
  have kC := Box.new ((w.alloc (.cells #[.slice A n c, .slice B m e, .int .i64 d.left, .bool d.dead] 50)).alloc (.cells #[.int .i64 (frm : Nat), .int .i64 (len : Nat), .int .i64 (at_ : Nat), .int .i64 (seq : Nat)] 67)) 50 #[.slice none 0 0, .slice none 0 0, .int .i64 0, .bool false]
  simp only [World.size_alloc] at kB kC
  clear hb1 hb2
  have hlm' := hlm _ (h.below hb3)
  have hD0 := h.lt'.below hb3
  obtain ⟨lf, hlf⟩ : ∃ lf, lf = d.left := ⟨_, rfl⟩
  obtain ⟨dd, hdd⟩ : ∃ dd, dd = d.dead := ⟨_, rfl⟩
  rw [← hlf, ← hdd] at kA kB kC hb3 hlm' hD0 ⊢
  simp only [← hlf, ← hdd] at hrun2
  have HM := hide hlm'
  have hpad := fun w => padded_any ⟨#[]⟩ 128 w (by decide) (by omega)
  obtain ⟨ZB, hZB⟩ : ∃ ZB, ZB = mkB (noughts 128) := ⟨_, rfl⟩
  rw [show mkB (LogP.padded (oct ⟨#[]⟩) 128) = ZB from hZB.symm] at hpad
  rw [← hZB] at hrun2
  have HPAD := hide hpad
  have HPUT := hide (fun w => fput_any (frm + at_) ZB w)
  have HLE : Hid (frm + at_ ≤ 1000000 ∧ ZB.size ≤ 1000000) := ⟨by omega, by rw [hZB, mkB_size, LogP.noughts_len]; omega⟩
  have HEW : Hid (IntKind.i64.wrap ((frm : Int) + (at_ : Int)) = (frm : Int) + (at_ : Int)) := IntWalk.i64_in _ (by omega)
  have HRUN := hide hrun2
  clear hlm hlm' hpad hrun2 hZB hlf hdd h hwl hm
  go_enter Try.func49, Try.ntmps49
  go_wp2_with fail
  refine HM.out.mono ?_
  rintro q W2 ⟨rfl, hb1⟩
  have kA1 := kA.belowS hb1
  have kB1 := kB.belowS hb1
  have kC1 := kC.belowS hb1
  have hD1 := hD0.below hb1
  have hbw := hb3.trans (hb1.mono hb3.size)
  have hs2 : w.heap.size + 3 ≤ W2.heap.size := by have := hb1.size; simp only [World.size_alloc] at this; omega
  clear HM kA kB kC hD0 hb1 hb3 k1 k2 k3 k4 k5
  go_wp2_with fail
  refine wp_region_noPanic ?_
  refine RegS.region (ds := [11, 12, 13, 14, 15, 16, 17, 18, 19, 20, 21, 22]) (pure := [10, 11]) (fresh := [])
    (G := Gs [.is (dkv A n c B m e lf dd), .is (.pointer (some ⟨w.heap.size + 1, 0, none⟩)), .is (.int .i64 (frm : Nat)), .is (.pointer (some ⟨w.heap.size + 1, 2, none⟩)), .is (.int .i64 (at_ : Nat)), .is (.int .i64 (frm + at_ : Nat)), .is (.string ZB), (Fc.put (frm + at_) ZB), (Fc.steps (frm + at_) ZB), .two (.dk (fun b => (V b ∧ b < w.heap.size) ∨ w.heap.size + 3 ≤ b) RR.1) (.int .i64 (RR.2 : Nat)), .dk (fun b => (V b ∧ b < w.heap.size) ∨ w.heap.size + 3 ≤ b) RR.1, .is (.int .i64 (RR.2 : Nat))])
    rfl (by kernel_rfl) (by kernel_rfl) ⟨by kernel_rfl, by kernel_rfl, fun i _ v w w' => gs_keep _ i v w w', ?quiet, ?step⟩ (fun _ _ _ _ _ h => h) ?tail
  case quiet =>
    intro i o hi hp ho u ww hd
    obtain rfl | rfl : i = 10 ∨ i = 11 := by simp at hp; omega
    · simp only [List.getElem?_toArray, List.getElem?_cons_succ, List.getElem?_cons_zero, Option.some.injEq] at ho
      subst ho
      simp only [RegS.putAll, List.length_cons, List.length_nil, Nat.reduceAdd, List.getD_cons_zero, List.getD_cons_succ, Act.put, List.setIfInBounds_toArray, List.set_cons_zero, List.set_cons_succ]
      obtain ⟨x, e, h⟩ := hd 9 (by decide) (by rfl)
      rw [e]
      exact ⟨_, fun _ => rfl, h⟩
    · simp only [List.getElem?_toArray, List.getElem?_cons_succ, List.getElem?_cons_zero, Option.some.injEq] at ho
      subst ho
      simp only [RegS.putAll, List.length_cons, List.length_nil, Nat.reduceAdd, List.getD_cons_zero, List.getD_cons_succ, Act.put, List.setIfInBounds_toArray, List.set_cons_zero, List.set_cons_succ]
      obtain ⟨x, e, h⟩ := hd 9 (by decide) (by rfl)
      rw [e]
      exact ⟨_, fun _ => rfl, rfl⟩
  case step =>
    intro i o hi hp ho u ww hb hd K hK
    obtain rfl | rfl | rfl | rfl | rfl | rfl | rfl | rfl | rfl | rfl : i = 0 ∨ i = 1 ∨ i = 2 ∨ i = 3 ∨ i = 4 ∨ i = 5 ∨ i = 6 ∨ i = 7 ∨ i = 8 ∨ i = 9 := by simp at hp hi; omega
    · simp only [List.getElem?_toArray, List.getElem?_cons_zero, Option.some.injEq] at ho
      subst ho
      simp only [RegS.putAll, List.length_cons, List.length_nil, Nat.reduceAdd, List.getD_cons_zero, List.getD_cons_succ, Act.put, List.setIfInBounds_toArray, List.set_cons_zero, List.set_cons_succ]
      obtain ⟨q0, q1, q2, q3⟩ := (kA1.belowS hb).cell4
      go_simp
      exact hK _ _ rfl (Below.refl _ _) rfl (fun h => absurd h (by decide))
    · simp only [List.getElem?_toArray, List.getElem?_cons_succ, List.getElem?_cons_zero, Option.some.injEq] at ho
      subst ho
      simp only [RegS.putAll, List.length_cons, List.length_nil, Nat.reduceAdd, List.getD_cons_zero, List.getD_cons_succ, Act.put, List.setIfInBounds_toArray, List.set_cons_zero, List.set_cons_succ]
      go_simp
      exact hK _ _ rfl (Below.refl _ _) rfl (fun h => absurd h (by decide))
    · simp only [List.getElem?_toArray, List.getElem?_cons_succ, List.getElem?_cons_zero, Option.some.injEq] at ho
      subst ho
      simp only [RegS.putAll, List.length_cons, List.length_nil, Nat.reduceAdd, List.getD_cons_zero, List.getD_cons_succ, Act.put, List.setIfInBounds_toArray, List.set_cons_zero, List.set_cons_succ]
      have e1 : u 1 = .pointer (some ⟨w.heap.size + 1, 0, none⟩) := hd 1 (by decide) (by rfl)
      obtain ⟨q0, q1, q2, q3⟩ := (kB1.belowS hb).cell4
      go_simp
      exact hK _ _ rfl (Below.refl _ _) rfl (fun h => absurd h (by decide))
    · simp only [List.getElem?_toArray, List.getElem?_cons_succ, List.getElem?_cons_zero, Option.some.injEq] at ho
      subst ho
      simp only [RegS.putAll, List.length_cons, List.length_nil, Nat.reduceAdd, List.getD_cons_zero, List.getD_cons_succ, Act.put, List.setIfInBounds_toArray, List.set_cons_zero, List.set_cons_succ]
      go_simp
      exact hK _ _ rfl (Below.refl _ _) rfl (fun h => absurd h (by decide))
    · simp only [List.getElem?_toArray, List.getElem?_cons_succ, List.getElem?_cons_zero, Option.some.injEq] at ho
      subst ho
      simp only [RegS.putAll, List.length_cons, List.length_nil, Nat.reduceAdd, List.getD_cons_zero, List.getD_cons_succ, Act.put, List.setIfInBounds_toArray, List.set_cons_zero, List.set_cons_succ]
      have e3 : u 3 = .pointer (some ⟨w.heap.size + 1, 2, none⟩) := hd 3 (by decide) (by rfl)
      obtain ⟨q0, q1, q2, q3⟩ := (kB1.belowS hb).cell4
      go_simp
      exact hK _ _ rfl (Below.refl _ _) rfl (fun h => absurd h (by decide))
    · simp only [List.getElem?_toArray, List.getElem?_cons_succ, List.getElem?_cons_zero, Option.some.injEq] at ho
      subst ho
      simp only [RegS.putAll, List.length_cons, List.length_nil, Nat.reduceAdd, List.getD_cons_zero, List.getD_cons_succ, Act.put, List.setIfInBounds_toArray, List.set_cons_zero, List.set_cons_succ]
      have e2 : u 2 = .int .i64 (frm : Nat) := hd 2 (by decide) (by rfl)
      have e4 : u 4 = .int .i64 (at_ : Nat) := hd 4 (by decide) (by rfl)
      have ew := HEW.out
      go_simp
      exact hK _ _ rfl (Below.refl _ _) (congrArg (Value.int .i64) (Int.natCast_add frm at_).symm) (fun h => absurd h (by decide))
    · simp only [List.getElem?_toArray, List.getElem?_cons_succ, List.getElem?_cons_zero, Option.some.injEq] at ho
      subst ho
      simp only [RegS.putAll, List.length_cons, List.length_nil, Nat.reduceAdd, List.getD_cons_zero, List.getD_cons_succ, Act.put, List.setIfInBounds_toArray, List.set_cons_zero, List.set_cons_succ]
      go_simp
      refine (HPAD.out _).mono ?_
      rintro r w3 ⟨rfl, hb3⟩
      exact hK _ _ rfl hb3 rfl (fun h => absurd h (by decide))
    · simp only [List.getElem?_toArray, List.getElem?_cons_succ, List.getElem?_cons_zero, Option.some.injEq] at ho
      subst ho
      simp only [RegS.putAll, List.length_cons, List.length_nil, Nat.reduceAdd, List.getD_cons_zero, List.getD_cons_succ, Act.put, List.setIfInBounds_toArray, List.set_cons_zero, List.set_cons_succ]
      have e5 : u 5 = .int .i64 (frm + at_ : Nat) := hd 5 (by decide) (by rfl)
      have e6 : u 6 = .string ZB := hd 6 (by decide) (by rfl)
      go_simp
      refine (HPUT.out _).mono ?_
      rintro r w3 ⟨b1, b2, rfl, k1, k2, _, _, hb3⟩
      exact hK _ _ rfl hb3 ⟨b1, b2, rfl, k1, k2, HLE.out.1, HLE.out.2⟩ (fun h => absurd h (by decide))
    · simp only [List.getElem?_toArray, List.getElem?_cons_succ, List.getElem?_cons_zero, Option.some.injEq] at ho
      subst ho
      simp only [RegS.putAll, List.length_cons, List.length_nil, Nat.reduceAdd, List.getD_cons_zero, List.getD_cons_succ, Act.put, List.setIfInBounds_toArray, List.set_cons_zero, List.set_cons_succ]
      obtain ⟨b1, b2, e7, hst⟩ := hd 7 (by decide) (by rfl)
      unfold stV at e7
      go_simp
      have hsl := sl_lit ww #[stV (St.put b1 b2 (frm + at_) ZB), stV St.bar] 57 (n := 2) rfl (by decide)
      have hst2 := stBox.keep (B := 0) hst (w' := ww.alloc (.cells #[stV (St.put b1 b2 (frm + at_) ZB), stV St.bar] 57)) fun b h => Below.heap_alloc _ _ _ h
      have hbb : Below ww.heap.size ww (ww.alloc (.cells #[stV (St.put b1 b2 (frm + at_) ZB), stV St.bar] 57)) := (Below.refl _ _).alloc (Nat.le_refl _) _
      exact hK _ _ rfl hbb ⟨ww.heap.size, b1, b2, rfl, hsl, hst2⟩ (fun h => absurd h (by decide))
    · simp only [List.getElem?_toArray, List.getElem?_cons_succ, List.getElem?_cons_zero, Option.some.injEq] at ho
      subst ho
      simp only [RegS.putAll, List.length_cons, List.length_nil, Nat.reduceAdd, List.getD_cons_zero, List.getD_cons_succ, Act.put, List.setIfInBounds_toArray, List.set_cons_zero, List.set_cons_succ]
      have e0 : u 0 = dkv A n c B m e lf dd := hd 0 (by decide) (by rfl)
      obtain ⟨g, b1, b2, e8, hsl, hst⟩ := hd 8 (by decide) (by rfl)
      go_simp
      refine (HRUN.out b1 b2 _ 2 ww (hD1.below hb) hsl hst).mono ?_
      rintro r w3 ⟨v, rfl, hv, hb3⟩
      exact hK _ _ rfl hb3 ⟨v, rfl, hv.mono fun b h => h.elim (fun h => .inl h) fun h => .inr (Nat.le_trans hs2 (Nat.le_trans hb.size h))⟩ (fun h => absurd h (by decide))
  case tail =>
    intro u ww hb hG hp hne
    simp only [RegS.putAll, List.length_cons, List.length_nil, Nat.reduceAdd, List.getD_cons_zero, List.getD_cons_succ, Act.put, List.setIfInBounds_toArray, List.set_cons_zero, List.set_cons_succ, List.drop_succ_cons, List.drop_zero]
    obtain ⟨A2, n2, c2, B2, m2, e2, e10, hD2⟩ := hG 10 (by decide)
    have e11 : u 11 = .int .i64 (RR.2 : Nat) := hG 11 (by decide)
    have kC2 := kC1.belowS hb
    have hbw2 := hbw.trans (hb.mono hbw.size)
    have HD2 := hide hD2
    clear hG hp hne hD2 hD1 HPAD HPUT HLE HEW HRUN kA1 kB1
    obtain ⟨lf2, hlf2⟩ : ∃ lf2, lf2 = RR.1.left := ⟨_, rfl⟩
    obtain ⟨dd2, hdd2⟩ : ∃ dd2, dd2 = RR.1.dead := ⟨_, rfl⟩
    rw [← hlf2, ← hdd2] at e10
    have HL := hide hlf2
    have HDD := hide hdd2
    clear hlf2 hdd2
    have hsz2 : w.heap.size + 3 ≤ ww.heap.size := Nat.le_trans hs2 hb.size
    obtain ⟨q0, q1, q2, q3⟩ := kC2.cell4
    have f0 := kC2.frozen 0
    have f1 := kC2.frozen 1
    have f2 := kC2.frozen 2
    have f3 := kC2.frozen 3
    go_wp2_with fail
    refine NoPanic.normal ?_
    go_wp2_with fail
    have kF := kC2.set4 (u0 := .slice A2 n2 c2) (u1 := .slice B2 m2 e2) (u2 := .int .i64 lf2) (u3 := .bool dd2)
    have hbF := below_set4 (b := w.heap.size + 1 + 1) (u0 := .slice A2 n2 c2) (u1 := .slice B2 m2 e2) (u2 := .int .i64 lf2) (u3 := .bool dd2) hbw2 (by omega)
    obtain ⟨s0, s1, s2, s3⟩ := kF.cell4
    refine bodyPost_ret (v := .tuple #[.agg #[.slice A2 n2 c2, .slice B2 m2 e2, .int .i64 lf2, .bool dd2], .int .i64 (RR.2 : Nat)]) (by simp [results, Try.results49, go_sem, s0, s1, s2, s3, e11]) rfl ⟨_, rfl, ⟨_, _, _, _, _, _, by rw [HL.out, HDD.out], ?_⟩, hbF⟩
    exact (HD2.out.set4 fun x hx => by rcases hx with hx | hx <;> omega).mono fun x hx => hx.elim (fun h => .inl h.1) fun h => .inr (by omega)
end Go.Proofs.Yteoiadfcchalfaa
