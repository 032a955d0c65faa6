/- strings.Builder's WriteString, laid; the walk of layer 21's newest. (printed by gennew.py) -/
import Derived.Test.YteoiadfcchalfaaKeepF
import Derived.Test.YteoiadfcchalfaaShelf
namespace Go.Proofs.Yteoiadfcchalfaa
open Go.RowKit
open DiskP (Bytes Disk Wr Fate noughts)
open KeepP (Cut Head okC okH readH zeroH newestP)
set_option linter.unusedVariables false

/-- the best head of the first places -/
def bestP (s0 s1 : Bytes) : Nat → Head
  | 0 => zeroH
  | 1 => (readH s0 0).getD zeroH
  | _ => (newestP s0 s1).getD zeroH
/-- what stands ahead of newest's round: the best head in the box bb -/
def NwR (w0 : World) (bb : Nat) (b : Head) (wr : World) : Prop :=
  Box wr bb 128 #[.int .i64 (b.gen : Nat), .int .i64 (b.half : Nat), .int .i64 (b.seq : Nat), .int .i64 (b.pages : Nat)] ∧ Box wr (w0.heap.size + 1) 128 #[.int .i64 0, .int .i64 0, .int .i64 0, .int .i64 0] ∧ Below w0.heap.size w0 wr
def nwv : Option Head → Value
  | some h => .tuple #[hdv h, .bool true, .int .i64 0]
  | none => .tuple #[hdv zeroH, .bool false, .int .i64 0]
theorem readH_ok {s : Bytes} {p : Nat} {h : Head} (e : readH s p = some h) : okH h := (KeepP.readH_some e).1

set_option maxRecDepth 100000 in
set_option maxHeartbeats 6400000 in
theorem newest_any (A : Option Addr) (n c : Nat) (B : Option Addr) (m e : Nat) (d : Disk) (V : Nat → Prop) (w : World) (h : Dk w V A n c B m e d) (hm : DiskP.may d = true) (h2 : 2 ≤ n) (hdead : d.dead = false) :
    Calls Try.prog 89 #[dkv A n c B m e d.left d.dead] w fun q w' => q = .returned (nwv (newestP ((DiskP.done d).getD 0 []) ((DiskP.done d).getD 1 []))) ∧ Below w.heap.size w w' := by
  have hlen := h.len
  have hmi := (DiskP.may_iff d).1 hm
  have hdl : (DiskP.done d).length = n := by rw [DiskP.done, DiskP.doneGo_len, hlen]
  have hsz : ∀ s ∈ DiskP.done d, s.length = 128 := DiskP.doneGo_size d.W (fun w hw => (hmi.2.2.2.2 w hw).2.2) d.S hmi.2.2.2.1
  have hr := fun ww hD => read17_any A n c B m e d V 0 2 ww hD hm (by omega)
  rw [read_ok hm (by simp only [DiskP.there, Bool.and_eq_true, decide_eq_true_eq]; rw [hlen]; omega) hdead] at hr
  obtain ⟨s0, hs0⟩ : ∃ s, s = (DiskP.done d).getD 0 [] := ⟨_, rfl⟩
  obtain ⟨s1, hs1⟩ : ∃ s, s = (DiskP.done d).getD 1 [] := ⟨_, rfl⟩
  have z0 : s0.length = 128 := by rw [hs0, List.getD_eq_getElem?_getD, List.getElem?_eq_getElem (by omega)]; exact hsz _ (List.getElem_mem _)
  have z1 : s1.length = 128 := by rw [hs1, List.getD_eq_getElem?_getD, List.getElem?_eq_getElem (by omega)]; exact hsz _ (List.getElem_mem _)
  have hcat : (((DiskP.done d).drop (0 : Nat)).take 2).flatten = s0 ++ s1 := by
    rw [hs0, hs1]
    match hq : DiskP.done d, hdl with
    | a :: b :: l, _ => simp
    | [a], hl => simp at hl; omega
    | [], hl => simp at hl; omega
  have hcat' : (((DiskP.done d).drop ((0 : Nat) : Int).toNat).take ((2 : Nat) : Int).toNat).flatten = s0 ++ s1 := hcat
  rw [hcat'] at hr
  obtain ⟨SS, hSS⟩ : ∃ SS, SS = mkB (s0 ++ s1) := ⟨_, rfl⟩
  rw [← hSS] at hr
  have zS : SS.size = 256 := by rw [hSS, mkB_size, List.length_append]; omega
  have o0 : oct (SS.extract 0 128) = s0 := by rw [oct_extract, hSS, oct_mkB, List.drop_zero, ← z0, Nat.sub_zero, List.take_left]
  have o1 : oct (SS.extract 128 256) = s1 := by
    rw [oct_extract, hSS, oct_mkB, show (128 : Nat) = s0.length from z0.symm, List.drop_left, List.take_of_length_le (by omega)]
  have r0 := fun w1 => readh_any (SS.extract 0 128) 0 w1 (by rw [← oct_length, o0, z0]) (by decide)
  have r1 := fun w1 => readh_any (SS.extract 128 256) 1 w1 (by rw [← oct_length, o1, z1]) (by decide)
  rw [o0] at r0
  rw [o1] at r1
  rw [← hs0, ← hs1]
  obtain ⟨N, hN⟩ : ∃ N, N = newestP s0 s1 := ⟨_, rfl⟩
  rw [← hN]
  have hb2 : bestP s0 s1 2 = N.getD zeroH := by rw [hN]; rfl
  have hNd : newestP s0 s1 = (match readH s0 0, readH s1 1 with
    | none, none => none
    | some a, none => some a
    | none, some b => some b
    | some a, some b => if a.gen < b.gen then some b else some a) := rfl
  rw [← hN] at hNd
  have hk0 : ∀ x, readH s0 0 = some x → okH x := fun x hx => readH_ok hx
  have hk1 : ∀ x, readH s1 1 = some x → okH x := fun x hx => readH_ok hx
  have hkN : ∀ x, newestP s0 s1 = some x → 1 ≤ x.gen := by
    intro x hx
    unfold newestP at hx
    split at hx
    · cases hx
    · rename_i a h0 _; injection hx with hx; subst hx; exact (hk0 _ h0).1
    · rename_i a _ h0; injection hx with hx; subst hx; exact (hk1 _ h0).1
    · rename_i a b h0 h1
      split at hx
      · injection hx with hx; subst hx; exact (hk1 _ h1).1
      · injection hx with hx; subst hx; exact (hk0 _ h0).1
  rw [← hN] at hkN
  have HKN := hide hkN
  clear hkN
  obtain ⟨Q0, hQ0⟩ : ∃ Q, Q = readH s0 0 := ⟨_, rfl⟩
  obtain ⟨Q1, hQ1⟩ : ∃ Q, Q = readH s1 1 := ⟨_, rfl⟩
  rw [← hQ0] at r0 hNd hk0
  rw [← hQ1] at r1 hNd hk1
  obtain ⟨lf, hlf⟩ : ∃ lf, lf = d.left := ⟨_, rfl⟩
  rw [hdead, ← hlf] at hr ⊢
  have HR := hide hr
  have H0 : Hid (∀ w1, Calls Try.prog 105 #[.string (SS.extract 0 128), .int .i64 0] w1 fun q w' => q = .returned (rdv Q0) ∧ Below w1.heap.size w1 w') := r0
  have H1 : Hid (∀ w1, Calls Try.prog 105 #[.string (SS.extract 128 256), .int .i64 1] w1 fun q w' => q = .returned (rdv Q1) ∧ Below w1.heap.size w1 w') := r1
  have HN := hide hNd
  have HK0 := hide hk0
  have HK1 := hide hk1
  have zI : (SS.size : Int) = 256 := by omega
  have kR0 := (Box.new (w.alloc (.cells #[.slice A n c, .slice B m e, .int .i64 lf, .bool false] 50)) 128 #[.int .i64 0, .int .i64 0, .int .i64 0, .int .i64 0])
  have kD0 := (Box.new w 50 #[.slice A n c, .slice B m e, .int .i64 lf, .bool false]).up (.cells #[.int .i64 0, .int .i64 0, .int .i64 0, .int .i64 0] 128)
  have hb0 := ((Below.refl w.heap.size w).alloc (Nat.le_refl _) (.cells #[.slice A n c, .slice B m e, .int .i64 lf, .bool false] 50)).alloc (by simp) (.cells #[.int .i64 0, .int .i64 0, .int .i64 0, .int .i64 0] 128)
  rw [World.size_alloc] at kR0
  have hD0 := h.below hb0
  obtain ⟨w0, hw0⟩ : ∃ y, y = (w.alloc (.cells #[.slice A n c, .slice B m e, .int .i64 lf, .bool false] 50)).alloc (.cells #[.int .i64 0, .int .i64 0, .int .i64 0, .int .i64 0] 128) := ⟨_, rfl⟩
  rw [← hw0] at kR0 kD0 hb0 hD0
  have HW0 := hide hw0
  clear hlen hmi hdl hsz hr hs0 hs1 z0 z1 hcat hcat' hSS zS o0 o1 r0 r1 hN hb2 hNd hk0 hk1 hQ0 hQ1 hlf hw0 h hm hdead
  go_enter Try.func89, Try.ntmps89
  go_upto_region 1 with (fail)
  rw [← HW0.out]
  clear HW0
  obtain ⟨q0, q1, q2, q3⟩ := kD0.cell4
  go_wp2_with fail
  refine (HR.out _ hD0).mono ?_
  rintro r w1 ⟨rfl, hb1⟩
  have kR1 := (kR0.belowS hb1).up (.cells #[.int .i64 0, .int .i64 0, .int .i64 0, .int .i64 0] 128)
  have kB1 := Box.new w1 128 #[.int .i64 0, .int .i64 0, .int .i64 0, .int .i64 0]
  have hbw1 := hb0.trans (hb1.mono hb0.size)
  have hrb := (kR0.belowS hb1).lt
  have hbw2 := hbw1.alloc hbw1.size (.cells #[.int .i64 0, .int .i64 0, .int .i64 0, .int .i64 0] 128)
  obtain ⟨bb, hbb⟩ : ∃ b, b = w1.heap.size := ⟨_, rfl⟩
  rw [← hbb] at kB1 hrb
  have hwb : w.heap.size ≤ bb := by omega
  have HBB := hide hbb
  obtain ⟨w2, hw2⟩ : ∃ y, y = w1.alloc (.cells #[.int .i64 0, .int .i64 0, .int .i64 0, .int .i64 0] 128) := ⟨_, rfl⟩
  rw [← hw2] at kR1 kB1 hbw2
  have HW2 := hide hw2
  clear q0 q1 q2 q3 kR0 kD0 hb0 hD0 hb1 hbw1 hbb hw2 HR
  have e0 : ((0 : Nat) : Int) = 0 := rfl
  simp only [e0]
  go_upto_block 0 with (fail)
  rw [← HW2.out, ← HBB.out]
  clear HW2 HBB
  go_wp2_with fail
  go_loopw [20] (fun jv wr => ∃ j b, jv = .int .i64 (j : Nat) ∧ (j = 0 ∧ b = zeroH ∨ j = 1 ∧ b = Q0.getD zeroH ∨ j = 2 ∧ b = N.getD zeroH) ∧ NwR w bb b wr) (fun jv _ => 2 - (intOf jv).toNat)
  case atStart => exact ⟨0, zeroH, rfl, .inl ⟨rfl, rfl⟩, kB1, kR1, hbw2⟩
  case round =>
    clear kB1 kR1 hbw2
    obtain ⟨j, b, rfl, hj, hst⟩ := hrel
    rcases hj with ⟨rfl, hb⟩ | ⟨rfl, hb⟩ | ⟨rfl, hb⟩
    · obtain ⟨b0, b1, b2, b3⟩ := b
      have HB := hide hb
      obtain ⟨kB, kR, hbr⟩ := hst
      obtain ⟨p0, p1, p2, p3⟩ := kB.cell4
      have hbs := hbr.size
      rcases hq : Q0 with _ | ⟨x0, x1, x2, x3⟩
      · rw [hq] at H0
        unfold rdv hdv zeroH at H0
        have HQ := hide hq
        clear hb hq
        go_wp2_with fail
        refine (H0.out _).mono ?_
        rintro r w5 ⟨rfl, hb5⟩
        have kB5 := kB.belowS hb5
        have kR5 := kR.belowS hb5
        have hb6 := hbr.trans (hb5.mono hbs)
        have hl5 := kB5.lt
        have hbb6 := hb6.size
        have kB6 := kB5.up (.cells #[.int .i64 0, .int .i64 0, .int .i64 0, .int .i64 0] 128)
        have kR6 := kR5.up (.cells #[.int .i64 0, .int .i64 0, .int .i64 0, .int .i64 0] 128)
        have hb7 := hb6.alloc hb6.size (.cells #[.int .i64 0, .int .i64 0, .int .i64 0, .int .i64 0] 128)
        clear p0 p1 p2 p3 kB kR hbr hb5 kB5 kR5 hb6 H0
        obtain ⟨p0, p1, p2, p3⟩ := kB6.cell4
        go_wp2_with fail
        go_roundw
        case rel => exact ⟨1, ⟨b0, b1, b2, b3⟩, rfl, .inr (.inl ⟨rfl, HB.out⟩), kB6, kR6, hb7⟩
        case measure => simp [intOf]
      · rw [hq] at H0
        unfold rdv hdv at H0
        simp only at H0
        have HQ := hide hq
        obtain ⟨g1, g2, _⟩ := HK0.out _ hq
        simp only at g1 g2
        have hz : b0 = 0 := by have hh := hb; simp only [zeroH, Head.mk.injEq] at hh; exact hh.1
        have c1 : (b0 : Int) < (x0 : Int) := by omega
        have c2 : decide (b0 < x0) = true := by simp; omega
        clear hb hq
        go_wp2_with fail
        refine (H0.out _).mono ?_
        rintro r w5 ⟨rfl, hb5⟩
        have kB5 := kB.belowS hb5
        have kR5 := kR.belowS hb5
        have hb6 := hbr.trans (hb5.mono hbs)
        have hl5 := kB5.lt
        have hbb6 := hb6.size
        have kB6 := kB5.up (.cells #[.int .i64 (x0 : Nat), .int .i64 (x1 : Nat), .int .i64 (x2 : Nat), .int .i64 (x3 : Nat)] 128)
        have kR6 := kR5.up (.cells #[.int .i64 (x0 : Nat), .int .i64 (x1 : Nat), .int .i64 (x2 : Nat), .int .i64 (x3 : Nat)] 128)
        have hb7 := hb6.alloc hb6.size (.cells #[.int .i64 (x0 : Nat), .int .i64 (x1 : Nat), .int .i64 (x2 : Nat), .int .i64 (x3 : Nat)] 128)
        have k9 := Box.new w5 128 #[.int .i64 (x0 : Nat), .int .i64 (x1 : Nat), .int .i64 (x2 : Nat), .int .i64 (x3 : Nat)]
        clear p0 p1 p2 p3 kB kR hbr hb5 H0
        obtain ⟨p0, p1, p2, p3⟩ := kB6.cell4
        obtain ⟨q0, q1, q2, q3⟩ := k9.cell4
        obtain ⟨r0, r1, r2, r3⟩ := kB5.cell4
        have f0 := kB5.frozen 0
        have f1 := kB5.frozen 1
        have f2 := kB5.frozen 2
        have f3 := kB5.frozen 3
        go_wp2_with fail
        go_roundw
        case rel => exact ⟨1, ⟨x0, x1, x2, x3⟩, rfl, .inr (.inl ⟨rfl, rfl⟩), kB5.set4.up _, (kR5.far4 (by omega)).up _, (below_set4 hb6 hwb).alloc (by rw [set4_size]; exact hb6.size) _⟩
        case measure => simp [intOf]
    · obtain ⟨b0, b1, b2, b3⟩ := b
      have HB := hide hb
      obtain ⟨kB, kR, hbr⟩ := hst
      obtain ⟨p0, p1, p2, p3⟩ := kB.cell4
      have hbs := hbr.size
      rcases hq : Q1 with _ | ⟨x0, x1, x2, x3⟩
      · rw [hq] at H1
        unfold rdv hdv zeroH at H1
        have HQ := hide hq
        clear hb hq
        go_wp2_with fail
        refine (H1.out _).mono ?_
        rintro r w5 ⟨rfl, hb5⟩
        have kB5 := kB.belowS hb5
        have kR5 := kR.belowS hb5
        have hb6 := hbr.trans (hb5.mono hbs)
        have hl5 := kB5.lt
        have hbb6 := hb6.size
        have kB6 := kB5.up (.cells #[.int .i64 0, .int .i64 0, .int .i64 0, .int .i64 0] 128)
        have kR6 := kR5.up (.cells #[.int .i64 0, .int .i64 0, .int .i64 0, .int .i64 0] 128)
        have hb7 := hb6.alloc hb6.size (.cells #[.int .i64 0, .int .i64 0, .int .i64 0, .int .i64 0] 128)
        clear p0 p1 p2 p3 kB kR hbr hb5 kB5 kR5 hb6 H1
        obtain ⟨p0, p1, p2, p3⟩ := kB6.cell4
        go_wp2_with fail
        go_roundw
        case rel => exact ⟨2, ⟨b0, b1, b2, b3⟩, rfl, .inr (.inr ⟨rfl, by rw [HN.out, HQ.out]; rcases hq0 : Q0 with _ | a <;> rw [hq0] at HB <;> exact HB.out⟩), kB6, kR6, hb7⟩
        case measure => simp [intOf]
      · rw [hq] at H1
        unfold rdv hdv at H1
        simp only at H1
        have HQ := hide hq
        obtain ⟨g1, g2, _⟩ := HK1.out _ hq
        simp only at g1 g2
        by_cases hcmp : b0 < x0
        · have c1 : (b0 : Int) < (x0 : Int) := by omega
          have c2 : decide (b0 < x0) = true := by simpa using hcmp
          clear hb hq
          go_wp2_with fail
          refine (H1.out _).mono ?_
          rintro r w5 ⟨rfl, hb5⟩
          have kB5 := kB.belowS hb5
          have kR5 := kR.belowS hb5
          have hb6 := hbr.trans (hb5.mono hbs)
          have hl5 := kB5.lt
          have hbb6 := hb6.size
          have kB6 := kB5.up (.cells #[.int .i64 (x0 : Nat), .int .i64 (x1 : Nat), .int .i64 (x2 : Nat), .int .i64 (x3 : Nat)] 128)
          have kR6 := kR5.up (.cells #[.int .i64 (x0 : Nat), .int .i64 (x1 : Nat), .int .i64 (x2 : Nat), .int .i64 (x3 : Nat)] 128)
          have hb7 := hb6.alloc hb6.size (.cells #[.int .i64 (x0 : Nat), .int .i64 (x1 : Nat), .int .i64 (x2 : Nat), .int .i64 (x3 : Nat)] 128)
          have k9 := Box.new w5 128 #[.int .i64 (x0 : Nat), .int .i64 (x1 : Nat), .int .i64 (x2 : Nat), .int .i64 (x3 : Nat)]
          clear p0 p1 p2 p3 kB kR hbr hb5 H1
          obtain ⟨p0, p1, p2, p3⟩ := kB6.cell4
          obtain ⟨q0, q1, q2, q3⟩ := k9.cell4
          obtain ⟨r0, r1, r2, r3⟩ := kB5.cell4
          have f0 := kB5.frozen 0
          have f1 := kB5.frozen 1
          have f2 := kB5.frozen 2
          have f3 := kB5.frozen 3
          go_wp2_with fail
          go_roundw
          case rel => exact ⟨2, ⟨x0, x1, x2, x3⟩, rfl, .inr (.inr ⟨rfl, by rw [HN.out, HQ.out]; rcases hq0 : Q0 with _ | a <;> rw [hq0] at HB <;> first | rfl | (simp only; rw [if_pos (by have hh := HB.out; simp only [Option.getD_some] at hh; rw [← hh]; exact hcmp)]; rfl)⟩), kB5.set4.up _, (kR5.far4 (by omega)).up _, (below_set4 hb6 hwb).alloc (by rw [set4_size]; exact hb6.size) _⟩
          case measure => simp [intOf]
        · have c1 : ¬ (b0 : Int) < (x0 : Int) := by omega
          have c2 : decide (b0 < x0) = false := by simpa using hcmp
          clear hb hq
          go_wp2_with fail
          refine (H1.out _).mono ?_
          rintro r w5 ⟨rfl, hb5⟩
          have kB5 := kB.belowS hb5
          have kR5 := kR.belowS hb5
          have hb6 := hbr.trans (hb5.mono hbs)
          have hl5 := kB5.lt
          have hbb6 := hb6.size
          have kB6 := kB5.up (.cells #[.int .i64 (x0 : Nat), .int .i64 (x1 : Nat), .int .i64 (x2 : Nat), .int .i64 (x3 : Nat)] 128)
          have kR6 := kR5.up (.cells #[.int .i64 (x0 : Nat), .int .i64 (x1 : Nat), .int .i64 (x2 : Nat), .int .i64 (x3 : Nat)] 128)
          have hb7 := hb6.alloc hb6.size (.cells #[.int .i64 (x0 : Nat), .int .i64 (x1 : Nat), .int .i64 (x2 : Nat), .int .i64 (x3 : Nat)] 128)
          have k9 := Box.new w5 128 #[.int .i64 (x0 : Nat), .int .i64 (x1 : Nat), .int .i64 (x2 : Nat), .int .i64 (x3 : Nat)]
          clear p0 p1 p2 p3 kB kR hbr hb5 H1
          obtain ⟨p0, p1, p2, p3⟩ := kB6.cell4
          obtain ⟨q0, q1, q2, q3⟩ := k9.cell4
          obtain ⟨r0, r1, r2, r3⟩ := kB5.cell4
          go_wp2_with fail
          go_roundw
          case rel => exact ⟨2, ⟨b0, b1, b2, b3⟩, rfl, .inr (.inr ⟨rfl, by rw [HN.out, HQ.out]; rcases hq0 : Q0 with _ | a <;> rw [hq0] at HB <;> first | (exfalso; have hh := HB.out; simp only [Option.getD_none, zeroH, Head.mk.injEq] at hh; omega) | (simp only; rw [if_neg (by have hh := HB.out; simp only [Option.getD_some] at hh; rw [← hh]; exact hcmp)]; exact HB.out)⟩), kB6, kR6, hb7⟩
          case measure => simp [intOf]
    · obtain ⟨b0, b1, b2, b3⟩ := b
      obtain ⟨kB, kR, hbr⟩ := hst
      have hbs := hbr.size
      have hlB := kB.lt
      have HSS : Hid (∀ ww, Below wr.heap.size wr ww → ww.cell? ⟨bb, 0, none⟩ = some (.int .i64 (b0 : Nat)) ∧ ww.cell? ⟨bb, 1, none⟩ = some (.int .i64 (b1 : Nat)) ∧ ww.cell? ⟨bb, 2, none⟩ = some (.int .i64 (b2 : Nat)) ∧ ww.cell? ⟨bb, 3, none⟩ = some (.int .i64 (b3 : Nat))) := fun ww hb => (kB.belowS hb).cell4
      have HS4 : Hid (∀ ww u0 u1 u2 u3, Below wr.heap.size wr ww → ((((ww.setCell ⟨w.heap.size + 1, 0, none⟩ u0).setCell ⟨w.heap.size + 1, 1, none⟩ u1).setCell ⟨w.heap.size + 1, 2, none⟩ u2).setCell ⟨w.heap.size + 1, 3, none⟩ u3).cell? ⟨bb, 0, none⟩ = some (.int .i64 (b0 : Nat)) ∧ ((((ww.setCell ⟨w.heap.size + 1, 0, none⟩ u0).setCell ⟨w.heap.size + 1, 1, none⟩ u1).setCell ⟨w.heap.size + 1, 2, none⟩ u2).setCell ⟨w.heap.size + 1, 3, none⟩ u3).cell? ⟨bb, 1, none⟩ = some (.int .i64 (b1 : Nat)) ∧ ((((ww.setCell ⟨w.heap.size + 1, 0, none⟩ u0).setCell ⟨w.heap.size + 1, 1, none⟩ u1).setCell ⟨w.heap.size + 1, 2, none⟩ u2).setCell ⟨w.heap.size + 1, 3, none⟩ u3).cell? ⟨bb, 2, none⟩ = some (.int .i64 (b2 : Nat)) ∧ ((((ww.setCell ⟨w.heap.size + 1, 0, none⟩ u0).setCell ⟨w.heap.size + 1, 1, none⟩ u1).setCell ⟨w.heap.size + 1, 2, none⟩ u2).setCell ⟨w.heap.size + 1, 3, none⟩ u3).cell? ⟨bb, 3, none⟩ = some (.int .i64 (b3 : Nat))) := fun ww u0 u1 u2 u3 hb => ((kB.belowS hb).far4 (by omega)).cell4
      have HS5 : Hid (∀ ww u0 u1 u2 u3, Below wr.heap.size wr ww → ((((ww.setCell ⟨w.heap.size + 1, 0, none⟩ u0).setCell ⟨w.heap.size + 1, 1, none⟩ u1).setCell ⟨w.heap.size + 1, 2, none⟩ u2).setCell ⟨w.heap.size + 1, 3, none⟩ u3).drew.cell? ⟨bb, 0, none⟩ = some (.int .i64 (b0 : Nat)) ∧ ((((ww.setCell ⟨w.heap.size + 1, 0, none⟩ u0).setCell ⟨w.heap.size + 1, 1, none⟩ u1).setCell ⟨w.heap.size + 1, 2, none⟩ u2).setCell ⟨w.heap.size + 1, 3, none⟩ u3).drew.cell? ⟨bb, 1, none⟩ = some (.int .i64 (b1 : Nat)) ∧ ((((ww.setCell ⟨w.heap.size + 1, 0, none⟩ u0).setCell ⟨w.heap.size + 1, 1, none⟩ u1).setCell ⟨w.heap.size + 1, 2, none⟩ u2).setCell ⟨w.heap.size + 1, 3, none⟩ u3).drew.cell? ⟨bb, 2, none⟩ = some (.int .i64 (b2 : Nat)) ∧ ((((ww.setCell ⟨w.heap.size + 1, 0, none⟩ u0).setCell ⟨w.heap.size + 1, 1, none⟩ u1).setCell ⟨w.heap.size + 1, 2, none⟩ u2).setCell ⟨w.heap.size + 1, 3, none⟩ u3).drew.cell? ⟨bb, 3, none⟩ = some (.int .i64 (b3 : Nat))) := fun ww u0 u1 u2 u3 hb => ((kB.belowS hb).far4 (by omega)).drew.cell4
      obtain ⟨r0, r1, r2, r3⟩ := kR.cell4
      have f0 := kR.frozen 0
      have f1 := kR.frozen 1
      have f2 := kR.frozen 2
      have f3 := kR.frozen 3
      have hgz : ∀ z, N = z → decide (0 < b0) = z.isSome := by
        rintro z rfl
        cases hNN : N with
        | none => rw [hNN] at hb; simp only [Option.getD_none, zeroH, Head.mk.injEq] at hb; rw [hb.1]; rfl
        | some x => rw [hNN] at hb; simp only [Option.getD_some] at hb; have := HKN.out _ hNN; rw [← hb] at this; simp only at this; simp; omega
      have HGZ := hide (hgz N rfl)
      have HB := hide hb
      obtain ⟨q, hq⟩ : ∃ q, q = decide (0 < b0) := ⟨_, rfl⟩
      have hq2 : decide ((0 : Int) < (b0 : Int)) = q := by rw [hq]; simp
      have hq1 : decide (0 < b0) = q := hq.symm
      have HQ := hide hq
      clear hgz hb hq
      go_wp2_with fail
      go_region_held3 (fun ww => ww.cell? ⟨bb, 0, none⟩ = some (.int .i64 (b0 : Nat)) ∧ ww.cell? ⟨bb, 1, none⟩ = some (.int .i64 (b1 : Nat)) ∧ ww.cell? ⟨bb, 2, none⟩ = some (.int .i64 (b2 : Nat)) ∧ ww.cell? ⟨bb, 3, none⟩ = some (.int .i64 (b3 : Nat)))
        (first | (with_reducible exact (HSS.out wr (Below.refl _ _))) | (with_reducible exact (HSS.out wr.drew (Below.refl _ _).drew)) | (with_reducible exact (HS4.out wr _ _ _ _ (Below.refl _ _))) | (with_reducible exact (HS5.out wr _ _ _ _ (Below.refl _ _))) | (with_reducible exact (HS4.out wr.drew _ _ _ _ (Below.refl _ _).drew)))
        (fail)
      have kF := (kR.set4 (u0 := .int .i64 (b0 : Nat)) (u1 := .int .i64 (b1 : Nat)) (u2 := .int .i64 (b2 : Nat)) (u3 := .int .i64 (b3 : Nat))).drew
      have hbF := (below_set4 (b := w.heap.size + 1) (u0 := .int .i64 (b0 : Nat)) (u1 := .int .i64 (b1 : Nat)) (u2 := .int .i64 (b2 : Nat)) (u3 := .int .i64 (b3 : Nat)) hbr (by omega)).drew
      obtain ⟨s0', s1', s2', s3'⟩ := kF.cell4
      have hfin : Ending.returned (.tuple #[.agg #[.int .i64 (b0 : Nat), .int .i64 (b1 : Nat), .int .i64 (b2 : Nat), .int .i64 (b3 : Nat)], .bool q, .int .i64 0]) = .returned (nwv N) := by
        have h1 := HGZ.out
        have h2 := HB.out
        rw [← HQ.out] at h1
        rw [h1]
        cases hNN : N with
        | none => rw [hNN] at h2; simp only [Option.getD_none, zeroH, Head.mk.injEq] at h2; obtain ⟨rfl, rfl, rfl, rfl⟩ := h2; rfl
        | some x => rw [hNN] at h2; simp only [Option.getD_some] at h2; subst h2; rfl
      clear r0 r1 r2 r3 f0 f1 f2 f3 HSS HS4 HS5 kF
      go_wp2_with fail
      exact bodyPost_ret (v := .tuple #[.agg #[.int .i64 (b0 : Nat), .int .i64 (b1 : Nat), .int .i64 (b2 : Nat), .int .i64 (b3 : Nat)], .bool q, .int .i64 0]) (by simp [results, Try.results89, go_sem, s0', s1', s2', s3']) rfl ⟨hfin, hbF⟩
end Go.Proofs.Yteoiadfcchalfaa
