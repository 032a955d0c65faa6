/- strings.Builder's WriteString at this dump, laid (printed by gl.py out of the laying of strings.Join). -/
import Derived.Test.YtojincohnjophaaGreatDoorKeepF
import Derived.Test.YtojincohnjophaaGreatDoorShelf
import Derived.Test.YtojincohnjophaaGreatDoorKeepE
/-! strings.Builder's WriteString, laid; the walk of layer 21's newest. (printed by gennew.py) -/
namespace Go.Proofs.YtojincohnjophaaGreatDoor
open Go.RowKit
open DiskP (Bytes Disk Wr Fate noughts)
open KeepP (Cut Head okC okH readH zeroH newestP)
set_option linter.unusedVariables false

/-- the best head of the first places -/
def bestP (s0 s1 : Bytes) : Nat → Head
  | 0 => zeroH
  | 1 => (readH s0 0).getD zeroH
  | _ => (newestP s0 s1).getD zeroH
/-- what stands ahead of newest's round: the best head in the box bb -/
def NwR (w0 : World) (bb : Nat) (b : Head) (wr : World) : Prop :=
  Box wr bb 77 #[.int .i64 (b.gen : Nat), .int .i64 (b.half : Nat), .int .i64 (b.seq : Nat), .int .i64 (b.pages : Nat)] ∧ Box wr (w0.heap.size + 1) 77 #[.int .i64 0, .int .i64 0, .int .i64 0, .int .i64 0] ∧ Below w0.heap.size w0 wr
def nwv : Option Head → Value
  | some h => .tuple #[hdv h, .bool true, .int .i64 0]
  | none => .tuple #[hdv zeroH, .bool false, .int .i64 0]
theorem readH_ok {s : Bytes} {p : Nat} {h : Head} (e : readH s p = some h) : okH h := (KeepP.readH_some e).1

set_option maxRecDepth 100000 in
set_option maxHeartbeats 6400000 in
theorem newest_any (A : Option Addr) (n c : Nat) (B : Option Addr) (m e : Nat) (d : Disk) (V : Nat → Prop) (w : World) (h : Dk w V A n c B m e d) (hm : DiskP.may d = true) (h2 : 2 ≤ n) (hdead : d.dead = false) :
    Calls Tryz.prog 34 #[dkv A n c B m e d.left d.dead] w fun q w' => q = .returned (nwv (newestP ((DiskP.done d).getD 0 []) ((DiskP.done d).getD 1 []))) ∧ Below w.heap.size w w' := by
  have hlen := h.len
  have hmi := (DiskP.may_iff d).1 hm
  have hdl : (DiskP.done d).length = n := by rw [DiskP.done, DiskP.doneGo_len, hlen]
  have hsz : ∀ s ∈ DiskP.done d, s.length = 128 := DiskP.doneGo_size d.W (fun w hw => (hmi.2.2.2.2 w hw).2.2) d.S hmi.2.2.2.1
  have hr := fun ww hD => read17_any A n c B m e d V 0 2 ww hD hm (by omega)
  rw [read_ok hm (by simp only [DiskP.there, Bool.and_eq_true, decide_eq_true_eq]; rw [hlen]; omega) hdead] at hr
  obtain ⟨s0, hs0⟩ : ∃ s, s = (DiskP.done d).getD 0 [] := ⟨_, rfl⟩
  obtain ⟨s1, hs1⟩ : ∃ s, s = (DiskP.done d).getD 1 [] := ⟨_, rfl⟩
  have z0 : s0.length = 128 := by rw [hs0, List.getD_eq_getElem?_getD, List.getElem?_eq_getElem (by omega)]; exact hsz _ (List.getElem_mem _)
  have z1 : s1.length = 128 := by rw [hs1, List.getD_eq_getElem?_getD, List.getElem?_eq_getElem (by omega)]; exact hsz _ (List.getElem_mem _)
  have hcat : (((DiskP.done d).drop (0 : Nat)).take 2).flatten = s0 ++ s1 := by
    rw [hs0, hs1]
    match hq : DiskP.done d, hdl with
    | a :: b :: l, _ => simp
    | [a], hl => simp at hl; omega
    | [], hl => simp at hl; omega
  have hcat' : (((DiskP.done d).drop ((0 : Nat) : Int).toNat).take ((2 : Nat) : Int).toNat).flatten = s0 ++ s1 := hcat
  rw [hcat'] at hr
  obtain ⟨SS, hSS⟩ : ∃ SS, SS = mkB (s0 ++ s1) := ⟨_, rfl⟩
  rw [← hSS] at hr
  have zS : SS.size = 256 := by rw [hSS, mkB_size, List.length_append]; omega
  have o0 : oct (SS.extract 0 128) = s0 := by rw [oct_extract, hSS, oct_mkB, List.drop_zero, ← z0, Nat.sub_zero, List.take_left]
  have o1 : oct (SS.extract 128 256) = s1 := by
    rw [oct_extract, hSS, oct_mkB, show (128 : Nat) = s0.length from z0.symm, List.drop_left, List.take_of_length_le (by omega)]
  have r0 := fun w1 => readh_any (SS.extract 0 128) 0 w1 (by rw [← oct_length, o0, z0]) (by decide)
  have r1 := fun w1 => readh_any (SS.extract 128 256) 1 w1 (by rw [← oct_length, o1, z1]) (by decide)
  rw [o0] at r0
  rw [o1] at r1
  rw [← hs0, ← hs1]
  obtain ⟨N, hN⟩ : ∃ N, N = newestP s0 s1 := ⟨_, rfl⟩
  rw [← hN]
  have hb2 : bestP s0 s1 2 = N.getD zeroH := by rw [hN]; rfl
  have hNd : newestP s0 s1 = (match readH s0 0, readH s1 1 with
    | none, none => none
    | some a, none => some a
    | none, some b => some b
    | some a, some b => if a.gen < b.gen then some b else some a) := rfl
  rw [← hN] at hNd
  have hk0 : ∀ x, readH s0 0 = some x → okH x := fun x hx => readH_ok hx
  have hk1 : ∀ x, readH s1 1 = some x → okH x := fun x hx => readH_ok hx
  have hkN : ∀ x, newestP s0 s1 = some x → 1 ≤ x.gen := by
    intro x hx
    unfold newestP at hx
    split at hx
    · cases hx
    · rename_i a h0 _; injection hx with hx; subst hx; exact (hk0 _ h0).1
    · rename_i a _ h0; injection hx with hx; subst hx; exact (hk1 _ h0).1
    · rename_i a b h0 h1
      split at hx
      · injection hx with hx; subst hx; exact (hk1 _ h1).1
      · injection hx with hx; subst hx; exact (hk0 _ h0).1
  rw [← hN] at hkN
  have HKN := hide hkN
  clear hkN
  obtain ⟨Q0, hQ0⟩ : ∃ Q, Q = readH s0 0 := ⟨_, rfl⟩
  obtain ⟨Q1, hQ1⟩ : ∃ Q, Q = readH s1 1 := ⟨_, rfl⟩
  rw [← hQ0] at r0 hNd hk0
  rw [← hQ1] at r1 hNd hk1
  obtain ⟨lf, hlf⟩ : ∃ lf, lf = d.left := ⟨_, rfl⟩
  rw [hdead, ← hlf] at hr ⊢
  have HR := hide hr
  have H0 : Hid (∀ w1, Calls Tryz.prog 69 #[.string (SS.extract 0 128), .int .i64 0] w1 fun q w' => q = .returned (rdv Q0) ∧ Below w1.heap.size w1 w') := r0
  have H1 : Hid (∀ w1, Calls Tryz.prog 69 #[.string (SS.extract 128 256), .int .i64 1] w1 fun q w' => q = .returned (rdv Q1) ∧ Below w1.heap.size w1 w') := r1
  have HN := hide hNd
  have HK0 := hide hk0
  have HK1 := hide hk1
  have zI : (SS.size : Int) = 256 := by omega
  have kR0 := (Box.new (w.alloc (.cells #[.slice A n c, .slice B m e, .int .i64 lf, .bool false] 54)) 77 #[.int .i64 0, .int .i64 0, .int .i64 0, .int .i64 0])
  have kD0 := (Box.new w 54 #[.slice A n c, .slice B m e, .int .i64 lf, .bool false]).up (.cells #[.int .i64 0, .int .i64 0, .int .i64 0, .int .i64 0] 77)
  have hb0 := ((Below.refl w.heap.size w).alloc (Nat.le_refl _) (.cells #[.slice A n c, .slice B m e, .int .i64 lf, .bool false] 54)).alloc (by simp) (.cells #[.int .i64 0, .int .i64 0, .int .i64 0, .int .i64 0] 77)
  rw [World.size_alloc] at kR0
  have hD0 := h.below hb0
  obtain ⟨w0, hw0⟩ : ∃ y, y = (w.alloc (.cells #[.slice A n c, .slice B m e, .int .i64 lf, .bool false] 54)).alloc (.cells #[.int .i64 0, .int .i64 0, .int .i64 0, .int .i64 0] 77) := ⟨_, rfl⟩
  rw [← hw0] at kR0 kD0 hb0 hD0
  have HW0 := hide hw0
  clear hlen hmi hdl hsz hr hs0 hs1 z0 z1 hcat hcat' hSS zS o0 o1 r0 r1 hN hb2 hNd hk0 hk1 hQ0 hQ1 hlf hw0 h hm hdead
  go_enter Tryz.func34, Tryz.ntmps34
  go_upto_region 1 with (fail)
  rw [← HW0.out]
  clear HW0
  obtain ⟨q0, q1, q2, q3⟩ := kD0.cell4
  go_wp2_with fail
  refine (HR.out _ hD0).mono ?_
  rintro r w1 ⟨rfl, hb1⟩
  have kR1 := (kR0.belowS hb1).up (.cells #[.int .i64 0, .int .i64 0, .int .i64 0, .int .i64 0] 77)
  have kB1 := Box.new w1 77 #[.int .i64 0, .int .i64 0, .int .i64 0, .int .i64 0]
  have hbw1 := hb0.trans (hb1.mono hb0.size)
  have hrb := (kR0.belowS hb1).lt
  have hbw2 := hbw1.alloc hbw1.size (.cells #[.int .i64 0, .int .i64 0, .int .i64 0, .int .i64 0] 77)
  obtain ⟨bb, hbb⟩ : ∃ b, b = w1.heap.size := ⟨_, rfl⟩
  rw [← hbb] at kB1 hrb
  have hwb : w.heap.size ≤ bb := by omega
  have HBB := hide hbb
  obtain ⟨w2, hw2⟩ : ∃ y, y = w1.alloc (.cells #[.int .i64 0, .int .i64 0, .int .i64 0, .int .i64 0] 77) := ⟨_, rfl⟩
  rw [← hw2] at kR1 kB1 hbw2
  have HW2 := hide hw2
  clear q0 q1 q2 q3 kR0 kD0 hb0 hD0 hb1 hbw1 hbb hw2 HR
  have e0 : ((0 : Nat) : Int) = 0 := rfl
  simp only [e0]
  go_upto_block 0 with (fail)
  rw [← HW2.out, ← HBB.out]
  clear HW2 HBB
  go_wp2_with fail
  go_loopw [20] (fun jv wr => ∃ j b, jv = .int .i64 (j : Nat) ∧ (j = 0 ∧ b = zeroH ∨ j = 1 ∧ b = Q0.getD zeroH ∨ j = 2 ∧ b = N.getD zeroH) ∧ NwR w bb b wr) (fun jv _ => 2 - (intOf jv).toNat)
  case atStart => exact ⟨0, zeroH, rfl, .inl ⟨rfl, rfl⟩, kB1, kR1, hbw2⟩
  case round =>
    clear kB1 kR1 hbw2
    obtain ⟨j, b, rfl, hj, hst⟩ := hrel
    rcases hj with ⟨rfl, hb⟩ | ⟨rfl, hb⟩ | ⟨rfl, hb⟩
    · obtain ⟨b0, b1, b2, b3⟩ := b
      have HB := hide hb
      obtain ⟨kB, kR, hbr⟩ := hst
      obtain ⟨p0, p1, p2, p3⟩ := kB.cell4
      have hbs := hbr.size
      rcases hq : Q0 with _ | ⟨x0, x1, x2, x3⟩
      · rw [hq] at H0
        unfold rdv hdv zeroH at H0
        have HQ := hide hq
        clear hb hq
        go_wp2_with fail
        refine (H0.out _).mono ?_
        rintro r w5 ⟨rfl, hb5⟩
        have kB5 := kB.belowS hb5
        have kR5 := kR.belowS hb5
        have hb6 := hbr.trans (hb5.mono hbs)
        have hl5 := kB5.lt
        have hbb6 := hb6.size
        have kB6 := kB5.up (.cells #[.int .i64 0, .int .i64 0, .int .i64 0, .int .i64 0] 77)
        have kR6 := kR5.up (.cells #[.int .i64 0, .int .i64 0, .int .i64 0, .int .i64 0] 77)
        have hb7 := hb6.alloc hb6.size (.cells #[.int .i64 0, .int .i64 0, .int .i64 0, .int .i64 0] 77)
        clear p0 p1 p2 p3 kB kR hbr hb5 kB5 kR5 hb6 H0
        obtain ⟨p0, p1, p2, p3⟩ := kB6.cell4
        go_wp2_with fail
        go_roundw
        case rel => exact ⟨1, ⟨b0, b1, b2, b3⟩, rfl, .inr (.inl ⟨rfl, HB.out⟩), kB6, kR6, hb7⟩
        case measure => simp [intOf]
      · rw [hq] at H0
        unfold rdv hdv at H0
        simp only at H0
        have HQ := hide hq
        obtain ⟨g1, g2, _⟩ := HK0.out _ hq
        simp only at g1 g2
        have hz : b0 = 0 := by have hh := hb; simp only [zeroH, Head.mk.injEq] at hh; exact hh.1
        have c1 : (b0 : Int) < (x0 : Int) := by omega
        have c2 : decide (b0 < x0) = true := by simp; omega
        clear hb hq
        go_wp2_with fail
        refine (H0.out _).mono ?_
        rintro r w5 ⟨rfl, hb5⟩
        have kB5 := kB.belowS hb5
        have kR5 := kR.belowS hb5
        have hb6 := hbr.trans (hb5.mono hbs)
        have hl5 := kB5.lt
        have hbb6 := hb6.size
        have kB6 := kB5.up (.cells #[.int .i64 (x0 : Nat), .int .i64 (x1 : Nat), .int .i64 (x2 : Nat), .int .i64 (x3 : Nat)] 77)
        have kR6 := kR5.up (.cells #[.int .i64 (x0 : Nat), .int .i64 (x1 : Nat), .int .i64 (x2 : Nat), .int .i64 (x3 : Nat)] 77)
        have hb7 := hb6.alloc hb6.size (.cells #[.int .i64 (x0 : Nat), .int .i64 (x1 : Nat), .int .i64 (x2 : Nat), .int .i64 (x3 : Nat)] 77)
        have k9 := Box.new w5 77 #[.int .i64 (x0 : Nat), .int .i64 (x1 : Nat), .int .i64 (x2 : Nat), .int .i64 (x3 : Nat)]
        clear p0 p1 p2 p3 kB kR hbr hb5 H0
        obtain ⟨p0, p1, p2, p3⟩ := kB6.cell4
        obtain ⟨q0, q1, q2, q3⟩ := k9.cell4
        obtain ⟨r0, r1, r2, r3⟩ := kB5.cell4
        have f0 := kB5.frozen 0
        have f1 := kB5.frozen 1
        have f2 := kB5.frozen 2
        have f3 := kB5.frozen 3
        go_wp2_with fail
        go_roundw
        case rel => exact ⟨1, ⟨x0, x1, x2, x3⟩, rfl, .inr (.inl ⟨rfl, rfl⟩), kB5.set4.up _, (kR5.far4 (by omega)).up _, (below_set4 hb6 hwb).alloc (by rw [set4_size]; exact hb6.size) _⟩
        case measure => simp [intOf]
    · obtain ⟨b0, b1, b2, b3⟩ := b
      have HB := hide hb
      obtain ⟨kB, kR, hbr⟩ := hst
      obtain ⟨p0, p1, p2, p3⟩ := kB.cell4
      have hbs := hbr.size
      rcases hq : Q1 with _ | ⟨x0, x1, x2, x3⟩
      · rw [hq] at H1
        unfold rdv hdv zeroH at H1
        have HQ := hide hq
        clear hb hq
        go_wp2_with fail
        refine (H1.out _).mono ?_
        rintro r w5 ⟨rfl, hb5⟩
        have kB5 := kB.belowS hb5
        have kR5 := kR.belowS hb5
        have hb6 := hbr.trans (hb5.mono hbs)
        have hl5 := kB5.lt
        have hbb6 := hb6.size
        have kB6 := kB5.up (.cells #[.int .i64 0, .int .i64 0, .int .i64 0, .int .i64 0] 77)
        have kR6 := kR5.up (.cells #[.int .i64 0, .int .i64 0, .int .i64 0, .int .i64 0] 77)
        have hb7 := hb6.alloc hb6.size (.cells #[.int .i64 0, .int .i64 0, .int .i64 0, .int .i64 0] 77)
        clear p0 p1 p2 p3 kB kR hbr hb5 kB5 kR5 hb6 H1
        obtain ⟨p0, p1, p2, p3⟩ := kB6.cell4
        go_wp2_with fail
        go_roundw
        case rel => exact ⟨2, ⟨b0, b1, b2, b3⟩, rfl, .inr (.inr ⟨rfl, by rw [HN.out, HQ.out]; rcases hq0 : Q0 with _ | a <;> rw [hq0] at HB <;> exact HB.out⟩), kB6, kR6, hb7⟩
        case measure => simp [intOf]
      · rw [hq] at H1
        unfold rdv hdv at H1
        simp only at H1
        have HQ := hide hq
        obtain ⟨g1, g2, _⟩ := HK1.out _ hq
        simp only at g1 g2
        by_cases hcmp : b0 < x0
        · have c1 : (b0 : Int) < (x0 : Int) := by omega
          have c2 : decide (b0 < x0) = true := by simpa using hcmp
          clear hb hq
          go_wp2_with fail
          refine (H1.out _).mono ?_
          rintro r w5 ⟨rfl, hb5⟩
          have kB5 := kB.belowS hb5
          have kR5 := kR.belowS hb5
          have hb6 := hbr.trans (hb5.mono hbs)
          have hl5 := kB5.lt
          have hbb6 := hb6.size
          have kB6 := kB5.up (.cells #[.int .i64 (x0 : Nat), .int .i64 (x1 : Nat), .int .i64 (x2 : Nat), .int .i64 (x3 : Nat)] 77)
          have kR6 := kR5.up (.cells #[.int .i64 (x0 : Nat), .int .i64 (x1 : Nat), .int .i64 (x2 : Nat), .int .i64 (x3 : Nat)] 77)
          have hb7 := hb6.alloc hb6.size (.cells #[.int .i64 (x0 : Nat), .int .i64 (x1 : Nat), .int .i64 (x2 : Nat), .int .i64 (x3 : Nat)] 77)
          have k9 := Box.new w5 77 #[.int .i64 (x0 : Nat), .int .i64 (x1 : Nat), .int .i64 (x2 : Nat), .int .i64 (x3 : Nat)]
          clear p0 p1 p2 p3 kB kR hbr hb5 H1
          obtain ⟨p0, p1, p2, p3⟩ := kB6.cell4
          obtain ⟨q0, q1, q2, q3⟩ := k9.cell4
          obtain ⟨r0, r1, r2, r3⟩ := kB5.cell4
          have f0 := kB5.frozen 0
          have f1 := kB5.frozen 1
          have f2 := kB5.frozen 2
          have f3 := kB5.frozen 3
          go_wp2_with fail
          go_roundw
          case rel => exact ⟨2, ⟨x0, x1, x2, x3⟩, rfl, .inr (.inr ⟨rfl, by rw [HN.out, HQ.out]; rcases hq0 : Q0 with _ | a <;> rw [hq0] at HB <;> first | rfl | (simp only; rw [if_pos (by have hh := HB.out; simp only [Option.getD_some] at hh; rw [← hh]; exact hcmp)]; rfl)⟩), kB5.set4.up _, (kR5.far4 (by omega)).up _, (below_set4 hb6 hwb).alloc (by rw [set4_size]; exact hb6.size) _⟩
          case measure => simp [intOf]
        · have c1 : ¬ (b0 : Int) < (x0 : Int) := by omega
          have c2 : decide (b0 < x0) = false := by simpa using hcmp
          clear hb hq
          go_wp2_with fail
          refine (H1.out _).mono ?_
          rintro r w5 ⟨rfl, hb5⟩
          have kB5 := kB.belowS hb5
          have kR5 := kR.belowS hb5
          have hb6 := hbr.trans (hb5.mono hbs)
          have hl5 := kB5.lt
          have hbb6 := hb6.size
          have kB6 := kB5.up (.cells #[.int .i64 (x0 : Nat), .int .i64 (x1 : Nat), .int .i64 (x2 : Nat), .int .i64 (x3 : Nat)] 77)
          have kR6 := kR5.up (.cells #[.int .i64 (x0 : Nat), .int .i64 (x1 : Nat), .int .i64 (x2 : Nat), .int .i64 (x3 : Nat)] 77)
          have hb7 := hb6.alloc hb6.size (.cells #[.int .i64 (x0 : Nat), .int .i64 (x1 : Nat), .int .i64 (x2 : Nat), .int .i64 (x3 : Nat)] 77)
          have k9 := Box.new w5 77 #[.int .i64 (x0 : Nat), .int .i64 (x1 : Nat), .int .i64 (x2 : Nat), .int .i64 (x3 : Nat)]
          clear p0 p1 p2 p3 kB kR hbr hb5 H1
          obtain ⟨p0, p1, p2, p3⟩ := kB6.cell4
          obtain ⟨q0, q1, q2, q3⟩ := k9.cell4
          obtain ⟨r0, r1, r2, r3⟩ := kB5.cell4
          go_wp2_with fail
          go_roundw
          case rel => exact ⟨2, ⟨b0, b1, b2, b3⟩, rfl, .inr (.inr ⟨rfl, by rw [HN.out, HQ.out]; rcases hq0 : Q0 with _ | a <;> rw [hq0] at HB <;> first | (exfalso; have hh := HB.out; simp only [Option.getD_none, zeroH, Head.mk.injEq] at hh; omega) | (simp only; rw [if_neg (by have hh := HB.out; simp only [Option.getD_some] at hh; rw [← hh]; exact hcmp)]; exact HB.out)⟩), kB6, kR6, hb7⟩
          case measure => simp [intOf]
    · obtain ⟨b0, b1, b2, b3⟩ := b
      obtain ⟨kB, kR, hbr⟩ := hst
      have hbs := hbr.size
      have hlB := kB.lt
      have HSS : Hid (∀ ww, Below wr.heap.size wr ww → ww.cell? ⟨bb, 0, none⟩ = some (.int .i64 (b0 : Nat)) ∧ ww.cell? ⟨bb, 1, none⟩ = some (.int .i64 (b1 : Nat)) ∧ ww.cell? ⟨bb, 2, none⟩ = some (.int .i64 (b2 : Nat)) ∧ ww.cell? ⟨bb, 3, none⟩ = some (.int .i64 (b3 : Nat))) := fun ww hb => (kB.belowS hb).cell4
      have HS4 : Hid (∀ ww u0 u1 u2 u3, Below wr.heap.size wr ww → ((((ww.setCell ⟨w.heap.size + 1, 0, none⟩ u0).setCell ⟨w.heap.size + 1, 1, none⟩ u1).setCell ⟨w.heap.size + 1, 2, none⟩ u2).setCell ⟨w.heap.size + 1, 3, none⟩ u3).cell? ⟨bb, 0, none⟩ = some (.int .i64 (b0 : Nat)) ∧ ((((ww.setCell ⟨w.heap.size + 1, 0, none⟩ u0).setCell ⟨w.heap.size + 1, 1, none⟩ u1).setCell ⟨w.heap.size + 1, 2, none⟩ u2).setCell ⟨w.heap.size + 1, 3, none⟩ u3).cell? ⟨bb, 1, none⟩ = some (.int .i64 (b1 : Nat)) ∧ ((((ww.setCell ⟨w.heap.size + 1, 0, none⟩ u0).setCell ⟨w.heap.size + 1, 1, none⟩ u1).setCell ⟨w.heap.size + 1, 2, none⟩ u2).setCell ⟨w.heap.size + 1, 3, none⟩ u3).cell? ⟨bb, 2, none⟩ = some (.int .i64 (b2 : Nat)) ∧ ((((ww.setCell ⟨w.heap.size + 1, 0, none⟩ u0).setCell ⟨w.heap.size + 1, 1, none⟩ u1).setCell ⟨w.heap.size + 1, 2, none⟩ u2).setCell ⟨w.heap.size + 1, 3, none⟩ u3).cell? ⟨bb, 3, none⟩ = some (.int .i64 (b3 : Nat))) := fun ww u0 u1 u2 u3 hb => ((kB.belowS hb).far4 (by omega)).cell4
      have HS5 : Hid (∀ ww u0 u1 u2 u3, Below wr.heap.size wr ww → ((((ww.setCell ⟨w.heap.size + 1, 0, none⟩ u0).setCell ⟨w.heap.size + 1, 1, none⟩ u1).setCell ⟨w.heap.size + 1, 2, none⟩ u2).setCell ⟨w.heap.size + 1, 3, none⟩ u3).drew.cell? ⟨bb, 0, none⟩ = some (.int .i64 (b0 : Nat)) ∧ ((((ww.setCell ⟨w.heap.size + 1, 0, none⟩ u0).setCell ⟨w.heap.size + 1, 1, none⟩ u1).setCell ⟨w.heap.size + 1, 2, none⟩ u2).setCell ⟨w.heap.size + 1, 3, none⟩ u3).drew.cell? ⟨bb, 1, none⟩ = some (.int .i64 (b1 : Nat)) ∧ ((((ww.setCell ⟨w.heap.size + 1, 0, none⟩ u0).setCell ⟨w.heap.size + 1, 1, none⟩ u1).setCell ⟨w.heap.size + 1, 2, none⟩ u2).setCell ⟨w.heap.size + 1, 3, none⟩ u3).drew.cell? ⟨bb, 2, none⟩ = some (.int .i64 (b2 : Nat)) ∧ ((((ww.setCell ⟨w.heap.size + 1, 0, none⟩ u0).setCell ⟨w.heap.size + 1, 1, none⟩ u1).setCell ⟨w.heap.size + 1, 2, none⟩ u2).setCell ⟨w.heap.size + 1, 3, none⟩ u3).drew.cell? ⟨bb, 3, none⟩ = some (.int .i64 (b3 : Nat))) := fun ww u0 u1 u2 u3 hb => ((kB.belowS hb).far4 (by omega)).drew.cell4
      obtain ⟨r0, r1, r2, r3⟩ := kR.cell4
      have f0 := kR.frozen 0
      have f1 := kR.frozen 1
      have f2 := kR.frozen 2
      have f3 := kR.frozen 3
      have hgz : ∀ z, N = z → decide (0 < b0) = z.isSome := by
        rintro z rfl
        cases hNN : N with
        | none => rw [hNN] at hb; simp only [Option.getD_none, zeroH, Head.mk.injEq] at hb; rw [hb.1]; rfl
        | some x => rw [hNN] at hb; simp only [Option.getD_some] at hb; have := HKN.out _ hNN; rw [← hb] at this; simp only at this; simp; omega
      have HGZ := hide (hgz N rfl)
      have HB := hide hb
      obtain ⟨q, hq⟩ : ∃ q, q = decide (0 < b0) := ⟨_, rfl⟩
      have hq2 : decide ((0 : Int) < (b0 : Int)) = q := by rw [hq]; simp
      have hq1 : decide (0 < b0) = q := hq.symm
      have HQ := hide hq
      clear hgz hb hq
      go_wp2_with fail
      go_region_held3 (fun ww => ww.cell? ⟨bb, 0, none⟩ = some (.int .i64 (b0 : Nat)) ∧ ww.cell? ⟨bb, 1, none⟩ = some (.int .i64 (b1 : Nat)) ∧ ww.cell? ⟨bb, 2, none⟩ = some (.int .i64 (b2 : Nat)) ∧ ww.cell? ⟨bb, 3, none⟩ = some (.int .i64 (b3 : Nat)))
        (first | (with_reducible exact (HSS.out wr (Below.refl _ _))) | (with_reducible exact (HSS.out wr.drew (Below.refl _ _).drew)) | (with_reducible exact (HS4.out wr _ _ _ _ (Below.refl _ _))) | (with_reducible exact (HS5.out wr _ _ _ _ (Below.refl _ _))) | (with_reducible exact (HS4.out wr.drew _ _ _ _ (Below.refl _ _).drew)))
        (fail)
      have kF := (kR.set4 (u0 := .int .i64 (b0 : Nat)) (u1 := .int .i64 (b1 : Nat)) (u2 := .int .i64 (b2 : Nat)) (u3 := .int .i64 (b3 : Nat))).drew
      have hbF := (below_set4 (b := w.heap.size + 1) (u0 := .int .i64 (b0 : Nat)) (u1 := .int .i64 (b1 : Nat)) (u2 := .int .i64 (b2 : Nat)) (u3 := .int .i64 (b3 : Nat)) hbr (by omega)).drew
      obtain ⟨s0', s1', s2', s3'⟩ := kF.cell4
      have hfin : Ending.returned (.tuple #[.agg #[.int .i64 (b0 : Nat), .int .i64 (b1 : Nat), .int .i64 (b2 : Nat), .int .i64 (b3 : Nat)], .bool q, .int .i64 0]) = .returned (nwv N) := by
        have h1 := HGZ.out
        have h2 := HB.out
        rw [← HQ.out] at h1
        rw [h1]
        cases hNN : N with
        | none => rw [hNN] at h2; simp only [Option.getD_none, zeroH, Head.mk.injEq] at h2; obtain ⟨rfl, rfl, rfl, rfl⟩ := h2; rfl
        | some x => rw [hNN] at h2; simp only [Option.getD_some] at h2; subst h2; rfl
      clear r0 r1 r2 r3 f0 f1 f2 f3 HSS HS4 HS5 kF
      go_wp2_with fail
      exact bodyPost_ret (v := .tuple #[.agg #[.int .i64 (b0 : Nat), .int .i64 (b1 : Nat), .int .i64 (b2 : Nat), .int .i64 (b3 : Nat)], .bool q, .int .i64 0]) (by simp [results, Tryz.results34, go_sem, s0', s1', s2', s3']) rfl ⟨hfin, hbF⟩
end Go.Proofs.YtojincohnjophaaGreatDoor

/-! The walks of slot.Read and of the reference's Read. -/
namespace Go.Proofs.YtojincohnjophaaGreatDoor
open Go.RowKit
set_option linter.unusedVariables false

theorem i64_or_nat (a b : Nat) (ha : a < 9223372036854775808) (hb : b < 9223372036854775808) : bits .or .i64 (a : Int) (b : Int) = ((a ||| b : Nat) : Int) := by
  have hx : a ||| b < 2 ^ 63 := Nat.or_lt_two_pow (by omega) (by omega)
  have ea : (BitVec.ofInt 64 (a : Int)).toNat = a := by rw [BitVec.ofInt_natCast, BitVec.toNat_ofNat]; exact Nat.mod_eq_of_lt (by omega)
  have eb : (BitVec.ofInt 64 (b : Int)).toNat = b := by rw [BitVec.ofInt_natCast, BitVec.toNat_ofNat]; exact Nat.mod_eq_of_lt (by omega)
  show IntKind.i64.wrap ((BitVec.ofInt 64 (a : Int) ||| BitVec.ofInt 64 (b : Int)).toNat : Int) = _
  rw [BitVec.toNat_or, ea, eb, IntKind.wrap_i64]
  omega
theorem or_bytes (x y : Nat) (hy : y < 256) : (x * 256) ||| y = 256 * x + y := by
  have := Nat.shiftLeft_add_eq_or_of_lt (b := y) (i := 8) (by omega) x
  rw [Nat.shiftLeft_eq] at this
  rw [← this]; omega

theorem oct_at (s : ByteArray) (i : Nat) (h : i < s.size) : (oct s).getD i 0 = s[i] := by
  rw [List.getD_eq_getElem?_getD, List.getElem?_eq_getElem (by rw [oct_length]; exact h)]
  rfl
theorem rd16 (s : ByteArray) (i j : Nat) (hi : i < s.size) (hj : j < s.size) (hij : j = i + 1) :
    bits .or .i64 (wrap64 (wrap64 (s[i].toNat : Int) * 256)) (wrap64 (s[j].toNat : Int)) = ((SlotP.at16 (oct s) i : Nat) : Int) := by
  subst hij
  have h1 : s[i].toNat < 256 := UInt8.toNat_lt _
  have h2 : s[i + 1].toNat < 256 := UInt8.toNat_lt _
  have e1 : wrap64 (wrap64 (s[i].toNat : Int) * 256) = ((s[i].toNat * 256 : Nat) : Int) := by
    have e0 : wrap64 (s[i].toNat : Int) = (s[i].toNat : Int) := IntWalk.wrap64_in _ (by omega)
    rw [e0, IntWalk.wrap64_in _ (by omega)]; omega
  have e2 : wrap64 (s[i + 1].toNat : Int) = ((s[i + 1].toNat : Nat) : Int) := IntWalk.wrap64_in _ (by omega)
  rw [e1, e2, i64_or_nat _ _ (by omega) (by omega), or_bytes _ _ h2, SlotP.at16, oct_at s i hi, oct_at s (i + 1) hj]
/-- what the loop of Read still has to do comes to what is read -/
def Reads (b : List UInt8) (n k : Nat) (ts : List ByteArray) (fin : Nat) : Prop :=
  SlotP.readGo b (n - k) k (octs ts) fin = SlotP.readGo b n 0 [] 1024 ∧ ts.length = k ∧ fin ≤ 1024
theorem reads_start (b : List UInt8) (n : Nat) : Reads b n 0 [] 1024 := ⟨by simp [octs_nil], rfl, by omega⟩
theorem reads_no {b : List UInt8} {n k : Nat} {ts : List ByteArray} {fin : Nat} (h : Reads b n k ts fin) (hk : k < n) (hlt : (fin : Int) < (SlotP.at16 b (2 + 2 * k) : Nat)) : SlotP.readGo b n 0 [] 1024 = none := by
  rw [← h.1, show n - k = (n - (k + 1)) + 1 by omega, SlotP.readGo, if_pos (by omega)]
theorem reads_succ {s : ByteArray} {n k : Nat} {ts : List ByteArray} {fin : Nat} (h : Reads (oct s) n k ts fin) (hk : k < n) (hle : (SlotP.at16 (oct s) (2 + 2 * k) : Int) ≤ fin) :
    Reads (oct s) n (k + 1) (ts ++ [s.extract (fin - SlotP.at16 (oct s) (2 + 2 * k)) fin]) (fin - SlotP.at16 (oct s) (2 + 2 * k)) := by
  refine ⟨?_, by simp [h.2.1], by have := h.2.2; omega⟩
  rw [← h.1, show n - k = (n - (k + 1)) + 1 by omega, SlotP.readGo, if_neg (by omega), octs_append, octs_cons, octs_nil, oct_extract, show fin - (fin - SlotP.at16 (oct s) (2 + 2 * k)) = SlotP.at16 (oct s) (2 + 2 * k) by omega]
theorem reads_all {b : List UInt8} {n : Nat} {ts : List ByteArray} {fin : Nat} (h : Reads b n n ts fin) : SlotP.readGo b n 0 [] 1024 = some (octs ts) := by
  rw [← h.1, Nat.sub_self, SlotP.readGo]
theorem read_none {b : List UInt8} (h1 : b.length = 1024) (h2 : SlotP.at16 b 0 ≤ 40) (h3 : SlotP.readGo b (SlotP.at16 b 0) 0 [] 1024 = none) : SlotP.read b = ([], 3) := by
  unfold SlotP.read
  rw [if_neg (by omega), if_neg (by omega), h3]
theorem read_some {b : List UInt8} {l : List (List UInt8)} (h1 : b.length = 1024) (h2 : SlotP.at16 b 0 ≤ 40) (h3 : SlotP.readGo b (SlotP.at16 b 0) 0 [] 1024 = some l) : SlotP.read b = if SlotP.fits l && decide (SlotP.lay l = b) then (l, 0) else ([], 3) := by
  unfold SlotP.read
  rw [if_neg (by omega), if_neg (by omega), h3]
theorem read_far {b : List UInt8} (h1 : b.length = 1024) (h2 : 40 < SlotP.at16 b 0) : SlotP.read b = ([], 3) := by
  unfold SlotP.read
  rw [if_neg (by omega), if_pos (by omega)]
theorem read_short {b : List UInt8} (h1 : b.length ≠ 1024) : SlotP.read b = ([], 17) := by
  unfold SlotP.read
  rw [if_pos h1]

set_option maxRecDepth 100000 in
set_option maxHeartbeats 4000000 in
theorem read_any (s : ByteArray) (w : World) (hs : s.size ≤ 9223372036854775807) :
    Calls Tryz.prog 9 #[.string s] w fun e w' => ∃ v ts, e = .returned (.tuple #[v, .int .i64 ((SlotP.read (oct s)).2 : Nat)]) ∧ w'.ownsRow w.heap.size 9 1 v ts.length (strs ts) ∧ octs ts = (SlotP.read (oct s)).1 ∧ Below w.heap.size w w' := by
  by_cases h1024 : s.size = 1024
  · have hne : ((s.size : Int) != 1024) = false := by simp; omega
    have h00 : 0 < s.size := by omega
    have h01 : 1 < s.size := by omega
    have h02 : (0 : Int) < s.size := by omega
    have h03 : (1 : Int) < s.size := by omega
    have hsz : (1024 : Int) ≤ s.size := by omega
    have hsz2 : (s.size : Int) ≤ 1024 := by omega
    have hrd := rd16 s 0 1 h00 h01 rfl
    have hl1024 : (oct s).length = 1024 := by rw [oct_length]; exact h1024
    have H1024 := hide h1024
    have HL := hide hl1024
    clear h1024 hl1024
    by_cases h40 : 40 < SlotP.at16 (oct s) 0
    · have hr := read_far HL.out h40
      have h40' : (40 : Int) < (SlotP.at16 (oct s) 0 : Nat) := by omega
      have HR := hide hr
      clear hr h40
      go_enter Tryz.func9, Tryz.ntmps9
      go_wp2
      go_quiet (fail)
      go_wp2
      go_ret2
      exact ⟨_, [], by rw [HR.out]; rfl, World.ownsRow_nil _ _ _ _, by rw [HR.out]; rfl, below_drewN (Below.refl _ _) _⟩
    · have h40' : (SlotP.at16 (oct s) 0 : Int) ≤ 40 := by omega
      clear h40
      go_enter Tryz.func9, Tryz.ntmps9
      go_wp2
      go_quiet (fail)
      go_wp2
      clear hrd
      generalize hn0 : SlotP.at16 (oct s) 0 = n at *
      have HN := hide hn0
      clear hn0
      go_loopw [5, 6, 27] (fun v f i wr => ∃ (k fin : Nat) (ts : List ByteArray), k ≤ n ∧ i = .int .i64 k ∧ f = .int .i64 fin ∧ Reads (oct s) n k ts fin ∧ wr.ownsRow w.heap.size 9 1 v k (strs ts) ∧ Below w.heap.size w wr) (fun _ _ i _ => n - (intOf i).toNat)
      case atStart => exact ⟨0, 1024, [], Nat.zero_le _, rfl, by rw [H1024.out], reads_start _ _, World.ownsRow_nil _ _ _ _, below_drewN (Below.refl _ _) _⟩
      case round =>
        obtain ⟨k, fin, ts, hk, rfl, rfl, hrs, hown, hb⟩ := hrel
        have hfin := hrs.2.2
        have htl := hrs.2.1
        have HTL := hide htl
        clear htl
        by_cases hlt : k < n
        · have g1 : 2 + 2 * k < s.size := by omega
          have g2 : 3 + 2 * k < s.size := by omega
          have g3 : (2 : Int) + 2 * k < s.size := by omega
          have g4 : (3 : Int) + 2 * k < s.size := by omega
          have g5 : (0 : Int) ≤ 2 + 2 * k := by omega
          have g6 : (0 : Int) ≤ 3 + 2 * k := by omega
          have e1 : IntKind.i64.wrap (2 * (k : Int)) = 2 * (k : Int) := IntWalk.i64_in _ (by omega)
          have e2 : IntKind.i64.wrap (2 + 2 * (k : Int)) = 2 + 2 * (k : Int) := IntWalk.i64_in _ (by omega)
          have e3 : IntKind.i64.wrap (3 + 2 * (k : Int)) = 3 + 2 * (k : Int) := IntWalk.i64_in _ (by omega)
          have e4 : ((2 : Int) + 2 * k).toNat = 2 + 2 * k := by omega
          have e5 : ((3 : Int) + 2 * k).toNat = 3 + 2 * k := by omega
          have hrd := rd16 s (2 + 2 * k) (3 + 2 * k) g1 g2 (by omega)
          by_cases hgt : (fin : Int) < (SlotP.at16 (oct s) (2 + 2 * k) : Nat)
          · have hr := read_none HL.out (by have := HN.out; omega) (by rw [HN.out]; exact reads_no hrs hlt hgt)
            have HR := hide hr
            clear hr
            go_wp2
            go_quiet (fail)
            go_wp2
            go_ret2
            exact ⟨_, [], by rw [HR.out]; rfl, World.ownsRow_nil _ _ _ _, by rw [HR.out]; rfl, below_drewN hb _⟩
          · have hgt' : (SlotP.at16 (oct s) (2 + 2 * k) : Int) ≤ fin := by omega
            have hrs' := reads_succ hrs hlt hgt'
            have HRS := hide hrs'
            have HRO := hide hrs
            clear hrs hrs' hgt
            go_wp2
            go_quiet (fail)
            clear e1 e2 e3 hrd
            have hb' := below_drewN hb nq
            go_wp2_with (at_builtin; refine wp_app_str rfl _ _ rfl w.heap.size _ _ _ (own_drewN hown nq) rfl (s.extract (fin - SlotP.at16 (oct s) (2 + 2 * k)) fin) rfl (by omega) hb'.size ?_; intro v' w1 hA)
            have hb1 := hA.below (own_drewN hown nq) hb' (Nat.le_refl _) hb'.size
            go_wp2
            go_roundw
            case rel => exact ⟨k + 1, fin - SlotP.at16 (oct s) (2 + 2 * k), _, by omega, by go_num, by congr 1; omega, HRS.out, hA.own, hb1⟩
            case measure => simp [intOf]; omega
        · obtain rfl : k = n := by omega
          have hall := reads_all hrs
          have hr := read_some HL.out (by have := HN.out; omega) (by rw [HN.out]; exact hall)
          obtain ⟨A, c, hA⟩ := own_shape hown
          subst hA
          have hsl := Sl.of_own hown
          cases hf : SlotP.fits (octs ts) with
          | false =>
            rw [hf] at hr
            have hln := lay_no A k c ts _ wr hsl (by omega) hf
            have HR := hide hr
            clear hr hall hrs hsl hf
            go_wp2_with (go_at_call 8; refine hln.mono ?_; rintro e w' ⟨rfl, rfl⟩)
            go_ret2
            exact ⟨_, [], by rw [HR.out]; rfl, World.ownsRow_nil _ _ _ _, by rw [HR.out]; rfl, hb⟩
          | true =>
            rw [hf] at hr
            have hly := lay_yes A k c ts wr hsl.any hf
            have hpo : oct ⟨(SlotP.lay (octs ts)).toArray⟩ = SlotP.lay (octs ts) := oct_mk _
            generalize (⟨(SlotP.lay (octs ts)).toArray⟩ : ByteArray) = pg at hly hpo
            by_cases hcmp : SlotP.lay (octs ts) = oct s
            · have hc2 : (pg.toList == s.toList) = true := by rw [toList_cmp, hpo]; simpa using hcmp
              rw [hcmp] at hr
              simp only [decide_true, Bool.and_self, if_true] at hr
              have HR := hide hr
              clear hr hall hrs hsl hf hpo hcmp
              go_wp2_with (go_at_call 8; refine hly.mono ?_; rintro e w1 ⟨rfl, hb1⟩)
              go_ret2
              exact ⟨_, ts, by rw [HR.out]; rfl, by rw [HTL.out]; exact own_below hown hb1, by rw [HR.out], hb.trans (Below.mono hb1 hb.size)⟩
            · have hc2 : (pg.toList == s.toList) = false := by rw [toList_cmp, hpo]; simpa using hcmp
              simp only [hcmp, decide_false, Bool.and_false, Bool.false_eq_true, if_false] at hr
              have HR := hide hr
              clear hr hall hrs hsl hf hpo hcmp
              go_wp2_with (go_at_call 8; refine hly.mono ?_; rintro e w1 ⟨rfl, hb1⟩)
              go_ret2
              exact ⟨_, [], by rw [HR.out]; rfl, World.ownsRow_nil _ _ _ _, by rw [HR.out]; rfl, hb.trans (Below.mono hb1 hb.size)⟩
  · have hr := read_short (b := oct s) (by rw [oct_length]; exact h1024)
    have hne : ((s.size : Int) != 1024) = true := by simp; omega
    have HR := hide hr
    clear hr h1024
    go_enter Tryz.func9, Tryz.ntmps9
    go_wp2
    go_ret2
    exact ⟨_, [], by rw [HR.out]; rfl, World.ownsRow_nil _ _ _ _, by rw [HR.out]; rfl, Below.refl _ _⟩

end Go.Proofs.YtojincohnjophaaGreatDoor

/-! strings.Builder's WriteString at this dump, laid (printed by gl.py out of the laying of strings.Join). -/
namespace Go.Proofs
open Go.Shelf
theorem Tryz.lays166 : Go.Proofs.Lays.n166 Tryz.prog Tryz.lays156_ren := {
  mixed := by kernel_rfl
  f166 := Tryz.func51.trans (congrArg some (by kernel_rfl))
  f240 := Tryz.func91.trans (congrArg some (by kernel_rfl))
  f276 := Tryz.func123.trans (congrArg some (by kernel_rfl))
  t0 := Tryz.underlying0
  a0 := Tryz.isAgg0
  z0 := Tryz.sizeOf0
  v0 := Tryz.zeroValue0
  t3 := Tryz.underlying3
  a3 := Tryz.isAgg3
  z3 := Tryz.sizeOf3
  v3 := Tryz.zeroValue3
  t4 := Tryz.underlying4
  a4 := Tryz.isAgg4
  z4 := Tryz.sizeOf4
  v4 := Tryz.zeroValue4
  t9 := Tryz.underlying9
  a9 := Tryz.isAgg9
  z9 := Tryz.sizeOf9
  v9 := Tryz.zeroValue9
  t20 := Tryz.underlying20
  a20 := Tryz.isAgg20
  z20 := Tryz.sizeOf20
  v20 := Tryz.zeroValue20
  t37 := Tryz.underlying33
  a37 := Tryz.isAgg33
  z37 := Tryz.sizeOf33
  v37 := Tryz.zeroValue33
  t70 := Tryz.underlying127
  a70 := Tryz.isAgg127
  z70 := Tryz.sizeOf127
  v70 := Tryz.zeroValue127
  t72 := Tryz.underlying129
  a72 := Tryz.isAgg129
  z72 := Tryz.sizeOf129
  v72 := Tryz.zeroValue129
  t75 := Tryz.underlying132
  a75 := Tryz.isAgg132
  z75 := Tryz.sizeOf132
  v75 := Tryz.zeroValue132
  t164 := Tryz.underlying213
  a164 := Tryz.isAgg213
  z164 := Tryz.sizeOf213
  v164 := Tryz.zeroValue213 }
end Go.Proofs
