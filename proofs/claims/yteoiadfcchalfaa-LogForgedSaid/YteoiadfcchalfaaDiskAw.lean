/- The walk of layer 17's examples. (printed by genaw17.py) -/
import Derived.Test.YteoiadfcchalfaaRegU
import Derived.Test.YteoiadfcchalfaaRegT
import Derived.Test.YteoiadfcchalfaaDiskG
import Derived.Test.YteoiadfcchalfaaLogAw
namespace Go.Proofs.Yteoiadfcchalfaa
open Go.RowKit
open DiskP (Bytes Disk Wr Fate noughts)
set_option linter.unusedVariables false

theorem crash_no (f : Fate) (hk : f.keep = []) (A : Option Addr) (n c : Nat) (B : Option Addr) (m e : Nat) (d : Disk) (V : Nat → Prop) (w : World) (h : Dk w V A n c B m e d) (hm : DiskP.may d = true) :
    Calls Try.prog 37 #[dkv A n c B m e d.left d.dead, .agg #[.slice none 0 0, .int .i64 f.torn, .int .i64 f.cut]] w fun q w' => ∃ v, q = .returned v ∧ DkV w' (fun _ => True) v (DiskP.crash d f) ∧ Below w.heap.size w w' := by
  have := crash_any A n c B m e d V (fun _ => True) none 0 0 f w h hm ⟨by rw [hk]; exact Sl.nil, Nat.zero_le _⟩
  exact this.mono fun q w' ⟨v, h1, h2, h3⟩ => ⟨v, h1, h2.mono fun _ _ => trivial, h3⟩

set_option maxRecDepth 100000 in
set_option maxHeartbeats 3200000 in
theorem awake17_any (w : World) :
    Calls Try.prog 40 #[] w fun q w' => q = .returned (.bool true) ∧ Below w.heap.size w w' := by
  have hall : ∀ w1, Calls Try.prog 38 #[.int .u8 120, .int .i64 1] w1 fun q w' => q = .returned (.string (reps 120 128)) ∧ Below w1.heap.size w1 w' := fun w1 => all17_any 120 1 128 w1 rfl (by decide)
  obtain ⟨xs, hxs⟩ : ∃ xs, xs = List.replicate 128 (120 : UInt8) := ⟨_, rfl⟩
  obtain ⟨d0, hd0⟩ : ∃ d, d = DiskP.new 2 := ⟨_, rfl⟩
  obtain ⟨dx, hdx⟩ : ∃ d, d = (DiskP.put d0 1 xs).1 := ⟨_, rfl⟩
  obtain ⟨dy, hdy⟩ : ∃ d, d = (DiskP.barrier dx).1 := ⟨_, rfl⟩
  obtain ⟨dl, hdl⟩ : ∃ d, d = DiskP.crash dx ⟨[], -1, 0⟩ := ⟨_, rfl⟩
  obtain ⟨dt, hdt⟩ : ∃ d, d = DiskP.crash dx ⟨[], 0, 5⟩ := ⟨_, rfl⟩
  obtain ⟨dk, hdk⟩ : ∃ d, d = DiskP.crash dy ⟨[], 0, 5⟩ := ⟨_, rfl⟩
  have HN0 : Hid (d0.S.length = 2) := by rw [hd0]; exact rfl
  have HM0 : Hid (DiskP.may d0 = true ∧ DiskP.may dx = true ∧ DiskP.may dy = true) := by
    rw [hdy, hdx, hd0, hxs]
    exact ⟨by kernel_rfl, by kernel_rfl, by kernel_rfl⟩
  have HE : Hid ((DiskP.put d0 1 xs).2 = 0 ∧ (DiskP.barrier dx).2 = 0) := by
    rw [hdx, hd0, hxs]
    exact ⟨by kernel_rfl, by kernel_rfl⟩
  have HL : Hid (dl.S = d0.S ∧ dl.W = [] ∧ d0.W = [] ∧ dl.left = -1 ∧ d0.left = -1 ∧ dl.dead = false ∧ d0.dead = false) := by
    rw [hdl, hdx, hd0, hxs]
    exact ⟨by kernel_rfl, by kernel_rfl, by kernel_rfl, by kernel_rfl, by kernel_rfl, by kernel_rfl, by kernel_rfl⟩
  have HT : Hid (dt.S = [noughts 128, List.replicate 5 120 ++ List.replicate 123 0] ∧ dk.S = [noughts 128, List.replicate 128 120]) := by
    rw [hdt, hdk, hdy, hdx, hd0, hxs]
    exact ⟨by kernel_rfl, by kernel_rfl⟩
  have HALL := hide hall
  have hnew : ∀ w1, Calls Try.prog 32 #[.int .i64 2] w1 fun q w' => ∃ v, q = .returned (.tuple #[v, .int .i64 0]) ∧ DkV w' (fun b => w1.heap.size ≤ b) v d0 ∧ Below w1.heap.size w1 w' := fun w1 => by rw [hd0]; exact new_any 2 w1 (by decide) (by decide)
  have HNEW := hide hnew
  have HX := hide hxs
  have HDX := hide hdx
  have HDY := hide hdy
  have HDL := hide hdl
  have HDT := hide hdt
  have HDK := hide hdk
  clear hall hnew hxs hd0 hdx hdy hdl hdt hdk
  go_enter Try.func40, Try.ntmps40
  go_upto_region 1 with (fail)
  go_cut [1, 2] from 10 to 13 (fun p e wx => ∃ b1 A n c B m k, p = .pointer (some ⟨b1, 0, none⟩) ∧ e = .int .i64 0 ∧ Box wx b1 50 #[.slice A n c, .slice B m k, .int .i64 d0.left, .bool d0.dead] ∧ Dk wx (fun _ => True) A n c B m k d0 ∧ Below w.heap.size w wx)
  case first =>
    go_wp2_with fail
    refine (HNEW.out _).mono ?_
    rintro q w1 ⟨v, rfl, ⟨A, n, c, B, m, e, rfl, hD⟩, hb1⟩
    have k1 := Box.new w1 50 #[.slice A n c, .slice B m e, .int .i64 d0.left, .bool d0.dead]
    have hbA : Below w1.heap.size w1 (w1.alloc (.cells #[.slice A n c, .slice B m e, .int .i64 d0.left, .bool d0.dead] 50)) := (Below.refl _ _).alloc (Nat.le_refl _) _
    have HD1 := hide (hD.below hbA)
    have hbw := hb1.trans (hbA.mono hb1.size)
    obtain ⟨lf, hlf⟩ : ∃ lf, lf = d0.left := ⟨_, rfl⟩
    obtain ⟨dd, hdd⟩ : ∃ dd, dd = d0.dead := ⟨_, rfl⟩
    rw [← hlf, ← hdd] at k1 hbw hbA HD1 ⊢
    have HLF := hide hlf
    have HDD := hide hdd
    have HK1 := hide k1
    clear hlf hdd hD k1
    go_wp2_with fail
    go_meet
    exact ⟨w1.heap.size, A, n, c, B, m, e, rfl, rfl, by rw [← HLF.out, ← HDD.out]; exact HK1.out, HD1.out.mono fun _ _ => trivial, hbw⟩
  case rest =>
    revert wc
    intro wA hcut
    obtain ⟨b1, A, n, c, B, m, e, rfl, rfl, k1, hD1, hbwA⟩ := hcut
    have hm0 : m = 0 := by rw [← hD1.wlen, HL.out.2.2.1]; rfl
    have HPUT : Hid (∀ ww V', Dk ww V' A n c B m e d0 → Calls Try.prog 33 #[dkv A n c B m e d0.left d0.dead, .int .i64 1, .string (reps 120 128)] ww fun q w' => ∃ v, q = .returned (.tuple #[v, .int .i64 0]) ∧ DkV w' (fun _ => True) v dx ∧ Below ww.heap.size ww w') := by
      intro ww V' hD
      have := put_any A n c B m e d0 V' 1 (reps 120 128) ww hD HM0.out.1 (by omega) (by omega) (by rw [reps_size]; decide) (by omega)
      rw [oct_reps, ← HX.out, HE.out.1, ← HDX.out] at this
      exact this.mono fun q w' ⟨v, h1, h2, h3⟩ => ⟨v, h1, h2.mono fun _ _ => trivial, h3⟩
    obtain ⟨lf, hlf⟩ : ∃ lf, lf = d0.left := ⟨_, rfl⟩
    obtain ⟨dd, hdd⟩ : ∃ dd, dd = d0.dead := ⟨_, rfl⟩
    rw [← hlf, ← hdd] at k1 HPUT
    have HD1 := hide hD1
    have HLF := hide hlf
    have HDD := hide hdd
    have HM := hide hm0
    clear hlf hdd hD1 hm0
    go_upto_region 2 with (fail)
    go_cut [3, 4] from 14 to 19 (fun p f wx => ∃ b3 A n c B m k, p = .pointer (some ⟨b3, 0, none⟩) ∧ f = .int .i64 0 ∧ Box wx b3 50 #[.slice A n c, .slice B m k, .int .i64 dx.left, .bool dx.dead] ∧ Dk wx (fun _ => True) A n c B m k dx ∧ Below wA.heap.size wA wx)
    case first =>
      refine wp_region_noPanic ?_
      refine RegS.region (ds := [15, 16, 17, 14, 18, 19, 3]) (pure := [3, 4, 5]) (fresh := [6])
        (G := Gs [.is (dkv A n c B m e lf dd), .is (.string (reps 120 128)), .two (.dk (fun _ => True) dx) (.int .i64 0), .two (.dk (fun _ => True) dx) (.int .i64 0), .dk (fun _ => True) dx, .is (.int .i64 0), .box wA.heap.size 50 #[.slice none 0 0, .slice none 0 0, .int .i64 0, .bool false]])
        rfl (by kernel_rfl) (by kernel_rfl) ⟨by kernel_rfl, by kernel_rfl, fun i _ v w w' => gs_keep _ i v w w', ?quiet, ?step⟩ (fun _ _ _ _ _ h => h) ?tail
      case quiet =>
        intro i o hi hp ho u ww hd
        obtain rfl | rfl | rfl : i = 3 ∨ i = 4 ∨ i = 5 := by simp at hp; omega
        · simp only [List.getElem?_toArray, List.getElem?_cons_succ, List.getElem?_cons_zero, Option.some.injEq] at ho
          subst ho
          simp only [RegS.putAll, List.length_cons, List.length_nil, Nat.reduceAdd, List.getD_cons_zero, List.getD_cons_succ, Act.put, List.setIfInBounds_toArray, List.set_cons_zero, List.set_cons_succ]
          exact ⟨_, fun _ => rfl, hd 2 (by decide) (by rfl)⟩
        · simp only [List.getElem?_toArray, List.getElem?_cons_succ, List.getElem?_cons_zero, Option.some.injEq] at ho
          subst ho
          simp only [RegS.putAll, List.length_cons, List.length_nil, Nat.reduceAdd, List.getD_cons_zero, List.getD_cons_succ, Act.put, List.setIfInBounds_toArray, List.set_cons_zero, List.set_cons_succ]
          obtain ⟨x, e, h⟩ := hd 3 (by decide) (by rfl)
          rw [e]
          exact ⟨_, fun _ => rfl, h⟩
        · simp only [List.getElem?_toArray, List.getElem?_cons_succ, List.getElem?_cons_zero, Option.some.injEq] at ho
          subst ho
          simp only [RegS.putAll, List.length_cons, List.length_nil, Nat.reduceAdd, List.getD_cons_zero, List.getD_cons_succ, Act.put, List.setIfInBounds_toArray, List.set_cons_zero, List.set_cons_succ]
          obtain ⟨x, e, h⟩ := hd 3 (by decide) (by rfl)
          rw [e]
          exact ⟨_, fun _ => rfl, rfl⟩
      case step =>
        intro i o hi hp ho u ww hb hd K hK
        obtain rfl | rfl | rfl | rfl : i = 0 ∨ i = 1 ∨ i = 2 ∨ i = 6 := by simp at hp hi; omega
        · simp only [List.getElem?_toArray, List.getElem?_cons_zero, Option.some.injEq] at ho
          subst ho
          simp only [RegS.putAll, List.length_cons, List.length_nil, Nat.reduceAdd, List.getD_cons_zero, List.getD_cons_succ, Act.put, List.setIfInBounds_toArray, List.set_cons_zero, List.set_cons_succ]
          obtain ⟨q0, q1, q2, q3⟩ := (k1.belowS hb).cell4
          go_simp
          exact hK _ _ rfl (Below.refl _ _) rfl (fun h => absurd h (by decide))
        · simp only [List.getElem?_toArray, List.getElem?_cons_succ, List.getElem?_cons_zero, Option.some.injEq] at ho
          subst ho
          simp only [RegS.putAll, List.length_cons, List.length_nil, Nat.reduceAdd, List.getD_cons_zero, List.getD_cons_succ, Act.put, List.setIfInBounds_toArray, List.set_cons_zero, List.set_cons_succ]
          go_simp
          refine (HALL.out _).mono ?_
          rintro q w2 ⟨rfl, hb2⟩
          exact hK _ _ rfl hb2 rfl (fun h => absurd h (by decide))
        · simp only [List.getElem?_toArray, List.getElem?_cons_succ, List.getElem?_cons_zero, Option.some.injEq] at ho
          subst ho
          simp only [RegS.putAll, List.length_cons, List.length_nil, Nat.reduceAdd, List.getD_cons_zero, List.getD_cons_succ, Act.put, List.setIfInBounds_toArray, List.set_cons_zero, List.set_cons_succ]
          have e0 : u 0 = dkv A n c B m e lf dd := hd 0 (by decide) (by rfl)
          have e1 : u 1 = .string (reps 120 128) := hd 1 (by decide) (by rfl)
          go_simp
          refine (HPUT.out ww _ (HD1.out.below hb)).mono ?_
          rintro q w2 ⟨v, rfl, hv, hb2⟩
          exact hK _ _ rfl hb2 ⟨v, rfl, hv⟩ (fun h => absurd h (by decide))
        · simp only [List.getElem?_toArray, List.getElem?_cons_succ, List.getElem?_cons_zero, Option.some.injEq] at ho
          subst ho
          simp only [RegS.putAll, List.length_cons, List.length_nil, Nat.reduceAdd, List.getD_cons_zero, List.getD_cons_succ, Act.put, List.setIfInBounds_toArray, List.set_cons_zero, List.set_cons_succ]
          go_simp
          exact hK _ _ rfl ((Below.refl _ _).alloc (Nat.le_refl _) _) ⟨_, rfl, hb.size, Box.new _ _ _⟩ fun _ => ⟨rfl, by simp⟩
      case tail =>
        intro u ww hb hG hp hne
        simp only [RegS.putAll, List.length_cons, List.length_nil, Nat.reduceAdd, List.getD_cons_zero, List.getD_cons_succ, Act.put, List.setIfInBounds_toArray, List.set_cons_zero, List.set_cons_succ, List.drop_succ_cons, List.drop_zero]
        obtain ⟨A3, n3, c3, B3, m3, e3, e4, hD3⟩ := hG 4 (by decide)
        have e5 : u 5 = .int .i64 0 := hG 5 (by decide)
        obtain ⟨b3, e6, l6, k6⟩ := hG 6 (by decide)
        have hD4 := hD3.notBox k6 noStr_disk
        clear hG hp hne hD3
        obtain ⟨lf3, hlf3⟩ : ∃ lf3, lf3 = dx.left := ⟨_, rfl⟩
        obtain ⟨dd3, hdd3⟩ : ∃ dd3, dd3 = dx.dead := ⟨_, rfl⟩
        rw [← hlf3, ← hdd3] at e4
        have HL3 := hide hlf3
        have HD3' := hide hdd3
        have HDK3 := hide hD4
        clear hlf3 hdd3 hD4
        obtain ⟨q0, q1, q2, q3⟩ := k6.cell4
        have f0 := k6.frozen 0
        have f1' := k6.frozen 1
        have f2' := k6.frozen 2
        have f3' := k6.frozen 3
        go_wp2_with fail
        refine NoPanic.normal ?_
        go_wp2_with fail
        go_meet
        exact ⟨b3, A3, n3, c3, B3, m3, e3, by first | rfl | exact e6, by first | rfl | exact e5, by rw [← HL3.out, ← HD3'.out]; exact k6.set4, (HDK3.out.set4 fun x hx => hx.2).mono fun _ _ => trivial, below_set4 hb l6⟩
    case rest =>
      revert wc
      intro wX hcut
      obtain ⟨b3, A3, n3, c3, B3, m3, e3, rfl, rfl, k3, hD3, hbX⟩ := hcut
      have hbwX := hbwA.trans (hbX.mono hbwA.size)
      have HBR : Hid (∀ ww V', Dk ww V' A3 n3 c3 B3 m3 e3 dx → Calls Try.prog 35 #[dkv A3 n3 c3 B3 m3 e3 dx.left dx.dead] ww fun q w' => ∃ v, q = .returned (.tuple #[v, .int .i64 0]) ∧ DkV w' (fun _ => True) v dy ∧ Below ww.heap.size ww w') := by
        intro ww V' hD
        have := barrier_any A3 n3 c3 B3 m3 e3 dx V' ww hD HM0.out.2.1
        rw [HE.out.2, ← HDY.out] at this
        exact this.mono fun q w' ⟨v, h1, h2, h3⟩ => ⟨v, h1, h2.mono fun _ _ => trivial, h3⟩
      have HC1 : Hid (∀ ww V', Dk ww V' A3 n3 c3 B3 m3 e3 dx → Calls Try.prog 37 #[dkv A3 n3 c3 B3 m3 e3 dx.left dx.dead, .agg #[.slice none 0 0, .int .i64 (-1), .int .i64 0]] ww fun q w' => ∃ v, q = .returned v ∧ DkV w' (fun _ => True) v dl ∧ Below ww.heap.size ww w') := fun ww V' hD => by
        have := crash_no ⟨[], -1, 0⟩ rfl A3 n3 c3 B3 m3 e3 dx V' ww hD HM0.out.2.1
        rw [← HDL.out] at this
        exact this
      have HC2 : Hid (∀ ww V', Dk ww V' A3 n3 c3 B3 m3 e3 dx → Calls Try.prog 37 #[dkv A3 n3 c3 B3 m3 e3 dx.left dx.dead, .agg #[.slice none 0 0, .int .i64 0, .int .i64 5]] ww fun q w' => ∃ v, q = .returned v ∧ DkV w' (fun _ => True) v dt ∧ Below ww.heap.size ww w') := fun ww V' hD => by
        have := crash_no ⟨[], 0, 5⟩ rfl A3 n3 c3 B3 m3 e3 dx V' ww hD HM0.out.2.1
        rw [← HDT.out] at this
        exact this
      obtain ⟨lf3, hlf3⟩ : ∃ lf, lf = dx.left := ⟨_, rfl⟩
      obtain ⟨dd3, hdd3⟩ : ∃ dd, dd = dx.dead := ⟨_, rfl⟩
      rw [← hlf3, ← hdd3] at k3 HBR HC1 HC2
      have HD3 := hide hD3
      have kk1 := k1.belowS hbX
      have HD1X := hide (HD1.out.below hbX)
      clear hlf3 hdd3 hD3 k1 hbX hbwA HD1
      go_upto_region 3 with (fail)
      go_cut [5, 6] from 20 to 24 (fun p f wx => ∃ b5 A n c B m k, p = .pointer (some ⟨b5, 0, none⟩) ∧ f = .int .i64 0 ∧ Box wx b5 50 #[.slice A n c, .slice B m k, .int .i64 dy.left, .bool dy.dead] ∧ Dk wx (fun _ => True) A n c B m k dy ∧ Below wX.heap.size wX wx)
      case first =>
        obtain ⟨q0, q1, q2, q3⟩ := k3.cell4
        go_wp2_with fail
        refine (HBR.out _ _ HD3.out).mono ?_
        rintro q w1 ⟨v, rfl, ⟨A5, n5, c5, B5, m5, e5, rfl, hD⟩, hb1⟩
        have k5 := Box.new w1 50 #[.slice A5 n5 c5, .slice B5 m5 e5, .int .i64 dy.left, .bool dy.dead]
        have hbA : Below w1.heap.size w1 (w1.alloc (.cells #[.slice A5 n5 c5, .slice B5 m5 e5, .int .i64 dy.left, .bool dy.dead] 50)) := (Below.refl _ _).alloc (Nat.le_refl _) _
        have HD5 := hide (hD.below hbA)
        have hbw := hb1.trans (hbA.mono hb1.size)
        obtain ⟨lf, hlf⟩ : ∃ lf, lf = dy.left := ⟨_, rfl⟩
        obtain ⟨dd, hdd⟩ : ∃ dd, dd = dy.dead := ⟨_, rfl⟩
        rw [← hlf, ← hdd] at k5 hbw hbA HD5 ⊢
        have HLF := hide hlf
        have HDD := hide hdd
        have HK5 := hide k5
        clear hlf hdd hD k5
        go_wp2_with fail
        go_meet
        exact ⟨w1.heap.size, A5, n5, c5, B5, m5, e5, rfl, rfl, by rw [← HLF.out, ← HDD.out]; exact HK5.out, HD5.out.mono fun _ _ => trivial, hbw⟩
      case rest =>
        revert wc
        intro wY hcut
        obtain ⟨b5, A5, n5, c5, B5, m5, e5, rfl, rfl, k5, hD5, hbY⟩ := hcut
        have hbwY := hbwX.trans (hbY.mono hbwX.size)
        have HC3 : Hid (∀ ww V', Dk ww V' A5 n5 c5 B5 m5 e5 dy → Calls Try.prog 37 #[dkv A5 n5 c5 B5 m5 e5 dy.left dy.dead, .agg #[.slice none 0 0, .int .i64 0, .int .i64 5]] ww fun q w' => ∃ v, q = .returned v ∧ DkV w' (fun _ => True) v dk ∧ Below ww.heap.size ww w') := fun ww V' hD => by
          have := crash_no ⟨[], 0, 5⟩ rfl A5 n5 c5 B5 m5 e5 dy V' ww hD HM0.out.2.2
          rw [← HDK.out] at this
          exact this
        obtain ⟨lf5, hlf5⟩ : ∃ lf, lf = dy.left := ⟨_, rfl⟩
        obtain ⟨dd5, hdd5⟩ : ∃ dd, dd = dy.dead := ⟨_, rfl⟩
        rw [← hlf5, ← hdd5] at k5 HC3
        have HD5 := hide hD5
        have kY1 := kk1.belowS hbY
        have HD1Y := hide (HD1X.out.below hbY)
        have HD3Y := hide (HD3.out.below hbY)
        have k3Y := k3.belowS hbY
        clear hlf5 hdd5 hD5 kk1 HD1X HD3 k3
        have k3 := k3Y
        have HD3 := HD3Y
        go_upto_region 4 with (fail)
        go_cut [7, 8, 9] from 25 to 33 (fun p q r wx => ∃ b7 b8 b9 A7 n7 c7 B7 m7 e7 A8 n8 c8 B8 m8 e8 A9 n9 c9 B9 m9 e9, p = .pointer (some ⟨b7, 0, none⟩) ∧ q = .pointer (some ⟨b8, 0, none⟩) ∧ r = .pointer (some ⟨b9, 0, none⟩) ∧
            Box wx b7 50 #[.slice A7 n7 c7, .slice B7 m7 e7, .int .i64 dl.left, .bool dl.dead] ∧ Box wx b8 50 #[.slice A8 n8 c8, .slice B8 m8 e8, .int .i64 dt.left, .bool dt.dead] ∧ Box wx b9 50 #[.slice A9 n9 c9, .slice B9 m9 e9, .int .i64 dk.left, .bool dk.dead] ∧
            Dk wx (fun _ => True) A7 n7 c7 B7 m7 e7 dl ∧ Dk wx (fun _ => True) A8 n8 c8 B8 m8 e8 dt ∧ Dk wx (fun _ => True) A9 n9 c9 B9 m9 e9 dk ∧ Below wY.heap.size wY wx)
        case first =>
          refine wp_region_noPanic ?_
          refine RegT.region (ds := [25, 26, 27, 28, 29, 30, 31, 32, 33, 7, 8, 9]) (pure := []) (fresh := [9, 10, 11])
            (G := Gs [.is (.agg #[.slice A3 n3 c3, .slice B3 m3 e3, .int .i64 lf3, .bool dd3]), .is (.agg #[.slice none 0 0, .int .i64 (-1), .int .i64 0]), .dk (fun _ => True) dl, .is (.agg #[.slice A3 n3 c3, .slice B3 m3 e3, .int .i64 lf3, .bool dd3]), .is (.agg #[.slice none 0 0, .int .i64 0, .int .i64 5]), .dk (fun _ => True) dt, .is (.agg #[.slice A5 n5 c5, .slice B5 m5 e5, .int .i64 lf5, .bool dd5]), .is (.agg #[.slice none 0 0, .int .i64 0, .int .i64 5]), .dk (fun _ => True) dk, .box wY.heap.size 50 #[.slice none 0 0, .slice none 0 0, .int .i64 0, .bool false], .box wY.heap.size 50 #[.slice none 0 0, .slice none 0 0, .int .i64 0, .bool false], .box wY.heap.size 50 #[.slice none 0 0, .slice none 0 0, .int .i64 0, .bool false]])
            rfl (by kernel_rfl) (by kernel_rfl) ⟨by kernel_rfl, by kernel_rfl, fun i _ v w w' => gs_keep _ i v w w', ?quiet, ?step⟩ (fun _ _ _ _ _ h => h) ?tail
          case quiet =>
            intro i o hi hp ho u ww hd
            simp at hp
          case step =>
            intro i o hi hp ho u ww hb hd K hK
            obtain rfl | rfl | rfl | rfl | rfl | rfl | rfl | rfl | rfl | rfl | rfl | rfl : i = 0 ∨ i = 1 ∨ i = 2 ∨ i = 3 ∨ i = 4 ∨ i = 5 ∨ i = 6 ∨ i = 7 ∨ i = 8 ∨ i = 9 ∨ i = 10 ∨ i = 11 := by simp at hp hi; omega
            · simp only [List.getElem?_toArray, List.getElem?_cons_zero, Option.some.injEq] at ho
              subst ho
              simp only [RegT.putAll, List.length_cons, List.length_nil, Nat.reduceAdd, List.getD_cons_zero, List.getD_cons_succ, Act.put, List.setIfInBounds_toArray, List.set_cons_zero, List.set_cons_succ]
              obtain ⟨q0, q1, q2, q3⟩ := (k3.belowS hb).cell4
              go_simp
              exact hK _ _ rfl (Below.refl _ _) rfl (fun h => absurd h (by decide))
            · simp only [List.getElem?_toArray, List.getElem?_cons_succ, List.getElem?_cons_zero, Option.some.injEq] at ho
              subst ho
              simp only [RegT.putAll, List.length_cons, List.length_nil, Nat.reduceAdd, List.getD_cons_zero, List.getD_cons_succ, Act.put, List.setIfInBounds_toArray, List.set_cons_zero, List.set_cons_succ]
              go_simp
              exact hK _ _ rfl (Below.refl _ _) rfl (fun h => absurd h (by decide))
            · simp only [List.getElem?_toArray, List.getElem?_cons_succ, List.getElem?_cons_zero, Option.some.injEq] at ho
              subst ho
              simp only [RegT.putAll, List.length_cons, List.length_nil, Nat.reduceAdd, List.getD_cons_zero, List.getD_cons_succ, Act.put, List.setIfInBounds_toArray, List.set_cons_zero, List.set_cons_succ]
              have e0 : u 0 = (.agg #[.slice A3 n3 c3, .slice B3 m3 e3, .int .i64 lf3, .bool dd3]) := hd 0 (by decide) (by rfl)
              have e1 : u 1 = (.agg #[.slice none 0 0, .int .i64 (-1), .int .i64 0]) := hd 1 (by decide) (by rfl)
              go_simp
              refine (HC1.out ww _ (HD3.out.below hb)).mono ?_
              rintro q w2 ⟨v, rfl, hv, hb2⟩
              exact hK _ _ rfl hb2 hv (fun h => absurd h (by decide))
            · simp only [List.getElem?_toArray, List.getElem?_cons_succ, List.getElem?_cons_zero, Option.some.injEq] at ho
              subst ho
              simp only [RegT.putAll, List.length_cons, List.length_nil, Nat.reduceAdd, List.getD_cons_zero, List.getD_cons_succ, Act.put, List.setIfInBounds_toArray, List.set_cons_zero, List.set_cons_succ]
              obtain ⟨q0, q1, q2, q3⟩ := (k3.belowS hb).cell4
              go_simp
              exact hK _ _ rfl (Below.refl _ _) rfl (fun h => absurd h (by decide))
            · simp only [List.getElem?_toArray, List.getElem?_cons_succ, List.getElem?_cons_zero, Option.some.injEq] at ho
              subst ho
              simp only [RegT.putAll, List.length_cons, List.length_nil, Nat.reduceAdd, List.getD_cons_zero, List.getD_cons_succ, Act.put, List.setIfInBounds_toArray, List.set_cons_zero, List.set_cons_succ]
              go_simp
              exact hK _ _ rfl (Below.refl _ _) rfl (fun h => absurd h (by decide))
            · simp only [List.getElem?_toArray, List.getElem?_cons_succ, List.getElem?_cons_zero, Option.some.injEq] at ho
              subst ho
              simp only [RegT.putAll, List.length_cons, List.length_nil, Nat.reduceAdd, List.getD_cons_zero, List.getD_cons_succ, Act.put, List.setIfInBounds_toArray, List.set_cons_zero, List.set_cons_succ]
              have e0 : u 3 = (.agg #[.slice A3 n3 c3, .slice B3 m3 e3, .int .i64 lf3, .bool dd3]) := hd 3 (by decide) (by rfl)
              have e1 : u 4 = (.agg #[.slice none 0 0, .int .i64 0, .int .i64 5]) := hd 4 (by decide) (by rfl)
              go_simp
              refine (HC2.out ww _ (HD3.out.below hb)).mono ?_
              rintro q w2 ⟨v, rfl, hv, hb2⟩
              exact hK _ _ rfl hb2 hv (fun h => absurd h (by decide))
            · simp only [List.getElem?_toArray, List.getElem?_cons_succ, List.getElem?_cons_zero, Option.some.injEq] at ho
              subst ho
              simp only [RegT.putAll, List.length_cons, List.length_nil, Nat.reduceAdd, List.getD_cons_zero, List.getD_cons_succ, Act.put, List.setIfInBounds_toArray, List.set_cons_zero, List.set_cons_succ]
              obtain ⟨q0, q1, q2, q3⟩ := (k5.belowS hb).cell4
              go_simp
              exact hK _ _ rfl (Below.refl _ _) rfl (fun h => absurd h (by decide))
            · simp only [List.getElem?_toArray, List.getElem?_cons_succ, List.getElem?_cons_zero, Option.some.injEq] at ho
              subst ho
              simp only [RegT.putAll, List.length_cons, List.length_nil, Nat.reduceAdd, List.getD_cons_zero, List.getD_cons_succ, Act.put, List.setIfInBounds_toArray, List.set_cons_zero, List.set_cons_succ]
              go_simp
              exact hK _ _ rfl (Below.refl _ _) rfl (fun h => absurd h (by decide))
            · simp only [List.getElem?_toArray, List.getElem?_cons_succ, List.getElem?_cons_zero, Option.some.injEq] at ho
              subst ho
              simp only [RegT.putAll, List.length_cons, List.length_nil, Nat.reduceAdd, List.getD_cons_zero, List.getD_cons_succ, Act.put, List.setIfInBounds_toArray, List.set_cons_zero, List.set_cons_succ]
              have e0 : u 6 = (.agg #[.slice A5 n5 c5, .slice B5 m5 e5, .int .i64 lf5, .bool dd5]) := hd 6 (by decide) (by rfl)
              have e1 : u 7 = (.agg #[.slice none 0 0, .int .i64 0, .int .i64 5]) := hd 7 (by decide) (by rfl)
              go_simp
              refine (HC3.out ww _ (HD5.out.below hb)).mono ?_
              rintro q w2 ⟨v, rfl, hv, hb2⟩
              exact hK _ _ rfl hb2 hv (fun h => absurd h (by decide))
            · simp only [List.getElem?_toArray, List.getElem?_cons_succ, List.getElem?_cons_zero, Option.some.injEq] at ho
              subst ho
              simp only [RegT.putAll, List.length_cons, List.length_nil, Nat.reduceAdd, List.getD_cons_zero, List.getD_cons_succ, Act.put, List.setIfInBounds_toArray, List.set_cons_zero, List.set_cons_succ]
              go_simp
              exact hK _ _ rfl ((Below.refl _ _).alloc (Nat.le_refl _) _) ⟨_, rfl, hb.size, Box.new _ _ _⟩ fun _ => ⟨rfl, by simp⟩
            · simp only [List.getElem?_toArray, List.getElem?_cons_succ, List.getElem?_cons_zero, Option.some.injEq] at ho
              subst ho
              simp only [RegT.putAll, List.length_cons, List.length_nil, Nat.reduceAdd, List.getD_cons_zero, List.getD_cons_succ, Act.put, List.setIfInBounds_toArray, List.set_cons_zero, List.set_cons_succ]
              go_simp
              exact hK _ _ rfl ((Below.refl _ _).alloc (Nat.le_refl _) _) ⟨_, rfl, hb.size, Box.new _ _ _⟩ fun _ => ⟨rfl, by simp⟩
            · simp only [List.getElem?_toArray, List.getElem?_cons_succ, List.getElem?_cons_zero, Option.some.injEq] at ho
              subst ho
              simp only [RegT.putAll, List.length_cons, List.length_nil, Nat.reduceAdd, List.getD_cons_zero, List.getD_cons_succ, Act.put, List.setIfInBounds_toArray, List.set_cons_zero, List.set_cons_succ]
              go_simp
              exact hK _ _ rfl ((Below.refl _ _).alloc (Nat.le_refl _) _) ⟨_, rfl, hb.size, Box.new _ _ _⟩ fun _ => ⟨rfl, by simp⟩
          case tail =>
            intro u ww hb hG hp hne
            simp only [RegT.putAll, List.length_cons, List.length_nil, Nat.reduceAdd, List.getD_cons_zero, List.getD_cons_succ, Act.put, List.setIfInBounds_toArray, List.set_cons_zero, List.set_cons_succ, List.drop_succ_cons, List.drop_zero]
            obtain ⟨A7, n7, c7, B7, m7, e7, x7, hD7⟩ := hG 2 (by decide)
            obtain ⟨A8, n8, c8, B8, m8, e8, x8, hD8⟩ := hG 5 (by decide)
            obtain ⟨A9, n9, c9, B9, m9, e9, x9, hD9⟩ := hG 8 (by decide)
            obtain ⟨b7, y7, l7, k7⟩ := hG 9 (by decide)
            obtain ⟨b8, y8, l8, k8⟩ := hG 10 (by decide)
            obtain ⟨b9, y9, l9, k9⟩ := hG 11 (by decide)
            have h78 : b7 ≠ b8 := fun h => hne 9 10 (by decide) (by decide) (by decide) (by decide) (by decide) (by rw [y7, y8, h])
            have h87 : b8 ≠ b7 := h78.symm
            have h79 : b7 ≠ b9 := fun h => hne 9 11 (by decide) (by decide) (by decide) (by decide) (by decide) (by rw [y7, y9, h])
            have h97 : b9 ≠ b7 := h79.symm
            have h89 : b8 ≠ b9 := fun h => hne 10 11 (by decide) (by decide) (by decide) (by decide) (by decide) (by rw [y8, y9, h])
            have h98 : b9 ≠ b8 := h89.symm
            have hE7 := ((hD7.notBox k7 noStr_disk).notBox k8 noStr_disk).notBox k9 noStr_disk
            have hE8 := ((hD8.notBox k7 noStr_disk).notBox k8 noStr_disk).notBox k9 noStr_disk
            have hE9 := ((hD9.notBox k7 noStr_disk).notBox k8 noStr_disk).notBox k9 noStr_disk
            clear hG hp hne hD7 hD8 hD9
            obtain ⟨lf7, hlf7⟩ : ∃ lf7, lf7 = dl.left := ⟨_, rfl⟩
            obtain ⟨dd7, hdd7⟩ : ∃ dd7, dd7 = dl.dead := ⟨_, rfl⟩
            rw [← hlf7, ← hdd7] at x7
            have HL7 := hide hlf7
            have HX7 := hide hdd7
            have HE7 := hide hE7
            obtain ⟨lf8, hlf8⟩ : ∃ lf8, lf8 = dt.left := ⟨_, rfl⟩
            obtain ⟨dd8, hdd8⟩ : ∃ dd8, dd8 = dt.dead := ⟨_, rfl⟩
            rw [← hlf8, ← hdd8] at x8
            have HL8 := hide hlf8
            have HX8 := hide hdd8
            have HE8 := hide hE8
            obtain ⟨lf9, hlf9⟩ : ∃ lf9, lf9 = dk.left := ⟨_, rfl⟩
            obtain ⟨dd9, hdd9⟩ : ∃ dd9, dd9 = dk.dead := ⟨_, rfl⟩
            rw [← hlf9, ← hdd9] at x9
            have HL9 := hide hlf9
            have HX9 := hide hdd9
            have HE9 := hide hE9
            clear hlf7 hlf8 hlf9 hdd7 hdd8 hdd9 hE7 hE8 hE9
            obtain ⟨p70, p71, p72, p73⟩ := k7.cell4
            have g70 := k7.frozen 0
            have g71 := k7.frozen 1
            have g72 := k7.frozen 2
            have g73 := k7.frozen 3
            obtain ⟨p80, p81, p82, p83⟩ := k8.cell4
            have g80 := k8.frozen 0
            have g81 := k8.frozen 1
            have g82 := k8.frozen 2
            have g83 := k8.frozen 3
            obtain ⟨p90, p91, p92, p93⟩ := k9.cell4
            have g90 := k9.frozen 0
            have g91 := k9.frozen 1
            have g92 := k9.frozen 2
            have g93 := k9.frozen 3
            go_wp2_with fail
            refine NoPanic.normal ?_
            go_wp2_with fail
            go_meet
            refine ⟨b7, b8, b9, A7, n7, c7, B7, m7, e7, A8, n8, c8, B8, m8, e8, A9, n9, c9, B9, m9, e9, by first | rfl | exact y7, by first | rfl | exact y8, by first | rfl | exact y9, ?_, ?_, ?_, ?_, ?_, ?_, ?_⟩
            · rw [← HL7.out, ← HX7.out]; exact (k7.set4.far4 h87).far4 h97
            · rw [← HL8.out, ← HX8.out]; exact ((k8.far4 h78).set4).far4 h98
            · rw [← HL9.out, ← HX9.out]; exact ((k9.far4 h79).far4 h89).set4
            · exact (((HE7.out.set4 fun x hx => hx.1.1.2).set4 fun x hx => hx.1.2).set4 fun x hx => hx.2).mono fun _ _ => trivial
            · exact (((HE8.out.set4 fun x hx => hx.1.1.2).set4 fun x hx => hx.1.2).set4 fun x hx => hx.2).mono fun _ _ => trivial
            · exact (((HE9.out.set4 fun x hx => hx.1.1.2).set4 fun x hx => hx.1.2).set4 fun x hx => hx.2).mono fun _ _ => trivial
            · exact below_set4 (below_set4 (below_set4 hb l7) l8) l9
        case rest =>
          revert wc
          intro wZ hcut
          obtain ⟨b7, b8, b9, A7, n7, c7, B7, m7, e7, A8, n8, c8, B8, m8, e8, A9, n9, c9, B9, m9, e9, rfl, rfl, rfl, k7, k8, k9, hD7, hD8, hD9, hbZ⟩ := hcut
          have hbwZ := hbwY.trans (hbZ.mono hbwY.size)
          have kZ1 := kY1.belowS hbZ
          have hDZ := HD1Y.out.below hbZ
          obtain rfl : n7 = 2 := by rw [← hD7.len, HL.out.1, HN0.out]
          obtain rfl : m7 = 0 := by rw [← hD7.wlen, HL.out.2.1]; rfl
          obtain rfl : n8 = 2 := by rw [← hD8.len, HT.out.1]; rfl
          obtain rfl : n9 = 2 := by rw [← hD9.len, HT.out.2]; rfl
          obtain rfl : n = 2 := by rw [← hDZ.len, HN0.out]
          obtain rfl : m = 0 := HM.out
          obtain ⟨a8, s8, rfl, es8, hc8⟩ := hD8.sec (k := 1) (by decide)
          obtain ⟨a9, s9, rfl, es9, hc9⟩ := hD9.sec (k := 1) (by decide)
          rw [HT.out.1] at es8
          rw [HT.out.2] at es9
          obtain rfl := Option.some.inj es8
          obtain rfl := Option.some.inj es9
          obtain ⟨T8, hT8⟩ : ∃ T8, T8 = mkB (List.replicate 5 120 ++ List.replicate 123 0) := ⟨_, rfl⟩
          have hz8 : T8.size = 128 := by rw [hT8, mkB_size]; rfl
          have he8 : T8.extract 0 6 = ⟨#[120, 120, 120, 120, 120, 0]⟩ := by rw [hT8]; rfl
          have e9 : mkB (List.replicate 128 (120 : UInt8)) = reps 120 128 := rfl
          rw [← hT8, show a8.add 1 = ⟨a8.block, a8.off + 1, none⟩ from Addr.add_succ' _ 0] at hc8
          rw [e9, show a9.add 1 = ⟨a9.block, a9.off + 1, none⟩ from Addr.add_succ' _ 0] at hc9
          rw [HL.out.2.2.2.1, HL.out.2.2.2.2.2.1] at k7
          rw [HLF.out, HDD.out, HL.out.2.2.2.2.1, HL.out.2.2.2.2.2.2] at kZ1
          have hS7 : Sl wZ (fun _ => True) 1 A7 2 (secV d0.S) := by rw [← HL.out.1]; exact hD7.sS
          have HSM : Hid (∀ ww, Below wZ.heap.size wZ ww → Calls Try.prog 36 #[.agg #[.slice A7 2 c7, .slice B7 0 e7, .int .i64 (-1), .bool false], .agg #[.slice A 2 c, .slice B 0 e, .int .i64 (-1), .bool false]] ww fun q w' => q = .returned (.bool true) ∧ Below ww.heap.size ww w') := fun ww hb => same17_any A7 A B7 B 2 c7 c e7 e (-1) false d0.S _ _ ww (hS7.below hb) (hDZ.sS.below hb) (by omega)
          have HZ8 := hide hz8
          have HE8 := hide he8
          have z1 : (6 : Int) ≤ (T8.size : Int) := by omega
          obtain ⟨lf8, hlf8⟩ : ∃ lf, lf = dt.left := ⟨_, rfl⟩
          obtain ⟨dd8, hdd8⟩ : ∃ dd, dd = dt.dead := ⟨_, rfl⟩
          obtain ⟨lf9, hlf9⟩ : ∃ lf, lf = dk.left := ⟨_, rfl⟩
          obtain ⟨dd9, hdd9⟩ : ∃ dd, dd = dk.dead := ⟨_, rfl⟩
          rw [← hlf8, ← hdd8] at k8
          rw [← hlf9, ← hdd9] at k9
          clear hlf8 hdd8 hlf9 hdd9 hT8 es8 es9 hD7 hD8 hD9 hDZ hS7 HL HT HM0 HE HN0 HPUT HLF HDD HM HBR HC1 HC2 HC3 HD5 HD1Y HD3Y HD3 k3 k3Y k5 kY1 HX HDX HDY HDL HDT HDK HNEW hbZ hbY e9
          have q8 := k8.cell4.1
          have q9 := k9.cell4.1
          go_upto_region 7 with (fail)
          have S0 : (wZ.cell? ⟨b7, 0, none⟩ = some (.slice A7 2 c7) ∧ wZ.cell? ⟨b7, 1, none⟩ = some (.slice B7 0 e7) ∧ wZ.cell? ⟨b7, 2, none⟩ = some (.int .i64 (-1)) ∧ wZ.cell? ⟨b7, 3, none⟩ = some (.bool false)) ∧ (wZ.cell? ⟨b1, 0, none⟩ = some (.slice A 2 c) ∧ wZ.cell? ⟨b1, 1, none⟩ = some (.slice B 0 e) ∧ wZ.cell? ⟨b1, 2, none⟩ = some (.int .i64 (-1)) ∧ wZ.cell? ⟨b1, 3, none⟩ = some (.bool false)) ∧ wZ.cell? ⟨b8, 0, none⟩ = some (.slice (some a8) 2 c8) ∧ wZ.cell? ⟨b9, 0, none⟩ = some (.slice (some a9) 2 c9) ∧ wZ.cell? ⟨a8.block, a8.off + 1, none⟩ = some (.string T8) ∧ wZ.cell? ⟨a9.block, a9.off + 1, none⟩ = some (.string (reps 120 128)) := ⟨k7.cell4, kZ1.cell4, k8.cell4.1, k9.cell4.1, hc8, hc9⟩
          have HKS : Hid (∀ ww, Below wZ.heap.size wZ ww → ((fun w' => (w'.cell? ⟨b7, 0, none⟩ = some (.slice A7 2 c7) ∧ w'.cell? ⟨b7, 1, none⟩ = some (.slice B7 0 e7) ∧ w'.cell? ⟨b7, 2, none⟩ = some (.int .i64 (-1)) ∧ w'.cell? ⟨b7, 3, none⟩ = some (.bool false)) ∧ (w'.cell? ⟨b1, 0, none⟩ = some (.slice A 2 c) ∧ w'.cell? ⟨b1, 1, none⟩ = some (.slice B 0 e) ∧ w'.cell? ⟨b1, 2, none⟩ = some (.int .i64 (-1)) ∧ w'.cell? ⟨b1, 3, none⟩ = some (.bool false)) ∧ w'.cell? ⟨b8, 0, none⟩ = some (.slice (some a8) 2 c8) ∧ w'.cell? ⟨b9, 0, none⟩ = some (.slice (some a9) 2 c9) ∧ w'.cell? ⟨a8.block, a8.off + 1, none⟩ = some (.string T8) ∧ w'.cell? ⟨a9.block, a9.off + 1, none⟩ = some (.string (reps 120 128)))) ww) := fun ww hb => ⟨(k7.belowS hb).cell4, (kZ1.belowS hb).cell4, (k8.belowS hb).cell4.1, (k9.belowS hb).cell4.1, (hb.cell (p := ⟨a8.block, a8.off + 1, none⟩) (World.block_lt_of_cell? wZ _ hc8)).trans hc8, (hb.cell (p := ⟨a9.block, a9.off + 1, none⟩) (World.block_lt_of_cell? wZ _ hc9)).trans hc9⟩
          have hz8' := HZ8.out
          have he8' := HE8.out
          go_region_held3 (fun w' => (w'.cell? ⟨b7, 0, none⟩ = some (.slice A7 2 c7) ∧ w'.cell? ⟨b7, 1, none⟩ = some (.slice B7 0 e7) ∧ w'.cell? ⟨b7, 2, none⟩ = some (.int .i64 (-1)) ∧ w'.cell? ⟨b7, 3, none⟩ = some (.bool false)) ∧ (w'.cell? ⟨b1, 0, none⟩ = some (.slice A 2 c) ∧ w'.cell? ⟨b1, 1, none⟩ = some (.slice B 0 e) ∧ w'.cell? ⟨b1, 2, none⟩ = some (.int .i64 (-1)) ∧ w'.cell? ⟨b1, 3, none⟩ = some (.bool false)) ∧ w'.cell? ⟨b8, 0, none⟩ = some (.slice (some a8) 2 c8) ∧ w'.cell? ⟨b9, 0, none⟩ = some (.slice (some a9) 2 c9) ∧ w'.cell? ⟨a8.block, a8.off + 1, none⟩ = some (.string T8) ∧ w'.cell? ⟨a9.block, a9.off + 1, none⟩ = some (.string (reps 120 128)))
            (first | exact S0 | (with_reducible exact HKS.out wZ.drew (Below.refl _ _).drew) | (with_reducible exact HKS.out wQ hbQ) | (with_reducible exact HKS.out wR (hbQ.trans (hbR.mono hbQ.size))))
            (first
              | ((with_reducible refine (HSM.out _ (Below.refl _ _).drew).mono ?_); rintro q wQ ⟨rfl, hbQ⟩; have hbQ := (Below.refl wZ.heap.size wZ).drew.trans hbQ)
              | ((with_reducible refine (HALL.out _).mono ?_); rintro q wR ⟨rfl, hbR⟩))
          go_wp2_with fail
          go_ret
          exact ⟨rfl, hbwZ.trans ((hbQ.trans (hbR.mono hbQ.size)).mono hbwZ.size)⟩
end Go.Proofs.Yteoiadfcchalfaa
