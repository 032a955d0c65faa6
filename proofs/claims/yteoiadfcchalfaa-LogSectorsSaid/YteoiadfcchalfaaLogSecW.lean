/- LogSectors: the walk. -/
import Derived.Test.YteoiadfcchalfaaLogAw
import Derived.Deep.DeepCutAuto
import Derived.Deep.CutBlock
namespace Go.Proofs.Yteoiadfcchalfaa
open Go.RowKit
open DiskP (Bytes Disk Wr Fate noughts)
open LogP (Log zeroL Live okL)
set_option linter.unusedVariables false

theorem new_live {n : Nat} (h1 : 1 ≤ n) (hn : n ≤ 4000) : Live n (DiskP.new n) :=
  ⟨(DiskP.may_iff _).2 ⟨by simp [DiskP.new]; omega, by simp [DiskP.new]; omega, Int.le_refl _, fun s hs => by
    simp only [DiskP.new, List.mem_replicate] at hs
    rw [hs.2]; exact LogP.noughts_len 128, fun w hw => by cases hw⟩, by simp [DiskP.new], rfl⟩
theorem append_new {n at_ : Nat} {s : Bytes} (h1 : 2 ≤ n) (hn : n ≤ 4000) (ha : at_ < n) (hs : s.length ≤ 4000) :
    okL (DiskP.new n) ⟨0, n, at_, 1⟩ ∧ (LogP.appendP (DiskP.new n) ⟨0, n, at_, 1⟩ s).2.2 = if at_ + LogP.secs s.length < n then 0 else 13 := by
  have hok : okL (DiskP.new n) ⟨0, n, at_, 1⟩ := ⟨(new_live (by omega) hn).may, by simp [DiskP.new], h1, ha, Nat.le_refl _, by show 1 ≤ LogP.maxSeq; decide⟩
  refine ⟨hok, ?_⟩
  by_cases hf : at_ + LogP.secs s.length < n
  · rw [if_pos hf]
    obtain ⟨d', l', e, he, hA, _⟩ := LogP.append_cases (new_live (by omega) hn) rfl hok hs (by show LogP.secs s.length + 1 + at_ ≤ n; omega)
    rw [he]
    cases hA with
    | ok => rfl
    | early _ _ h => exact absurd rfl h
    | late _ _ _ h => exact absurd rfl h
  · rw [if_neg hf, LogP.appendP, if_neg (by omega), if_pos (by show n < LogP.secs s.length + 1 + at_; omega)]

set_option maxRecDepth 100000 in
set_option maxHeartbeats 1600000 in
theorem logSectors_walk (n m at_ : Nat) (w : World) (hn : n ≤ 65535) (hm : m ≤ 65535) (hat : at_ ≤ 255) :
    Calls Try.prog 10 #[.int .u16 n, .int .u16 m, .int .u8 at_] w fun q w' => q = .returned (.bool true) ∧ Below w.heap.size w w' := by
  obtain ⟨a, ha⟩ : ∃ a, a = n % 4200 := ⟨_, rfl⟩
  obtain ⟨b, hb⟩ : ∃ b, b = m % 4200 := ⟨_, rfl⟩
  have t1 : (n : Int).tmod 4200 = (a : Int) := by rw [Int.tmod_eq_emod_of_nonneg (by omega)]; omega
  have t2 : (m : Int).tmod 4200 = (b : Int) := by rw [Int.tmod_eq_emod_of_nonneg (by omega)]; omega
  have la : a < 4200 := by omega
  have lb : b < 4200 := by omega
  have hsa := fun w1 => sectors_any a w1 (by omega)
  have hsb := fun w1 => sectors_any b w1 (by omega)
  have e1 : IntKind.i64.wrap (n : Int) = (n : Int) := IntWalk.i64_in _ (by omega)
  have e2 : IntKind.i64.wrap (m : Int) = (m : Int) := IntWalk.i64_in _ (by omega)
  have e3 : IntKind.i64.wrap (a : Int) = (a : Int) := IntWalk.i64_in _ (by omega)
  have e4 : IntKind.i64.wrap (b : Int) = (b : Int) := IntWalk.i64_in _ (by omega)
  have HSA := hide hsa
  have HSB := hide hsb
  have hA := hide ha
  have hB := hide hb
  clear hsa hsb ha hb
  go_enter Try.func10, Try.ntmps10
  go_wp2_with fail
  refine (HSA.out _).mono ?_
  rintro q w1 ⟨rfl, rfl⟩
  go_wp2_with fail
  refine (HSB.out _).mono ?_
  rintro q w1 ⟨rfl, rfl⟩
  go_upto_region 3 with (fail)
  have HZA := hide (LogP.secs_zero a)
  have hmono : a ≤ b → b ≤ 4000 → LogP.secs a ≤ LogP.secs b := fun h1 h2 => LogP.secs_mono h1 h2
  have HMO := hide hmono
  clear hmono
  obtain ⟨x, hx⟩ : ∃ x, x = LogP.secs a := ⟨_, rfl⟩
  obtain ⟨y, hy⟩ : ∃ y, y = LogP.secs b := ⟨_, rfl⟩
  rw [← hx] at HZA HMO ⊢
  rw [← hy] at HMO ⊢
  have HX := hide hx
  clear hx hy
  go_cut [43] from 25 to 42 (fun v wc => v = .bool false ∧ w = wc)
  case first =>
    have hz := HZA.out
    have hmo := HMO.out
    clear HZA HMO HX HSA HSB hA hB e1 e2 e3 e4 t1 t2
    by_cases h3 : 4000 < a
    · have z1 : x = 0 := hz.2 h3
      have d5 : decide ((4000 : Int) < (a : Int)) = true := by simp; omega
      by_cases h1 : a ≤ b
      · have d1 : decide ((a : Int) ≤ (b : Int)) = true := by simp; omega
        have d1' : decide (a ≤ b) = true := by simp; omega
        have d2 : decide ((b : Int) ≤ 4000) = false := by simp; omega
        clear hz hmo h1 h3
        subst z1
        go_wp2_with fail
        go_meet
        exact ⟨by simp [*], rfl⟩
      · have d1 : decide ((a : Int) ≤ (b : Int)) = false := by simp; omega
        have d1' : decide (a ≤ b) = false := by simp; omega
        clear hz hmo h1 h3
        subst z1
        go_wp2_with fail
        go_meet
        exact ⟨by simp [*], rfl⟩
    · have z1 : ¬ x = 0 := fun e => h3 (hz.1 e)
      have Z1 := hide z1
      have z2 : decide (x = 0) = false := by simp; exact z1
      have z3 : decide ((x : Int) = 0) = false := by simp; exact z1
      have d5 : decide ((4000 : Int) < (a : Int)) = false := by simp; omega
      by_cases h1 : a ≤ b
      · have d1 : decide ((a : Int) ≤ (b : Int)) = true := by simp; omega
        have d1' : decide (a ≤ b) = true := by simp; omega
        by_cases h2 : b ≤ 4000
        · have d2 : decide ((b : Int) ≤ 4000) = true := by simp; omega
          have d3 : decide ((y : Int) < (x : Int)) = false := by simp; have := hmo h1 h2; omega
          have d3' : decide (y < x) = false := by simp; have := hmo h1 h2; omega
          clear hz hmo h1 h2 h3 z1
          go_wp2_with fail
          go_meet
          exact ⟨by simp [*]; exact Z1.out, rfl⟩
        · have d2 : decide ((b : Int) ≤ 4000) = false := by simp; omega
          clear hz hmo h1 h2 h3 z1
          go_wp2_with fail
          go_meet
          exact ⟨by simp [*]; exact Z1.out, rfl⟩
      · have d1 : decide ((a : Int) ≤ (b : Int)) = false := by simp; omega
        have d1' : decide (a ≤ b) = false := by simp; omega
        clear hz hmo h1 h3 z1
        go_wp2_with fail
        go_meet
        exact ⟨by simp [*]; exact Z1.out, rfl⟩
  case rest =>
    obtain ⟨rfl, rfl⟩ := hcut
    clear HZA HMO HSA HSB
    go_upto_region 5 with (fail)
    go_cut [57] from 44 to 56 (fun v wc => v = .bool false ∧ w = wc)
    case first =>
      by_cases h1 : a ≤ 3800
      · have d1 : decide ((a : Int) ≤ 3800) = true := by simp; omega
        by_cases h2 : 117 ≤ a
        · have d2 : decide ((117 : Int) ≤ (a : Int)) = true := by simp; omega
          have hs := LogP.secs_step h2 h1
          rw [← HX.out] at hs
          have hc := fun w1 => sectors_any (a + 128) w1 (by omega)
          rw [hs, show ((a + 128 : Nat) : Int) = (a : Int) + 128 from by omega, show ((x + 1 : Nat) : Int) = (x : Int) + 1 from by omega] at hc
          have hx32 : x ≤ 32 := by rw [HX.out]; exact LogP.secs_le a
          have w1 : IntKind.i64.wrap ((a : Int) + 128) = (a : Int) + 128 := IntWalk.i64_in _ (by omega)
          have w2 : IntKind.i64.wrap ((x : Int) + 1) = (x : Int) + 1 := IntWalk.i64_in _ (by omega)
          have HC := hide hc
          clear hs hc hx32 h1 h2 HX hA hB e1 e2 e3 e4 t1 t2
          go_wp2_with fail
          refine (HC.out _).mono ?_
          rintro q wx ⟨rfl, rfl⟩
          go_wp2_with fail
          go_meet
          exact ⟨by simp [*], rfl⟩
        · have d2 : decide ((117 : Int) ≤ (a : Int)) = false := by simp; omega
          clear h1 h2 HX hA hB e1 e2 e3 e4 t1 t2
          go_wp2_with fail
          go_meet
          exact ⟨by simp [*], rfl⟩
      · have d1 : decide ((a : Int) ≤ 3800) = false := by simp; omega
        clear h1 HX hA hB e1 e2 e3 e4 t1 t2
        go_wp2_with fail
        go_meet
        exact ⟨by simp [*], rfl⟩
    case rest =>
      obtain ⟨rfl, rfl⟩ := hcut
      obtain ⟨k, hk⟩ : ∃ k, k = a % 500 := ⟨_, rfl⟩
      obtain ⟨p, hp⟩ : ∃ p, p = at_ % 12 := ⟨_, rfl⟩
      have t3 : (a : Int).tmod 500 = (k : Int) := by rw [Int.tmod_eq_emod_of_nonneg (by omega)]; omega
      have t4 : (at_ : Int).tmod 12 = (p : Int) := by rw [Int.tmod_eq_emod_of_nonneg (by omega)]; omega
      have lk : k < 500 := by omega
      have lp : p < 12 := by omega
      have w1 : IntKind.i64.wrap (k : Int) = (k : Int) := IntWalk.i64_in _ (by omega)
      have w2 : IntKind.i64.wrap (p : Int) = (p : Int) := IntWalk.i64_in _ (by omega)
      have w3 : IntKind.u8.wrap (p : Int) = (p : Int) := by
        have : ∀ z : Nat, z < 12 → IntKind.u8.wrap (z : Int) = (z : Int) := by decide
        exact this p lp
      have hks : oct ((reps 120 512).extract 0 k) = List.replicate k 120 := by rw [oct_extract, oct_reps, List.drop_zero, Nat.sub_zero, List.take_replicate]; congr 1; omega
      have hkz : ((reps 120 512).extract 0 k).size = k := by rw [← oct_length, hks]; simp
      obtain ⟨hok, hap⟩ := append_new (n := 12) (at_ := p) (s := List.replicate k 120) (by decide) (by decide) lp (by simp; omega)
      have HAP : Hid (∀ (w1 : World) A n c B m e V, Dk w1 V A n c B m e (DiskP.new 12) → Calls Try.prog 45 #[dkv A n c B m e (DiskP.new 12).left (DiskP.new 12).dead, .agg #[.int .i64 0, .int .i64 12, .int .i64 (p : Int), .int .i64 1], .string ((reps 120 512).extract 0 k)] w1 fun q w' => ∃ A n c B m e lf dd z0 z1 z2 z3, q = .returned (.tuple #[.agg #[.slice A n c, .slice B m e, .int .i64 lf, .bool dd], .agg #[.int .i64 z0, .int .i64 z1, .int .i64 z2, .int .i64 z3], .int .i64 ((if p + LogP.secs k < 12 then 0 else 13 : Nat) : Int)]) ∧ Below w1.heap.size w1 w') := by
        intro w1 A n c B m e V hD
        have hm : m = 0 := by rw [← hD.wlen]; rfl
        have := append_any A n c B m e (DiskP.new 12) V ⟨0, 12, p, 1⟩ ((reps 120 512).extract 0 k) w1 hD hok (by omega) (by omega)
        rw [hks, hap, List.length_replicate] at this
        refine this.mono ?_
        rintro q w' ⟨v, h1, ⟨A, n, c, B, m, e, rfl, _⟩, h3⟩
        exact ⟨A, n, c, B, m, e, _, _, _, _, _, _, h1, h3⟩
      clear hok hap hks
      have HSO := hide (fun w1 => some_any 12 w1 (by decide) (by decide))
      have HAL := hide (fun w1 => all17_any 120 4 512 w1 rfl (by decide))
      have HSK := hide (fun w1 => sectors_any k w1 (by omega))
      have hz : (k : Int) ≤ ((reps 120 512).size : Int) := by rw [reps_size]; omega
      have hs32 : LogP.secs k ≤ 32 := LogP.secs_le k
      obtain ⟨s, hs⟩ : ∃ s, s = LogP.secs k := ⟨_, rfl⟩
      rw [← hs] at HAP HSK hs32
      have w4 : IntKind.i64.wrap ((p : Int) + (s : Int)) = (p : Int) + (s : Int) := IntWalk.i64_in _ (by omega)
      obtain ⟨E, hE⟩ : ∃ E : Nat, E = if p + s < 12 then 0 else 13 := ⟨_, rfl⟩
      rw [← hE] at HAP
      have HE := hide hE
      clear hk hp hA hB HX e1 e2 e3 e4 t1 t2 hs hE hkz
      go_wp2_with fail
      refine (HSO.out _).mono ?_
      rintro q W1 ⟨v, rfl, ⟨A, n1, c, B, m1, e, rfl, hD⟩, hb1⟩
      go_wp2_with fail
      refine (HAL.out _).mono ?_
      rintro q W2 ⟨rfl, hb2⟩
      have hD2 := hD.below hb2
      have hbw2 := hb1.trans (hb2.mono hb1.size)
      clear hD hb1 hb2
      go_wp2_with fail
      refine (HAP.out _ A n1 c B m1 e _ hD2).mono ?_
      rintro q W3 ⟨A3, n3, c3, B3, m3, e3, lf, dd, z0, z1, z2, z3, rfl, hb3⟩
      have hbw3 := hbw2.trans (hb3.mono hbw2.size)
      clear hD2 hbw2 hb3 HAP HSO HAL
      go_wp2_with fail
      have hbw5 := (hbw3.alloc hbw3.size (.cells #[.slice A3 n3 c3, .slice B3 m3 e3, .int .i64 lf, .bool dd] 50)).alloc (by simp; have := hbw3.size; omega) (.cells #[.int .i64 z0, .int .i64 z1, .int .i64 z2, .int .i64 z3] 67)
      refine (HSK.out _).mono ?_
      rintro q W4 ⟨rfl, rfl⟩
      have hE := HE.out
      clear HE HSK
      by_cases hf : p + s < 12
      · rw [if_pos hf] at hE
        subst hE
        have f1 : decide ((p : Int) + (s : Int) < 12) = true := by simp; omega
        clear hf
        go_wp2_with fail
        refine (awake18_any _).mono ?_
        rintro q W6 ⟨rfl, hb6⟩
        have hbw6 := hbw5.trans (hb6.mono hbw5.size)
        go_wp2_with fail
        go_ret
        exact ⟨rfl, hbw6⟩
      · rw [if_neg hf] at hE
        subst hE
        have f1 : decide ((p : Int) + (s : Int) < 12) = false := by simp; omega
        clear hf
        go_wp2_with fail
        refine (awake18_any _).mono ?_
        rintro q W6 ⟨rfl, hb6⟩
        have hbw6 := hbw5.trans (hb6.mono hbw5.size)
        go_wp2_with fail
        go_ret
        exact ⟨rfl, hbw6⟩
end Go.Proofs.Yteoiadfcchalfaa
