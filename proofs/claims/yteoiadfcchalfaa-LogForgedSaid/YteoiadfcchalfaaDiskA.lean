/- The walks of layer 17's first functions: there, spend, May. -/
import Derived.Test.YteoiadfcchalfaaDiskMem
namespace Go.Proofs.Yteoiadfcchalfaa
open Go.RowKit
open DiskP (Bytes Disk Wr)
set_option linter.unusedVariables false

set_option maxRecDepth 100000 in
set_option maxHeartbeats 800000 in
theorem there_any (A : Option Addr) (n c : Nat) (B : Option Addr) (m e : Nat) (d : Disk) (V : Nat → Prop) (i k : Int) (w : World) (h : Dk w V A n c B m e d) (hi : -9223372036854775808 ≤ i) (hi2 : i ≤ 9223372036854775807) :
    Calls Try.prog 71 #[dkv A n c B m e d.left d.dead, .int .i64 i, .int .i64 k] w fun e w' => e = .returned (.bool (DiskP.there d i k)) ∧ Below w.heap.size w w' := by
  have hlen := h.len
  have hn := h.nle
  obtain ⟨R, hR⟩ : ∃ R, R = DiskP.there d i k := ⟨_, rfl⟩
  rw [← hR]
  have hR' : R = (decide (0 ≤ i) && decide (0 ≤ k) && decide (i ≤ (n : Int)) && decide (k ≤ (n : Int) - i)) := by rw [hR, DiskP.there, hlen]
  clear hR hlen h
  have HR := hide hR'
  clear hR'
  obtain ⟨lf, hlf⟩ : ∃ lf, lf = d.left := ⟨_, rfl⟩
  obtain ⟨dd, hdd⟩ : ∃ dd, dd = d.dead := ⟨_, rfl⟩
  rw [← hlf, ← hdd]
  clear hlf hdd
  have hb : Below w.heap.size w (w.alloc (.cells #[.slice A n c, .slice B m e, .int .i64 lf, .bool dd] 50)) := (Below.refl _ _).alloc (Nat.le_refl _) _
  go_enter Try.func71, Try.ntmps71
  by_cases h1 : 0 ≤ i
  · by_cases h2 : 0 ≤ k
    · by_cases h3 : i ≤ (n : Int)
      · go_wp2_with fail
        go_ret
        exact ⟨by rw [HR.out]; simp [h1, h2, h3], hb⟩
      · go_wp2_with fail
        go_ret
        exact ⟨by rw [HR.out, decide_eq_false (show ¬ i ≤ (n : Int) by omega)]; simp, hb⟩
    · go_wp2_with fail
      go_ret
      exact ⟨by rw [HR.out, decide_eq_false (show ¬ 0 ≤ k by omega)]; simp, hb⟩
  · go_wp2_with fail
    go_ret
    exact ⟨by rw [HR.out, decide_eq_false (show ¬ 0 ≤ i by omega)]; simp, hb⟩

theorem spent_dead (d : Disk) (h : d.dead = true) : DiskP.spent d = { d with dead := true } := by simp [DiskP.spent, h]
theorem spent_out (d : Disk) (h : d.left = 0) : DiskP.spent d = { d with dead := true } := by simp [DiskP.spent, h]
theorem spent_one (d : Disk) (h : d.dead = false) (h0 : 0 < d.left) : DiskP.spent d = { d with left := d.left - 1 } := by
  have h1 : ¬ d.left = 0 := by omega
  simp [DiskP.spent, h, h0, h1]
theorem spent_any (d : Disk) (h : d.dead = false) (h1 : d.left < 0) : DiskP.spent d = d := by
  have h2 : ¬ d.left = 0 := by omega
  have h3 : ¬ 0 < d.left := by omega
  simp [DiskP.spent, h, h2, h3]

set_option maxRecDepth 100000 in
set_option maxHeartbeats 800000 in
theorem spend_any (A : Option Addr) (n c : Nat) (B : Option Addr) (m e : Nat) (d : Disk) (w : World) (h1 : -1 ≤ d.left) (h2 : d.left ≤ 9223372036854775807) :
    Calls Try.prog 72 #[dkv A n c B m e d.left d.dead] w fun q w' =>
      q = .returned (.tuple #[dkv A n c B m e (DiskP.spent d).left (DiskP.spent d).dead, .bool (DiskP.alive d)]) ∧ Below w.heap.size w w' := by
  have hb : ∀ x y, Below w.heap.size w ((w.alloc (.cells x 50)).alloc (.cells y 50)) := fun x y => ((Below.refl _ _).alloc (Nat.le_refl _) _).alloc (by simp) _
  have HB := hide hb
  clear hb
  obtain ⟨R, hR⟩ : ∃ R, R = DiskP.spent d := ⟨_, rfl⟩
  obtain ⟨Q, hQ⟩ : ∃ Q, Q = DiskP.alive d := ⟨_, rfl⟩
  have ha : Q = (!d.dead && !(d.left == 0)) := hQ
  rw [← hR, ← hQ]
  have s1 := spent_dead d
  have s2 := spent_out d
  have s3 := spent_one d
  have s4 := spent_any d
  rw [← hR] at s1 s2 s3 s4
  clear hR hQ
  obtain ⟨S, W, lf, dd⟩ := d
  simp only at *
  have HA := hide ha
  clear ha
  cases dd with
  | true =>
    have HR := hide (s1 rfl)
    clear s1 s2 s3 s4
    go_enter Try.func72, Try.ntmps72
    go_wp2_with fail
    exact bodyPost_ret (v := .tuple #[dkv A n c B m e lf true, .bool false]) (by simp [results, Try.results72, go_sem]) rfl ⟨by rw [HR.out, HA.out]; rfl, HB.out _ _⟩
  | false =>
    by_cases h0 : lf = 0
    · subst h0
      have HR := hide (s2 rfl)
      clear s1 s2 s3 s4
      go_enter Try.func72, Try.ntmps72
      go_wp2_with fail
      exact bodyPost_ret (v := .tuple #[dkv A n c B m e 0 true, .bool false]) (by simp [results, Try.results72, go_sem]) rfl ⟨by rw [HR.out, HA.out]; rfl, HB.out _ _⟩
    · have hq : Q = true := by rw [HA.out]; simp [h0]
      have HQ := hide hq
      clear hq
      by_cases hp : 0 < lf
      · have HR := hide (s3 rfl hp)
        clear s1 s2 s3 s4
        go_enter Try.func72, Try.ntmps72
        go_wp2_with fail
        exact bodyPost_ret (v := .tuple #[dkv A n c B m e (lf - 1) false, .bool true]) (by simp [results, Try.results72, go_sem]) rfl ⟨by rw [HR.out, HQ.out], HB.out _ _⟩
      · have HR := hide (s4 rfl (by omega))
        clear s1 s2 s3 s4
        go_enter Try.func72, Try.ntmps72
        go_wp2_with fail
        exact bodyPost_ret (v := .tuple #[dkv A n c B m e lf false, .bool true]) (by simp [results, Try.results72, go_sem]) rfl ⟨by rw [HR.out, HQ.out], HB.out _ _⟩

/-! ### May -/

def AllS (S : List Bytes) (k : Nat) : Prop := ∀ s ∈ S.take k, s.length = 128
theorem allS_zero (S : List Bytes) : AllS S 0 := by intro s hs; simp at hs
theorem allS_succ {S : List Bytes} {k : Nat} {s : Bytes} (h : AllS S k) (hs : S[k]? = some s) (hl : s.length = 128) : AllS S (k + 1) := by
  have h1 : k < S.length := (List.getElem?_eq_some_iff.1 hs).1
  have h2 : S[k] = s := (List.getElem?_eq_some_iff.1 hs).2
  intro x hx
  rw [List.take_succ_eq_append_getElem h1, h2] at hx
  rcases List.mem_append.1 hx with hx | hx
  · exact h x hx
  · simp at hx; subst hx; exact hl
def AllW (n : Nat) (W : List Wr) (k : Nat) : Prop := ∀ w ∈ W.take k, 0 ≤ w.at_ ∧ w.at_ < (n : Int) ∧ w.s.length = 128
theorem allW_zero (n : Nat) (W : List Wr) : AllW n W 0 := by intro s hs; simp at hs
theorem allW_succ {n : Nat} {W : List Wr} {k : Nat} {x : Wr} (h : AllW n W k) (hs : W[k]? = some x) (hl : 0 ≤ x.at_ ∧ x.at_ < (n : Int) ∧ x.s.length = 128) : AllW n W (k + 1) := by
  have h1 : k < W.length := (List.getElem?_eq_some_iff.1 hs).1
  have h2 : W[k] = x := (List.getElem?_eq_some_iff.1 hs).2
  intro y hy
  rw [List.take_succ_eq_append_getElem h1, h2] at hy
  rcases List.mem_append.1 hy with hy | hy
  · exact h y hy
  · simp at hy; subst hy; exact hl
theorem may_long {d : Disk} {k : Nat} {s : Bytes} (h : d.S[k]? = some s) (hl : ¬ s.length = 128) : DiskP.may d = false := by
  rw [Bool.eq_false_iff]; intro hm
  exact hl (((DiskP.may_iff d).1 hm).2.2.2.1 s (List.mem_of_getElem? h))
theorem may_wrong {d : Disk} {k : Nat} {x : Wr} (h : d.W[k]? = some x) (hl : ¬ (0 ≤ x.at_ ∧ x.at_ < (d.S.length : Int) ∧ x.s.length = 128)) : DiskP.may d = false := by
  rw [Bool.eq_false_iff]; intro hm
  exact hl (((DiskP.may_iff d).1 hm).2.2.2.2 x (List.mem_of_getElem? h))
theorem may_out {d : Disk} (h : d.S.length < 1 ∨ 4000 < d.S.length ∨ d.left < -1) : DiskP.may d = false := by
  rw [Bool.eq_false_iff]; intro hm
  have := (DiskP.may_iff d).1 hm
  omega

set_option maxRecDepth 100000 in
set_option maxHeartbeats 1600000 in
theorem may_any (A : Option Addr) (n c : Nat) (B : Option Addr) (m e : Nat) (d : Disk) (V : Nat → Prop) (w : World) (h : Dk w V A n c B m e d) :
    Calls Try.prog 70 #[dkv A n c B m e d.left d.dead] w fun q w' => q = .returned (.bool (DiskP.may d)) ∧ Below w.heap.size w w' := by
  have hlen := h.len
  have hwlen := h.wlen
  have hn := h.nle
  have hm := h.mle
  have hmo := may_out (d := d)
  have hml := fun k s => may_long (d := d) (k := k) (s := s)
  have hmw := fun k x => may_wrong (d := d) (k := k) (x := x)
  have hmi := (DiskP.may_iff d).2
  obtain ⟨R, hR⟩ : ∃ R, R = DiskP.may d := ⟨_, rfl⟩
  rw [← hR] at hmo hml hmw hmi ⊢
  clear hR
  rw [hlen] at hmo hmw hmi
  obtain ⟨lf, hlf⟩ : ∃ lf, lf = d.left := ⟨_, rfl⟩
  obtain ⟨dd, hdd⟩ : ∃ dd, dd = d.dead := ⟨_, rfl⟩
  rw [← hlf] at hmo hmi ⊢
  rw [← hdd]
  clear hlf hdd
  have hb : Below w.heap.size w (w.alloc (.cells #[.slice A n c, .slice B m e, .int .i64 lf, .bool dd] 50)) := (Below.refl _ _).alloc (Nat.le_refl _) _
  have hL := h.below hb
  have HML := hide hml
  have HMW := hide hmw
  have HLEN := hide hlen
  have HWLEN := hide hwlen
  clear hml hmw hlen hwlen h
  by_cases h0 : n < 1
  · have HR := hide (hmo (.inl h0))
    clear hmo hmi
    go_enter Try.func70, Try.ntmps70
    go_wp2_with fail
    go_ret
    exact ⟨by rw [HR.out]; rfl, hb⟩
  by_cases h1 : 4000 < n
  · have HR := hide (hmo (.inr (.inl h1)))
    clear hmo hmi
    go_enter Try.func70, Try.ntmps70
    go_wp2_with fail
    go_ret
    exact ⟨by rw [HR.out]; rfl, hb⟩
  by_cases h2 : lf < -1
  · have HR := hide (hmo (.inr (.inr h2)))
    clear hmo hmi
    go_enter Try.func70, Try.ntmps70
    go_wp2_with fail
    go_ret
    exact ⟨by rw [HR.out]; rfl, hb⟩
  have HMI := hide hmi
  clear hmo hmi
  go_enter Try.func70, Try.ntmps70
  go_wp2_with fail
  go_loop [25] (fun i => ∃ k : Nat, k ≤ n ∧ i = .int .i64 k ∧ AllS d.S k) (fun i => n - (intOf i).toNat)
  case atStart => exact ⟨0, Nat.zero_le _, rfl, allS_zero _⟩
  case round =>
    obtain ⟨k, hk, rfl, hall⟩ := hrel
    by_cases hlt : k < n
    · obtain ⟨a, s, hA, hs, hc⟩ := hL.sec hlt
      subst hA
      obtain ⟨bs, hbs⟩ : ∃ bs, bs = mkB s := ⟨_, rfl⟩
      rw [← hbs] at hc
      have hsz : bs.size = s.length := by rw [hbs, mkB_size]
      by_cases h128 : s.length = 128
      · have hz : bs.size = 128 := by omega
        have hall' := allS_succ hall hs h128
        have HZ : Hid ((bs.size : Int) = 128) := by rw [hz]; rfl
        have hne : ((bs.size : Int) != 128) = false := by rw [hz]; rfl
        clear hsz hs hbs hz h128 HZ
        go_wp2_with fail
        go_round
        case rel => exact ⟨k + 1, by omega, by go_num, hall'⟩
        case measure => simp [intOf]; omega
      · have HR := hide (HML.out k s hs h128)
        have hne : ((bs.size : Int) != 128) = true := by simp; omega
        clear hsz hs hbs h128
        go_wp2_with fail
        go_ret
        exact ⟨by rw [HR.out]; rfl, hb⟩
    · have hkn : k = n := by omega
      subst hkn
      have hallS : ∀ s ∈ d.S, s.length = 128 := by
        have : d.S.take k = d.S := List.take_of_length_le (by have := HLEN.out; omega)
        rw [← this]; exact hall
      have HALL := hide hallS
      clear hallS hall hlt
      go_wp2_with fail
      go_loopw [36] (fun i wr => ∃ j : Nat, j ≤ m ∧ i = .int .i64 j ∧ AllW k d.W j ∧ Below (w.heap.size + 1) (w.alloc (.cells #[.slice A k c, .slice B m e, .int .i64 lf, .bool dd] 50)) wr) (fun i _ => m - (intOf i).toNat)
      case atStart => exact ⟨0, Nat.zero_le _, rfl, allW_zero _ _, Below.refl _ _⟩
      case round =>
        obtain ⟨j, hj, rfl, hall, hbr⟩ := hrel
        have hbw := hb.trans (hbr.mono (Nat.le_succ _))
        by_cases hlt : j < m
        · have hz : w.heap.size < wr.heap.size := by have := hbr.size; rw [World.size_alloc] at this; omega
          have hcS : wr.cell? ⟨w.heap.size, 0, none⟩ = some (.slice A k c) := bcell hbr (by omega) (by simp [go_sem])
          obtain ⟨a, x, hA, hx, hc1, hc2⟩ := (hL.below (by rw [World.size_alloc]; exact hbr)).wr hlt
          subst hA
          obtain ⟨bs, hbs⟩ : ∃ bs, bs = mkB x.s := ⟨_, rfl⟩
          rw [← hbs] at hc2
          have hsz : bs.size = x.s.length := by rw [hbs, mkB_size]
          by_cases hok : 0 ≤ x.at_ ∧ x.at_ < (k : Int) ∧ x.s.length = 128
          · have hall' := allW_succ hall hx hok
            obtain ⟨g1, g2, g3⟩ := hok
            have hne : ((bs.size : Int) != 128) = false := by rw [hsz, g3]; rfl
            have f1 : decide (x.at_ < 0) = false := by simp; omega
            have f2 : decide ((k : Int) ≤ x.at_) = false := by simp; omega
            clear hsz hx hbs g3 hall
            go_wp2_with fail
            go_roundw
            case rel => exact ⟨j + 1, by omega, by go_num, hall', hbr.alloc hz _⟩
            case measure => simp [intOf]; omega
          · have HR := hide (HMW.out j x hx hok)
            by_cases g1 : 0 ≤ x.at_
            · by_cases g2 : x.at_ < (k : Int)
              · have hne : ((bs.size : Int) != 128) = true := by simp; omega
                have f1 : decide (x.at_ < 0) = false := by simp; omega
                have f2 : decide ((k : Int) ≤ x.at_) = false := by simp; omega
                clear hsz hx hbs hok hall
                go_wp2_with fail
                go_ret
                exact ⟨by rw [HR.out]; rfl, hbw.alloc hbw.size _⟩
              · have f1 : decide (x.at_ < 0) = false := by simp; omega
                have f2 : decide ((k : Int) ≤ x.at_) = true := by simp; omega
                clear hsz hx hbs hok hall
                go_wp2_with fail
                go_ret
                exact ⟨by rw [HR.out]; rfl, hbw.alloc hbw.size _⟩
            · have f1 : decide (x.at_ < 0) = true := by simp; omega
              clear hsz hx hbs hok hall
              go_wp2_with fail
              go_ret
              exact ⟨by rw [HR.out]; rfl, hbw.alloc hbw.size _⟩
        · have hjm : j = m := by omega
          subst hjm
          have hallW : ∀ x ∈ d.W, 0 ≤ x.at_ ∧ x.at_ < (k : Int) ∧ x.s.length = 128 := by
            have : d.W.take j = d.W := List.take_of_length_le (by have := HWLEN.out; omega)
            rw [← this]; exact hall
          have HR := hide (HMI.out ⟨by omega, by omega, by omega, HALL.out, hallW⟩)
          clear hallW hall hlt
          go_wp2_with fail
          go_ret
          exact ⟨by rw [HR.out]; rfl, hbw⟩
end Go.Proofs.Yteoiadfcchalfaa
