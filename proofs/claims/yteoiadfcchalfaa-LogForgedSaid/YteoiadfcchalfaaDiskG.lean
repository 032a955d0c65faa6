/- The walks of layer 17: the reference's Same of equal disks without writes that wait, and its May. -/
import Derived.Test.YteoiadfcchalfaaDiskF
namespace Go.Proofs.Yteoiadfcchalfaa
open Go.RowKit
open DiskP (Bytes Disk Wr Fate)
set_option linter.unusedVariables false

set_option maxRecDepth 100000 in
set_option maxHeartbeats 1600000 in
theorem same17_any (A A' B B' : Option Addr) (n c c' e e' : Nat) (lf : Int) (dd : Bool) (S : List Bytes) (V V' : Nat → Prop) (w : World) (h : Sl w V 1 A n (secV S)) (g : Sl w V' 1 A' n (secV S)) (hn : n ≤ 1000000000) :
    Calls Try.prog 36 #[dkv A n c B 0 e lf dd, dkv A' n c' B' 0 e' lf dd] w fun q w' => q = .returned (.bool true) ∧ Below w.heap.size w w' := by
  have hb : Below w.heap.size w ((w.alloc (.cells #[.slice A n c, .slice B 0 e, .int .i64 lf, .bool dd] 50)).alloc (.cells #[.slice A' n c', .slice B' 0 e', .int .i64 lf, .bool dd] 50)) := ((Below.refl _ _).alloc (Nat.le_refl _) _).alloc (by simp) _
  have hs := h.below hb
  have gs := g.below hb
  have hne : ((n : Int) != n) = false := by simp
  have hne2 : (lf != lf) = false := by simp
  have hne3 : (dd != dd) = false := by simp
  clear h g
  go_enter Try.func36, Try.ntmps36
  go_wp2_with fail
  go_loopw [5] (fun i wr => ∃ k : Nat, k ≤ n ∧ i = .int .i64 k ∧ ∃ q, wr = ((w.alloc (.cells #[.slice A n c, .slice B 0 e, .int .i64 lf, .bool dd] 50)).alloc (.cells #[.slice A' n c', .slice B' 0 e', .int .i64 lf, .bool dd] 50)).drewN q) (fun i _ => n - (intOf i).toNat)
  case atStart => exact ⟨0, Nat.zero_le _, rfl, 0, rfl⟩
  case round =>
    obtain ⟨k, hk, rfl, q, rfl⟩ := hrel
    by_cases hlt : k < n
    · obtain ⟨a, u, hA, hx, hc⟩ := hs.at_ hlt
      obtain ⟨a', u', hA', hx', hc'⟩ := gs.at_ hlt
      have hu : u' = u := by rw [hx] at hx'; injection hx' with h; exact h.symm
      subst hA hA' hu
      obtain ⟨s, hsu⟩ : ∃ s, u' = .string s := by
        rw [secV_get] at hx
        cases hq : S[k]? with
        | none => rw [hq] at hx; cases hx
        | some s => rw [hq] at hx; injection hx with hx; exact ⟨_, hx.symm⟩
      subst hsu
      clear hx hx' hs gs
      have hi0 : (0 : Int) ≤ (k : Int) := by omega
      have hi1 : (k : Int) < (n : Int) := by omega
      go_wp2_with fail
      go_quiet (fail)
      go_wp2_with fail
      go_roundw
      case rel => exact ⟨k + 1, by omega, by go_num, _, rfl⟩
      case measure => simp [intOf]; omega
    · have hkn : k = n := by omega
      subst hkn
      clear hs gs
      go_wp2_with fail
      go_loopw [6] (fun i wr => i = .int .i64 0 ∧ ∃ q, wr = ((w.alloc (.cells #[.slice A k c, .slice B 0 e, .int .i64 lf, .bool dd] 50)).alloc (.cells #[.slice A' k c', .slice B' 0 e', .int .i64 lf, .bool dd] 50)).drewN q) (fun _ _ => 0)
      case atStart => exact ⟨rfl, _, rfl⟩
      case round =>
        obtain ⟨rfl, q2, rfl⟩ := hrel
        go_wp2_with fail
        go_ret
        exact ⟨rfl, below_drewN hb _⟩

/-! ### The reference's May -/

set_option maxRecDepth 100000 in
set_option maxHeartbeats 3200000 in
theorem rmay_any (A : Option Addr) (n c : Nat) (B : Option Addr) (m e : Nat) (d : Disk) (V : Nat → Prop) (w : World) (h : Dk w V A n c B m e d) :
    Calls Try.prog 39 #[dkv A n c B m e d.left d.dead] w fun q w' => q = .returned (.bool (DiskP.may d)) ∧ Below w.heap.size w w' := by
  have hlen := h.len
  have hwlen := h.wlen
  have hn := h.nle
  have hm := h.mle
  have hmo := may_out (d := d)
  have hml := fun k s => may_long (d := d) (k := k) (s := s)
  have hmw := fun k x => may_wrong (d := d) (k := k) (x := x)
  have hmi := (DiskP.may_iff d).2
  obtain ⟨R, hR⟩ : ∃ R, R = DiskP.may d := ⟨_, rfl⟩
  rw [← hR] at hmo hml hmw hmi ⊢
  clear hR
  rw [hlen] at hmo hmw hmi
  obtain ⟨lf, hlf⟩ : ∃ lf, lf = d.left := ⟨_, rfl⟩
  obtain ⟨dd, hdd⟩ : ∃ dd, dd = d.dead := ⟨_, rfl⟩
  rw [← hlf] at hmo hmi ⊢
  rw [← hdd]
  clear hlf hdd
  have hb : Below w.heap.size w (w.alloc (.cells #[.slice A n c, .slice B m e, .int .i64 lf, .bool dd] 50)) := (Below.refl _ _).alloc (Nat.le_refl _) _
  have hL := h.below hb
  have HML := hide hml
  have HMW := hide hmw
  have HLEN := hide hlen
  have HWLEN := hide hwlen
  have HMI := hide hmi
  have HMO := hide hmo
  clear hml hmw hlen hwlen h hmi hmo
  go_enter Try.func39, Try.ntmps39
  go_wp2_with fail
  go_loop [3] (fun i => ∃ k : Nat, k ≤ n ∧ i = .int .i64 k ∧ AllS d.S k) (fun i => n - (intOf i).toNat)
  case atStart => exact ⟨0, Nat.zero_le _, rfl, allS_zero _⟩
  case round =>
    obtain ⟨k, hk, rfl, hall⟩ := hrel
    by_cases hlt : k < n
    · obtain ⟨a, s, hA, hs, hc⟩ := hL.sec hlt
      subst hA
      obtain ⟨bs, hbs⟩ : ∃ bs, bs = mkB s := ⟨_, rfl⟩
      rw [← hbs] at hc
      have hsz : bs.size = s.length := by rw [hbs, mkB_size]
      by_cases h128 : s.length = 128
      · have hz : bs.size = 128 := by omega
        have hall' := allS_succ hall hs h128
        have hne : ((bs.size : Int) != 128) = false := by rw [hz]; rfl
        clear hsz hs hbs hz h128
        go_wp2_with fail
        go_round
        case rel => exact ⟨k + 1, by omega, by go_num, hall'⟩
        case measure => simp [intOf]; omega
      · have HR := hide (HML.out k s hs h128)
        have hne : ((bs.size : Int) != 128) = true := by simp; omega
        clear hsz hs hbs h128
        go_wp2_with fail
        go_ret
        exact ⟨by rw [HR.out]; rfl, hb⟩
    · have hkn : k = n := by omega
      subst hkn
      have hallS : ∀ s ∈ d.S, s.length = 128 := by
        have : d.S.take k = d.S := List.take_of_length_le (by have := HLEN.out; omega)
        rw [← this]; exact hall
      have HALL := hide hallS
      clear hallS hall hlt
      go_wp2_with fail
      go_loopw [4] (fun i wr => ∃ j : Nat, j ≤ m ∧ i = .int .i64 j ∧ AllW k d.W j ∧ ∃ q, wr = (w.alloc (.cells #[.slice A k c, .slice B m e, .int .i64 lf, .bool dd] 50)).drewN q) (fun i _ => m - (intOf i).toNat)
      case atStart => exact ⟨0, Nat.zero_le _, rfl, allW_zero _ _, 0, rfl⟩
      case round =>
        obtain ⟨j, hj, rfl, hall, q, rfl⟩ := hrel
        by_cases hlt : j < m
        · obtain ⟨a, x, hA, hx, hc1, hc2⟩ := hL.wr hlt
          subst hA
          obtain ⟨bs, hbs⟩ : ∃ bs, bs = mkB x.s := ⟨_, rfl⟩
          rw [← hbs] at hc2
          have hsz : bs.size = x.s.length := by rw [hbs, mkB_size]
          have hi0 : (0 : Int) ≤ (j : Int) := by omega
          have hi1 : (j : Int) < (m : Int) := by omega
          by_cases hok : 0 ≤ x.at_ ∧ x.at_ < (k : Int) ∧ x.s.length = 128
          · have hall' := allW_succ hall hx hok
            obtain ⟨g1, g2, g3⟩ := hok
            have hne : ((bs.size : Int) != 128) = false := by rw [hsz, g3]; rfl
            have f1 : decide (x.at_ < 0) = false := by simp; omega
            have f2 : decide ((k : Int) ≤ x.at_) = false := by simp; omega
            clear hsz hx hbs g3 hall
            go_wp2_with fail
            go_quiet (fail)
            go_wp2_with fail
            go_roundw
            case rel => exact ⟨j + 1, by omega, by go_num, hall', _, rfl⟩
            case measure => simp [intOf]; omega
          · have HR := hide (HMW.out j x hx hok)
            by_cases g1 : 0 ≤ x.at_
            · by_cases g2 : x.at_ < (k : Int)
              · have hne : ((bs.size : Int) != 128) = true := by simp; omega
                have f1 : decide (x.at_ < 0) = false := by simp; omega
                have f2 : decide ((k : Int) ≤ x.at_) = false := by simp; omega
                clear hsz hx hbs hok hall
                go_wp2_with fail
                go_quiet (fail)
                go_wp2_with fail
                go_ret
                exact ⟨by rw [HR.out]; rfl, below_drewN (below_drewN hb _) _⟩
              · have f1 : decide (x.at_ < 0) = false := by simp; omega
                have f2 : decide ((k : Int) ≤ x.at_) = true := by simp; omega
                clear hsz hx hbs hok hall
                go_wp2_with fail
                go_quiet (fail)
                go_wp2_with fail
                go_ret
                exact ⟨by rw [HR.out]; rfl, below_drewN (below_drewN hb _) _⟩
            · have f1 : decide (x.at_ < 0) = true := by simp; omega
              clear hsz hx hbs hok hall
              go_wp2_with fail
              go_quiet (fail)
              go_wp2_with fail
              go_ret
              exact ⟨by rw [HR.out]; rfl, below_drewN (below_drewN hb _) _⟩
        · have hjm : j = m := by omega
          subst hjm
          have hallW : ∀ x ∈ d.W, 0 ≤ x.at_ ∧ x.at_ < (k : Int) ∧ x.s.length = 128 := by
            have : d.W.take j = d.W := List.take_of_length_le (by have := HWLEN.out; omega)
            rw [← this]; exact hall
          have HALLW := hide hallW
          clear hallW hall hlt
          by_cases h0 : 1 ≤ k
          · by_cases h1 : k ≤ 4000
            · by_cases h2 : -1 ≤ lf
              · have HR := hide (HMI.out ⟨h0, h1, h2, HALL.out, HALLW.out⟩)
                go_wp2_with fail
                go_ret
                exact ⟨by rw [HR.out]; rfl, below_drewN hb _⟩
              · have HR := hide (HMO.out (by omega))
                go_wp2_with fail
                go_ret
                exact ⟨by rw [HR.out]; rfl, below_drewN hb _⟩
            · have HR := hide (HMO.out (by omega))
              go_wp2_with fail
              go_ret
              exact ⟨by rw [HR.out]; rfl, below_drewN hb _⟩
          · have HR := hide (HMO.out (by omega))
            go_wp2_with fail
            go_ret
            exact ⟨by rw [HR.out]; rfl, below_drewN hb _⟩
end Go.Proofs.Yteoiadfcchalfaa
