/- The document's Sectors and Noughts of layers 17 and 18. -/
import Derived.Test.YteoiadfcchalfaaLogB
namespace Go.Proofs.Yteoiadfcchalfaa
open Go.RowKit
open DiskP (Bytes Disk Wr Fate)
set_option linter.unusedVariables false

theorem secs_lo {n k : Nat} (hn : n ≤ 4000) (h1 : 1 ≤ k) (h2 : 117 + 128 * (k - 1) < n) : k + 1 ≤ LogP.secs n := by
  unfold LogP.secs
  rw [if_neg (by omega), if_neg (by omega)]
  omega
theorem secs_at {n k : Nat} (hn : n ≤ 4000) (h1 : 1 ≤ k) (h2 : ¬ 117 + 128 * (k - 1) < n) (h3 : k ≤ LogP.secs n) : k = LogP.secs n := by
  unfold LogP.secs at *
  rw [if_neg (by omega)] at *
  split at h3
  · rw [if_pos (by assumption)]; omega
  · rw [if_neg (by assumption)]; omega

set_option maxRecDepth 100000 in
theorem rsecs_any (n : Nat) (w : World) (hn : n ≤ 100000) :
    Calls Try.prog 77 #[.int .i64 n] w fun q w' => q = .returned (.int .i64 (LogP.secs n : Nat)) ∧ w = w' := by
  by_cases h1 : 4000 < n
  · have hz := (LogP.secs_zero n).2 h1
    have HZ := hide hz
    have d1 : decide ((n : Int) < 0) = false := by simp
    have d2 : decide ((4000 : Int) < (n : Int)) = true := by simp; omega
    clear hz h1
    go_enter Try.func77, Try.ntmps77
    go_wp2_with fail
    go_ret
    exact ⟨by rw [HZ.out]; rfl, rfl⟩
  · have d1 : decide ((n : Int) < 0) = false := by simp
    have d2 : decide ((4000 : Int) < (n : Int)) = false := by simp; omega
    have hsl := LogP.secs_le n
    have hsp := LogP.secs_pos (n := n) (by omega)
    go_enter Try.func77, Try.ntmps77
    go_wp2_with fail
    go_loop [3] (fun kv => ∃ k : Nat, 1 ≤ k ∧ k ≤ LogP.secs n ∧ kv = .int .i64 k) (fun kv => 40 - (intOf kv).toNat)
    case atStart => exact ⟨1, Nat.le_refl _, hsp, rfl⟩
    case round =>
      obtain ⟨k, hk1, hk2, rfl⟩ := hrel
      have b1 : (1 : Int) ≤ (k : Int) := by omega
      have b2 : (k : Int) ≤ 32 := by omega
      by_cases hlt : 117 + 128 * (k - 1) < n
      · have hlt2 : (117 : Int) + 128 * ((k : Int) - 1) < (n : Int) := by omega
        have hs := secs_lo (by omega) hk1 hlt
        go_wp2_with fail
        go_round
        case rel => exact ⟨k + 1, by omega, hs, by go_num⟩
        case measure => simp [intOf]; omega
      · have hlt2 : ¬ (117 : Int) + 128 * ((k : Int) - 1) < (n : Int) := by omega
        have hs := secs_at (by omega) hk1 hlt hk2
        have HS := hide hs
        clear hs
        go_wp2_with fail
        go_ret
        exact ⟨by rw [← HS.out]; rfl, rfl⟩
end Go.Proofs.Yteoiadfcchalfaa
