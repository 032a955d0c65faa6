/- The walks of layer 20's Check and Get. -/
import Derived.Test.YtkkddnmpehoeoaaTreeKnot
namespace Go.Proofs.Ytkkddnmpehoeoaa
open Go.RowKit
open TreeP (Kt Cell kl flat flatL WS Inv InB)
set_option linter.unusedVariables false
attribute [local go_sem ↓] Go.wp_at_zero Go.wp_at_succ

/-- Check's answer -/
def chkP (t : Kt) : Int := if (TreeP.knotW 1 TreeP.ws0 t).isSome then 0 else 1

set_option maxRecDepth 100000 in
set_option maxHeartbeats 800000 in
theorem check_any (t : Kt) (v1 v2 v3 : Value) (w : World) (hkn : Kn w (fun _ => True) 9223372036854775807 v1 v2 v3 t) :
    Calls Try.prog 16 #[.agg #[v1, v2, v3]] w fun e w' => e = .returned (.int .i64 (chkP t)) ∧ Below w.heap.size w w' := by
  obtain ⟨A1, n1, c1, A2, n2, c2, A3, n3, c3, rfl, rfl, rfl⟩ := kn_shape hkn
  have hkn' : Kn w (fun k => k < w.heap.size) 9223372036854775807 (.slice A1 n1 c1) (.slice A2 n2 c2) (.slice A3 n3 c3) t := kn_keep (Nat.le_refl _) (Nat.le_refl _) (fun b _ _ => rfl) (fun b _ hlt => hlt) hkn
  have hbA := ((Below.refl w.heap.size w).alloc (Nat.le_refl _) (.cells #[.slice A1 n1 c1, .slice A2 n2 c2, .slice A3 n3 c3] 26)).alloc (by simp) (.cells #[.int .i64 0, .bool false, .string .empty, .string .empty] 63)
  have hknA := hkn'.below hbA
  have hB : BoxW ((w.alloc (.cells #[.slice A1 n1 c1, .slice A2 n2 c2, .slice A3 n3 c3] 26)).alloc (.cells #[.int .i64 0, .bool false, .string .empty, .string .empty] 63)) (w.heap.size + 1) TreeP.ws0 := by
    exact blk_top (by simp)
  have HB := hide hB
  have HK := hide hknA
  have HA := hide hbA
  clear hkn hkn' hbA hknA hB
  go_enter Try.func16, Try.ntmps16
  go_wp2_with fail
  refine (knot_any t (w.heap.size + 1) TreeP.ws0 _ _ _ 1 (fun k => k < w.heap.size) _ ?_ ?_ (fun k hk => by omega) (by omega) (by simp [TreeP.ws0])).mono ?_
  · exact HB.out
  · exact HK.out
  rintro e w' ⟨rfl, q2, q3, q4⟩
  have hb := HA.out.grown q4 (by simp; omega) (by intro k hk; injection hk with hk; omega)
  have HBB := hide hb
  clear q2 q3 q4 hb
  cases hkw : (TreeP.knotW 1 TreeP.ws0 t).isSome with
  | false =>
    have hc : chkP t = 1 := by unfold chkP; rw [hkw]; rfl
    clear hkw
    go_wp2_with fail
    go_ret
    exact ⟨by rw [hc]; rfl, HBB.out⟩
  | true =>
    have hc : chkP t = 0 := by unfold chkP; rw [hkw]; rfl
    clear hkw
    go_wp2_with fail
    go_ret
    exact ⟨by rw [hc]; rfl, HBB.out⟩

theorem chkP_ok {t : Kt} : chkP t = 0 ↔ ∃ h, Inv 0 2 h none none t ∧ h ≤ 64 := by
  rw [← TreeP.check_iff]
  unfold chkP
  split <;> simp_all
theorem chkP_no {t : Kt} (h : chkP t ≠ 0) : chkP t = 1 := by
  unfold chkP at *
  split <;> simp_all

set_option maxRecDepth 100000 in
set_option maxHeartbeats 800000 in
theorem get_any (t : Kt) (key : ByteArray) (v1 v2 v3 : Value) (w : World) (hkn : Kn w (fun _ => True) 1000 v1 v2 v3 t) :
    Calls Try.prog 14 #[.agg #[v1, v2, v3], .string key] w fun e w' => e = .returned (.tuple #[.string (if chkP t = 0 then (TreeP.findP key t).getD .empty else .empty), .int .i64 (if chkP t = 0 then (if (TreeP.findP key t).isSome then 0 else 6) else 1)]) ∧ Below w.heap.size w w' := by
  obtain ⟨S, hS⟩ : ∃ S, S = (if chkP t = 0 then (TreeP.findP key t).getD .empty else .empty) := ⟨_, rfl⟩
  obtain ⟨E, hE⟩ : ∃ E : Int, E = (if chkP t = 0 then (if (TreeP.findP key t).isSome then 0 else 6) else 1) := ⟨_, rfl⟩
  rw [← hS, ← hE]
  have HS := hide hS
  have HE := hide hE
  clear hS hE
  obtain ⟨A1, n1, c1, A2, n2, c2, A3, n3, c3, rfl, rfl, rfl⟩ := kn_shape hkn
  have hbA := (Below.refl w.heap.size w).alloc (Nat.le_refl _) (.cells #[.slice A1 n1 c1, .slice A2 n2 c2, .slice A3 n3 c3] 26)
  have hknA := hkn.below hbA
  have kB : BoxK (w.alloc (.cells #[.slice A1 n1 c1, .slice A2 n2 c2, .slice A3 n3 c3] 26)) w.heap.size (.slice A1 n1 c1) (.slice A2 n2 c2) (.slice A3 n3 c3) := blk_top rfl
  have HK := hide hknA
  have HA := hide hbA
  have KB := hide kB
  clear hkn hbA hknA kB
  go_enter Try.func14, Try.ntmps14
  go_wp2_with fail
  refine (check_any t _ _ _ _ ?_).mono ?_
  · exact kn_keep (by omega) (Nat.le_refl _) (fun _ _ _ => rfl) (fun b h _ => h) HK.out
  rintro e w1 ⟨rfl, hb1⟩
  obtain ⟨k1, k2, k3⟩ := (KB.out.below hb1).cell
  have hkn1 := HK.out.below hb1
  have hbB := HA.out.trans (hb1.mono HA.out.size)
  have HK1 := hide hkn1
  have HB1 := hide hbB
  clear hkn1 hbB hb1
  by_cases hc : chkP t = 0
  · obtain ⟨h, H, _⟩ := chkP_ok.1 hc
    have HC := hide hc
    go_wp2_with fail
    refine (find_any key t 0 h none none _ _ _ _ H (TreeP.inB_none _) HK1.out).mono ?_
    rintro e w2 ⟨rfl, hb2⟩
    have hbC := HB1.out.trans (hb2.mono HB1.out.size)
    clear hb2 H hc
    cases hf : TreeP.findP key t with
    | none =>
      have h1 : S = .empty := by rw [HS.out, if_pos HC.out, hf]; rfl
      have h2 : E = 6 := by rw [HE.out, if_pos HC.out, hf]; rfl
      subst h1 h2
      clear hf
      go_wp2_with fail
      go_ret2
      exact ⟨rfl, hbC⟩
    | some v =>
      have h1 : S = v := by rw [HS.out, if_pos HC.out, hf]; rfl
      have h2 : E = 0 := by rw [HE.out, if_pos HC.out, hf]; rfl
      subst h1 h2
      clear hf
      go_wp2_with fail
      go_ret2
      exact ⟨rfl, hbC⟩
  · have hc1 := chkP_no hc
    have h1 : S = .empty := by rw [HS.out, if_neg hc]
    have h2 : E = 1 := by rw [HE.out, if_neg hc]
    subst h1 h2
    clear hc
    go_wp2_with fail
    go_ret2
    exact ⟨rfl, HB1.out⟩
end Go.Proofs.Ytkkddnmpehoeoaa
