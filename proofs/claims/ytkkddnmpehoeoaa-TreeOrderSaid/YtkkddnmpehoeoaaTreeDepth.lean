/- The walk of layer 20's Depth. -/
import Derived.Test.YtkkddnmpehoeoaaTreeAsk
namespace Go.Proofs.Ytkkddnmpehoeoaa
open Go.RowKit
open TreeP (Kt Cell kl flat flatL WS Inv InvL InB)
set_option linter.unusedVariables false
attribute [local go_sem ↓] Go.wp_at_zero Go.wp_at_succ

theorem first_inv {h : Nat} {lo hi : Option ByteArray} {ks : List ByteArray} {a : Kt} {l : List Kt} (H : InvL h lo hi ks (a :: l)) : ∃ hi', Inv 2 2 h lo hi' a := by
  cases ks with
  | nil => rw [TreeP.invL_nil] at H; exact ⟨_, H.2⟩
  | cons k ks => rw [TreeP.invL_cons] at H; exact ⟨_, H.1⟩

/-- Depth's answer -/
def depP (t : Kt) : Nat := if chkP t = 0 then TreeP.height t else 0

set_option maxRecDepth 100000 in
set_option maxHeartbeats 800000 in
theorem depth_any (t0 : Kt) (v1 v2 v3 : Value) (w : World) (hkn : Kn w (fun _ => True) 1000 v1 v2 v3 t0) :
    Calls Try.prog 18 #[.agg #[v1, v2, v3]] w fun e w' => e = .returned (.int .i64 (depP t0 : Nat)) ∧ Below w.heap.size w w' := by
  obtain ⟨D, hD⟩ : ∃ D, D = depP t0 := ⟨_, rfl⟩
  rw [← hD]
  obtain ⟨A1, n1, c1, A2, n2, c2, A3, n3, c3, rfl, rfl, rfl⟩ := kn_shape hkn
  have hbA := (Below.refl w.heap.size w).alloc (Nat.le_refl _) (.cells #[.slice A1 n1 c1, .slice A2 n2 c2, .slice A3 n3 c3] 26)
  have hknA := hkn.below hbA
  have kB : BoxK (w.alloc (.cells #[.slice A1 n1 c1, .slice A2 n2 c2, .slice A3 n3 c3] 26)) w.heap.size (.slice A1 n1 c1) (.slice A2 n2 c2) (.slice A3 n3 c3) := blk_top rfl
  have HK0 := hide hkn
  have HK := hide hknA
  have HA := hide hbA
  have KB := hide kB
  have HD := hide hD
  clear hkn hbA hknA kB hD
  go_enter Try.func18, Try.ntmps18
  go_wp2_with fail
  refine (check_any t0 _ _ _ _ ?_).mono ?_
  · exact kn_keep (by omega) (Nat.le_refl _) (fun _ _ _ => rfl) (fun b h _ => h) HK.out
  rintro e w1 ⟨rfl, hb1⟩
  have kB1 := KB.out.below hb1
  obtain ⟨k1, k2, k3⟩ := kB1.cell
  have hbB := HA.out.trans (hb1.mono HA.out.size)
  have HB1 := hide hbB
  clear hbB hb1 HA HK KB
  by_cases hc : chkP t0 = 0
  · obtain ⟨h0, H0, h64⟩ := chkP_ok.1 hc
    have hD : D = TreeP.height t0 := by rw [HD.out, depP, if_pos hc]
    have hh := TreeP.inv_height (by omega) H0
    have hx : D = h0 := by omega
    subst hx
    have HH0 := hide H0
    have hpos := TreeP.inv_pos (by omega) H0
    clear HD hD hh H0
    rw [hc]
    clear hc
    go_wp2_with fail
    clear k1 k2 k3
    go_loopg [3] D (fun k x wr => ∃ (t : Kt) (ml : Nat) (lo hi : Option ByteArray) (v1 v2 v3 : Value), k ≤ D ∧ x = .int .i64 ((D - k + 1 : Nat)) ∧ Inv ml 2 k lo hi t ∧ Kn w (fun _ => True) 1000 v1 v2 v3 t ∧ BoxK wr w.heap.size v1 v2 v3 ∧ Below w.heap.size w wr)
    case atStart => exact ⟨t0, 0, none, none, _, _, _, Nat.le_refl _, by simp, HH0.out, HK0.out, kB1, HB1.out⟩
    case round =>
      clear HH0 HK0 kB1 HB1
      obtain ⟨t, ml, lo, hi, v1, v2, v3, hkD, rfl, H, hkn, hB, hb⟩ := hrel
      obtain ⟨cells, keys, kids⟩ := t
      obtain ⟨hd1, hd2, hd3⟩ := hB.cell
      obtain ⟨⟨A1, c1, rfl, g1, _, s1⟩, ⟨A2, c2, rfl, g2, _, s2⟩, A3, c3, vals, rfl, g3, _, s3, k3⟩ := kn_mk.1 hkn
      cases kids with
      | nil =>
        obtain ⟨rfl, rfl, h1, h2, h3, h4⟩ := TreeP.inv_leaf H (by omega)
        simp only [List.length_nil] at hB hd2 hd3
        clear h4 H s2 s3 k3 hkn
        have hx : D - 1 + 1 = D := by omega
        rw [hx]
        go_wp2_with fail
        go_ret
        exact ⟨rfl, hb⟩
      | cons kid kids =>
        obtain ⟨rfl, h1, h2, h3, h4⟩ := TreeP.inv_inner H
        obtain ⟨hi', x3⟩ := first_inv h4
        have hfr0 := hB.frozen 0
        have hfr1 := hB.frozen 1
        have hfr2 := hB.frozen 2
        have x1 : (kid :: kids)[0]? = some kid := rfl
        clear h4 H
        generalize kid :: kids = kds at *
        obtain ⟨ad, w1, w2, w3, e, f1, f2, f3, f4⟩ := kid_at s3 k3 x1
        subst e
        obtain ⟨B1, n1, d1, B2, n2, d2, B3, n3, d3, rfl, rfl, rfl⟩ := kn_shape f4
        have hil : 0 < kds.length := (List.getElem?_eq_some_iff.1 x1).1
        have hpos : (0 : Int) < (kds.length : Int) := by omega
        have HX3 := hide x3
        have F4 := hide f4
        have ea : ad.add (0 * 3) = ad := by cases ad; simp [Addr.add]
        rw [ea] at f1 f2 f3
        have f1r := cell_next f1 hb
        have f2r := cell_next f2 hb
        have f3r := cell_next f3 hb
        have hD64 : IntKind.i64.wrap (((D - gk + 1 : Nat) : Int) + 1) = ((D - gk + 1 : Nat) : Int) + 1 := IntWalk.i64_in _ (by omega)
        clear x3 x1 hkn f1 f2 f3 f4 s1 s2 s3 k3
        go_wp2_with fail
        go_roundg (gk - 1)
        case measure => omega
        case rel => exact ⟨kid, 2, lo, hi', _, _, _, by omega, by go_num, HX3.out, F4.out, hB.set, (((hb).setCell (Nat.le_refl _) _).setCell (Nat.le_refl _) _).setCell (Nat.le_refl _) _⟩
  · have h1 : D = 0 := by rw [HD.out, depP, if_neg hc]
    subst h1
    have hc1 := chkP_no hc
    rw [hc1]
    clear HD hc hc1
    go_wp2_with fail
    go_ret
    exact ⟨rfl, HB1.out⟩
end Go.Proofs.Ytkkddnmpehoeoaa
