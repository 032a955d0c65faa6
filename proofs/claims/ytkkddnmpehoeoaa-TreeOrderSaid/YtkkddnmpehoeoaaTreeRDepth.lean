/- The walk of layer 20's reference, Depth. -/
import Derived.Test.YtkkddnmpehoeoaaTreeBetween
namespace Go.Proofs.Ytkkddnmpehoeoaa
open Go.RowKit
open TreeP (Kt Cell kl flat flatL height heightL formP formsL betweenP riseB depthP)
set_option linter.unusedVariables false
attribute [local go_sem ↓] Go.wp_at_zero Go.wp_at_succ

/-- the first k are rising -/
def RiseTo (l : List Cell) (k : Nat) : Prop := ∀ j a b, j + 1 < k → l[j]? = some a → l[j + 1]? = some b → kl a.1 b.1 = true
theorem riseTo_one (l : List Cell) : RiseTo l 1 := fun j a b h _ _ => absurd h (by omega)
theorem riseTo_succ {l : List Cell} {k : Nat} {a b : Cell} (h : RiseTo l k) (h1 : 1 ≤ k) (ha : l[k - 1]? = some a) (hb : l[k]? = some b) (e : kl a.1 b.1 = true) : RiseTo l (k + 1) := by
  intro j x y hj hx hy
  rcases Nat.lt_or_ge (j + 1) k with h2 | h2
  · exact h j x y h2 hx hy
  · obtain rfl : k = j + 1 := by omega
    rw [Nat.add_sub_cancel] at ha
    rw [ha] at hx; rw [hb] at hy
    injection hx with hx; injection hy with hy
    rw [← hx, ← hy]; exact e
theorem riseTo_all {l : List Cell} (h : ∀ j a b, l[j]? = some a → l[j + 1]? = some b → kl a.1 b.1 = true) : riseB l = true := by
  induction l with
  | nil => rfl
  | cons x l ih =>
    cases l with
    | nil => rfl
    | cons y l =>
      rw [riseB, h 0 x y rfl rfl, Bool.true_and]
      exact ih fun j a b ha hb => h (j + 1) a b (by simpa using ha) (by simpa using hb)
theorem riseTo_end {l : List Cell} {k : Nat} (h : RiseTo l k) (hk : l.length ≤ k) : riseB l = true :=
  riseTo_all fun j a b ha hb => h j a b (by have := (List.getElem?_eq_some_iff.1 hb).1; omega) ha hb
theorem rise_no {l : List Cell} {k : Nat} {a b : Cell} (ha : l[k]? = some a) (hb : l[k + 1]? = some b) (e : kl a.1 b.1 = false) : riseB l = false := by
  rw [Bool.eq_false_iff]; intro h
  have key : ∀ (l : List Cell) (k : Nat) (a b : Cell), riseB l = true → l[k]? = some a → l[k + 1]? = some b → kl a.1 b.1 = true := by
    intro l
    induction l with
    | nil => intro k a b _ h; simp at h
    | cons x l ih =>
      intro k a b h ha hb
      cases l with
      | nil => simp at hb
      | cons y l =>
        rw [riseB, Bool.and_eq_true] at h
        cases k with
        | zero => simp at ha hb; subst ha hb; exact h.1
        | succ k => exact ih k a b h.2 (by simpa using ha) (by simpa using hb)
  rw [key l k a b h ha hb] at e; cases e

set_option maxRecDepth 100000 in
set_option maxHeartbeats 1600000 in
theorem rdepth_any (t : Kt) (v1 v2 v3 : Value) (w : World) (hkn : Kn w (fun _ => True) 1000 v1 v2 v3 t) (hht : height t ≤ 1000) (hlen : (flat t).length ≤ 1000000000) :
    Calls Try.prog 15 #[.agg #[v1, v2, v3]] w fun e w' => e = .returned (.int .i64 (depthP t : Nat)) ∧ Below w.heap.size w w' := by
  obtain ⟨R, hR⟩ : ∃ R, R = depthP t := ⟨_, rfl⟩
  rw [← hR]
  have HR := hide hR
  obtain ⟨A1, n1, c1, A2, n2, c2, A3, n3, c3, rfl, rfl, rfl⟩ := kn_shape hkn
  have hbA := (Below.refl w.heap.size w).alloc (Nat.le_refl _) (.cells #[.slice A1 n1 c1, .slice A2 n2 c2, .slice A3 n3 c3] 26)
  have hknA := hkn.below hbA
  have kB : BoxK (w.alloc (.cells #[.slice A1 n1 c1, .slice A2 n2 c2, .slice A3 n3 c3] 26)) w.heap.size (.slice A1 n1 c1) (.slice A2 n2 c2) (.slice A3 n3 c3) := blk_top rfl
  have hfl := form_le t true
  have HK := hide hknA
  have HA := hide hbA
  have KB := hide kB
  clear hkn hbA hknA kB hR
  go_enter Try.func15, Try.ntmps15
  go_wp2_with fail
  refine (rform_any t true _ _ _ _ HK.out hht).mono ?_
  rintro e w1 ⟨rfl, hb1⟩
  have kB1 := KB.out.below hb1
  obtain ⟨k1, k2, k3⟩ := kB1.cell
  have hkn1 := HK.out.below hb1
  have hbB := HA.out.trans (hb1.mono HA.out.size)
  have HK1 := hide hkn1
  have HB1 := hide hbB
  clear hkn1 hbB hb1 HK HA KB
  by_cases hf : formP true t = 0
  · have hx : R = 0 := by rw [HR.out, depthP, if_pos (.inl hf)]
    subst hx
    rw [hf]
    clear hf HR hfl
    go_wp2_with fail
    go_ret
    exact ⟨rfl, HB1.out⟩
  · have hbt := rbetween_any t true _ _ _ _ hf HK1.out hlen
    have HBT := hide hbt
    have hz : ((formP true t : Nat) == (0 : Int)) = false := by simp; omega
    have hv : R = if betweenP t = false ∨ riseB (flat t) = false then 0 else formP true t := by
      rw [HR.out, depthP]
      by_cases h : betweenP t = false ∨ riseB (flat t) = false
      · rw [if_pos (.inr h), if_pos h]
      · rw [if_neg (by rintro (h' | h'); exact hf h'; exact h h'), if_neg h]
    have HV := hide hv
    have hfp : formP true t ≤ 1000 := by omega
    generalize formP true t = F at *
    clear hbt hf HR hv hfl
    cases hbe : betweenP t with
    | false =>
      rw [hbe] at HV HBT
      have hx : R = 0 := by rw [HV.out, if_pos (.inl rfl)]
      subst hx
      clear hbe
      go_wp2_with fail
      refine HBT.out.mono ?_
      rintro e w2 ⟨rfl, hb2⟩
      have hbC := HB1.out.trans (hb2.mono HB1.out.size)
      clear hb2
      go_wp2_with fail
      go_ret
      exact ⟨rfl, hbC⟩
    | true =>
      rw [hbe] at HV HBT
      clear hbe
      go_wp2_with fail
      refine HBT.out.mono ?_
      rintro e w2 ⟨rfl, hb2⟩
      have hbC := HB1.out.trans (hb2.mono HB1.out.size)
      obtain ⟨p1, p2, p3⟩ := (kB1.below hb2).cell
      have HK2 := hide (HK1.out.below hb2)
      clear hb2 k1 k2 k3 HBT HK1 HB1
      go_wp2_with fail
      refine (rcells_any t _ _ _ _ HK2.out hlen).mono ?_
      rintro e w3 ⟨v, rfl, ho, hb3⟩
      obtain ⟨E, ec, rfl, se⟩ := ho.sl
      have hbD := hbC.trans (hb3.mono hbC.size)
      obtain ⟨n, hn⟩ : ∃ n, n = (flat t).length := ⟨_, rfl⟩
      generalize flat t = l at *
      rw [← hn] at se hlen ⊢
      have HN := hide hn
      clear hn ho hb3 p1 p2 p3 HK2 kB1 hbC
      go_wp2_with fail
      go_loopw [5] (fun i ws => ∃ (k : Nat), 1 ≤ k ∧ k ≤ n + 1 ∧ i = .int .i64 k ∧ RiseTo l k ∧ ∃ q, ws = w3.drewN q) (fun i _ => n - (intOf i).toNat)
      case atStart => exact ⟨1, Nat.le_refl _, by omega, rfl, riseTo_one _, 0, rfl⟩
      case round =>
        obtain ⟨k, hk1, hkn, rfl, hr, q, rfl⟩ := hrel
        have HRT := hide hr
        clear hr
        by_cases hlt : k < n
        · obtain ⟨ad, x, e, hx, hx1, hx2⟩ := se.cell (show k - 1 < n by omega)
          obtain ⟨ad', y, e', hy, hy1, hy2⟩ := se.cell hlt
          rw [e] at e'
          injection e' with e'
          subst e
          subst e'
          have HX := hide hx
          have HY := hide hy
          have zw : IntKind.i64.wrap ((k : Int) - 1) = ((k - 1 : Nat) : Int) := by rw [IntWalk.i64_in _ (by omega)]; omega
          have zg : (0 : Int) ≤ ((k - 1 : Nat) : Int) := by omega
          have zl : ((k - 1 : Nat) : Int) < (n : Int) := by omega
          have hgk : (0 : Int) ≤ (k : Int) := by omega
          have hgl : (k : Int) < (n : Int) := by omega
          clear hx hy se
          cases e1 : kl x.1 y.1 with
          | true =>
            have z2 : Op.bytesLess x.1.toList y.1.toList = true := e1
            have hp := hide (riseTo_succ HRT.out hk1 HX.out HY.out e1)
            go_wp2_with fail
            go_quiet (fail)
            go_wp2_with fail
            go_roundw
            case rel => exact ⟨k + 1, by omega, by omega, by go_num, hp.out, _, rfl⟩
            case measure => simp [intOf]; omega
          | false =>
            have z2 : Op.bytesLess x.1.toList y.1.toList = false := e1
            have hx0 : R = 0 := by rw [HV.out, if_pos (.inr (rise_no HX.out (by rw [show k - 1 + 1 = k by omega]; exact HY.out) e1))]
            subst hx0
            go_wp2_with fail
            go_quiet (fail)
            go_wp2_with fail
            go_ret
            exact ⟨rfl, below_drewN (below_drewN hbD _) _⟩
        · have hx : R = F := by rw [HV.out, if_neg (by rw [riseTo_end HRT.out (by have := HN.out; omega)]; simp)]
          subst hx
          have hgl : (n : Int) ≤ (k : Int) := by omega
          clear HRT HV
          go_wp2_with fail
          go_ret
          exact ⟨rfl, below_drewN hbD _⟩
end Go.Proofs.Ytkkddnmpehoeoaa
