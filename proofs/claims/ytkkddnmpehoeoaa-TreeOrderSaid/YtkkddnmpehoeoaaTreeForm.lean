/- The walk of layer 20's reference, form. -/
import Derived.Test.YtkkddnmpehoeoaaTreeRCells
namespace Go.Proofs.Ytkkddnmpehoeoaa
open Go.RowKit
open TreeP (Kt Cell kl flat flatL height heightL formP formsL)
set_option linter.unusedVariables false
attribute [local go_sem ↓] Go.wp_at_zero Go.wp_at_succ

theorem forms_map (l : List Kt) : formsL l = l.map (formP false) := by
  induction l with
  | nil => rw [formsL]; rfl
  | cons a l ih => rw [formsL, ih]; rfl
theorem form_le (t : Kt) : ∀ root, formP root t ≤ height t := by
  refine TreeP.ind (P := fun t => ∀ root, formP root t ≤ height t) ?_ t
  intro cells keys kids ih root
  rw [formP, height]
  split
  · split <;> omega
  · split
    · omega
    · rw [forms_map]
      cases kids with
      | nil => simp
      | cons a l =>
        simp only [List.map_cons]
        have h1 := ih a List.mem_cons_self false
        have h2 : height a ≤ heightL (a :: l) := TreeP.height_mem List.mem_cons_self
        split
        · split <;> omega
        · omega

/-- what is still to be looked at of a knot's kids comes to R -/
def FormGo (kids : List Kt) (k deep R : Nat) : Prop := R = if ((kids.drop k).map (formP false)).all (fun x => decide (x = deep)) then (if deep = 0 then 0 else deep + 1) else 0
theorem formGo_start {root : Bool} {cells : List Cell} {keys : List ByteArray} {kids : List Kt} {a : Kt} (h0 : kids[0]? = some a) (h : ¬ (0 < cells.length ∨ kids.length < 2 ∨ 4 < kids.length ∨ keys.length + 1 ≠ kids.length)) :
    FormGo kids 1 (formP false a) (formP root (.mk cells keys kids)) := by
  cases kids with
  | nil => simp at h0
  | cons b l =>
    simp only [List.getElem?_cons_zero, Option.some.injEq] at h0
    subst h0
    unfold FormGo
    rw [formP, if_neg (by simp), if_neg h, forms_map]
    simp
theorem formGo_no {kids : List Kt} {k deep R : Nat} {x : Kt} (h : FormGo kids k deep R) (hx : kids[k]? = some x) (e : formP false x ≠ deep) : R = 0 := by
  have h1 : k < kids.length := (List.getElem?_eq_some_iff.1 hx).1
  have h2 : kids[k] = x := (List.getElem?_eq_some_iff.1 hx).2
  unfold FormGo at h
  rw [List.drop_eq_getElem_cons h1, h2, List.map_cons, List.all_cons, decide_eq_false e, Bool.false_and] at h
  simpa using h
theorem formGo_yes {kids : List Kt} {k deep R : Nat} {x : Kt} (h : FormGo kids k deep R) (hx : kids[k]? = some x) (e : formP false x = deep) : FormGo kids (k + 1) deep R := by
  have h1 : k < kids.length := (List.getElem?_eq_some_iff.1 hx).1
  have h2 : kids[k] = x := (List.getElem?_eq_some_iff.1 hx).2
  unfold FormGo at *
  rw [List.drop_eq_getElem_cons h1, h2, List.map_cons, List.all_cons, decide_eq_true e, Bool.true_and] at h
  exact h
theorem formGo_end {kids : List Kt} {deep R : Nat} (h : FormGo kids kids.length deep R) : R = if deep = 0 then 0 else deep + 1 := by
  unfold FormGo at h
  rw [List.drop_length] at h
  simpa using h
theorem form_leaf {root : Bool} {cells : List Cell} {keys : List ByteArray} : formP root (.mk cells keys []) = if 0 < keys.length ∨ 4 < cells.length ∨ (root = false ∧ cells.length < 2) then 0 else 1 := by
  rw [formP]; simp
theorem form_bad {root : Bool} {cells : List Cell} {keys : List ByteArray} {kids : List Kt} (hne : kids ≠ []) (h : 0 < cells.length ∨ kids.length < 2 ∨ 4 < kids.length ∨ keys.length + 1 ≠ kids.length) : formP root (.mk cells keys kids) = 0 := by
  rw [formP, if_neg (by simpa using hne), if_pos h]

set_option maxRecDepth 100000 in
set_option maxHeartbeats 1600000 in
theorem rform_any (t : Kt) : ∀ (root : Bool) (v1 v2 v3 : Value) (w : World), Kn w (fun _ => True) 1000 v1 v2 v3 t → height t ≤ 1000 →
    Calls Try.prog 29 #[.agg #[v1, v2, v3], .bool root] w fun e w' => e = .returned (.int .i64 (formP root t : Nat)) ∧ Below w.heap.size w w' := by
  refine TreeP.ind (P := fun t => ∀ (root : Bool) (v1 v2 v3 : Value) (w : World), Kn w (fun _ => True) 1000 v1 v2 v3 t → height t ≤ 1000 →
    Calls Try.prog 29 #[.agg #[v1, v2, v3], .bool root] w fun e w' => e = .returned (.int .i64 (formP root t : Nat)) ∧ Below w.heap.size w w') ?_ t
  intro cells keys kids ih root v1 v2 v3 w hkn hht
  obtain ⟨R, hR⟩ : ∃ R, R = formP root (.mk cells keys kids) := ⟨_, rfl⟩
  rw [← hR]
  obtain ⟨⟨A1, c1, rfl, g1, g1', s1⟩, ⟨A2, c2, rfl, g2, g2', s2⟩, A3, c3, vals, rfl, g3, g3', s3, k3⟩ := kn_mk.1 hkn
  obtain ⟨nc, hnc⟩ : ∃ nc, nc = cells.length := ⟨_, rfl⟩
  obtain ⟨nk, hnk⟩ : ∃ nk, nk = keys.length := ⟨_, rfl⟩
  obtain ⟨nd, hnd⟩ : ∃ nd, nd = kids.length := ⟨_, rfl⟩
  rw [← hnc] at g1 g1' s1 ⊢
  rw [← hnk] at g2 g2' s2 ⊢
  rw [← hnd] at g3 g3' s3 ⊢
  have hbA : Below w.heap.size w (w.alloc (.cells #[.slice A1 nc c1, .slice A2 nk c2, .slice A3 nd c3] 26)) := (Below.refl _ w).alloc (Nat.le_refl _) _
  have kB : BoxK (w.alloc (.cells #[.slice A1 nc c1, .slice A2 nk c2, .slice A3 nd c3] 26)) w.heap.size (.slice A1 nc c1) (.slice A2 nk c2) (.slice A3 nd c3) := blk_top rfl
  have s3A := s3.below hbA
  have k3A := k3.below hbA
  have S3 := hide s3
  have K3 := hide k3
  have IH := hide ih
  have HR := hide hR
  have HNC := hide hnc
  have HNK := hide hnk
  have HND := hide hnd
  have HHT := hide hht
  rw [height] at hht
  clear hkn s1 s2 s3 k3 ih hR
  go_enter Try.func29, Try.ntmps29
  obtain ⟨q1, q2, q3⟩ := kB.cell
  by_cases hd0 : nd = 0
  · obtain rfl : kids = [] := List.eq_nil_of_length_eq_zero (by omega)
    have hv := HR.out
    rw [form_leaf] at hv
    subst hd0
    have z1 : ((0 : Nat) : Int) = 0 := rfl
    clear hnd HND S3 K3 s3A k3A IH HR hht HHT g3 g3'
    rcases Nat.eq_zero_or_pos nk with h1 | h1
    rotate_left
    · have h1' : (0 : Int) < (nk : Int) := by omega
      have hv2 : R = 0 := by rw [hv, if_pos (by omega)]
      subst hv2
      clear hv hnc hnk HNC HNK
      go_wp2_with fail
      go_ret
      exact ⟨rfl, hbA⟩
    · subst h1
      by_cases h2 : (4 : Int) < (nc : Int)
      · skip
        have hv2 : R = 0 := by rw [hv, if_pos (by omega)]
        subst hv2
        clear hv hnc hnk HNC HNK
        go_wp2_with fail
        go_ret
        exact ⟨rfl, hbA⟩
      · cases root with
        | true =>
          have hv2 : R = 1 := by rw [hv, if_neg (by rintro (h | h | ⟨h, h'⟩) <;> first | omega | cases h)]
          subst hv2
          clear hv hnc hnk HNC HNK
          go_wp2_with fail
          go_ret
          exact ⟨rfl, hbA⟩
        | false =>
          by_cases h3 : (nc : Int) < 2
          · skip
            have hv2 : R = 0 := by rw [hv, if_pos (.inr (.inr ⟨rfl, by omega⟩))]
            subst hv2
            clear hv hnc hnk HNC HNK
            go_wp2_with fail
            go_ret
            exact ⟨rfl, hbA⟩
          · skip
            have hv2 : R = 1 := by rw [hv, if_neg (by rintro (h | h | ⟨h, h'⟩) <;> first | omega | cases h)]
            subst hv2
            clear hv hnc hnk HNC HNK
            go_wp2_with fail
            go_ret
            exact ⟨rfl, hbA⟩
  · have hne : kids ≠ [] := by intro e; rw [e] at hnd; simp at hnd; omega
    have z1 : ((nd : Int) == 0) = false := by simp; omega
    rcases Nat.eq_zero_or_pos nc with h1 | h1
    rotate_left
    · have h1' : (0 : Int) < (nc : Int) := by omega
      have hv2 : R = 0 := by rw [HR.out]; exact form_bad hne (by omega)
      subst hv2
      clear hnc hnk hnd HNC HNK HND S3 K3 s3A k3A IH HR hht HHT hne
      go_wp2_with fail
      go_ret
      exact ⟨rfl, hbA⟩
    · subst h1
      by_cases h2 : (nd : Int) < 2
      · skip
        have hv2 : R = 0 := by rw [HR.out]; exact form_bad hne (by omega)
        subst hv2
        clear hnc hnk hnd HNC HNK HND S3 K3 s3A k3A IH HR hht HHT hne
        go_wp2_with fail
        go_ret
        exact ⟨rfl, hbA⟩
      · by_cases h3 : (4 : Int) < (nd : Int)
        · skip
          have hv2 : R = 0 := by rw [HR.out]; exact form_bad hne (by omega)
          subst hv2
          clear hnc hnk hnd HNC HNK HND S3 K3 s3A k3A IH HR hht HHT hne
          go_wp2_with fail
          go_ret
          exact ⟨rfl, hbA⟩
        · have hw : IntKind.i64.wrap ((nd : Int) - 1) = (nd : Int) - 1 := IntWalk.i64_in _ (by omega)
          by_cases h4 : (nk : Int) = (nd : Int) - 1
          · have z4 : ((nk : Int) != (nd : Int) - 1) = false := by simp; omega
            obtain ⟨kid, hkid⟩ : ∃ kid, kids[0]? = some kid := ⟨_, List.getElem?_eq_getElem (by omega)⟩
            obtain ⟨ad, x1, x2, x3, e, f1, f2, f3, f4⟩ := kid_at s3A k3A hkid
            subst e
            obtain ⟨B1, m1, d1, B2, m2, d2, B3, m3, d3, rfl, rfl, rfl⟩ := kn_shape f4
            have ea : ad.add (0 * 3) = ad := by cases ad; simp [Addr.add]
            rw [ea] at f1 f2 f3
            have hh0 := TreeP.height_mem (List.mem_of_getElem? hkid)
            have hc := IH.out kid (List.mem_of_getElem? hkid) false _ _ _ _ f4 (by omega)
            have hfl := form_le kid false
            have hgo := formGo_start (root := root) (cells := cells) (keys := keys) hkid (by omega)
            rw [← HR.out] at hgo
            generalize hdp : formP false kid = deep at *
            have HC := hide hc
            have HGO := hide hgo
            have HDP := hide hdp
            have hdb : deep ≤ 1000 := by omega
            clear hnc hnk hnd s3A k3A hkid f4 ea hh0 hc hfl hgo hdp HR hne HNC HNK
            go_wp2_with fail
            refine HC.out.mono ?_
            rintro e w1 ⟨rfl, hb1⟩
            have kB1 := kB.below hb1
            have hbw := hbA.trans (hb1.mono hbA.size)
            have hsz : w.heap.size < w1.heap.size := (Array.getElem?_eq_some_iff.1 kB1).1
            clear q1 q2 q3 f1 f2 f3 kB hbA hb1 HC HDP
            go_wp2_with fail
            go_loopw [6] (fun i wr => ∃ (k : Nat), 1 ≤ k ∧ k ≤ nd ∧ i = .int .i64 k ∧ FormGo kids k deep R ∧ Below w1.heap.size w1 wr) (fun i _ => nd - (intOf i).toNat)
            case atStart => exact ⟨1, Nat.le_refl _, by omega, rfl, HGO.out, Below.refl _ _⟩
            case round =>
              clear HGO
              obtain ⟨k, hk1, hk, rfl, hgo, hb⟩ := hrel
              have HGO := hide hgo
              have kBr := kB1.below hb
              have hbr := hbw.trans (hb.mono hbw.size)
              obtain ⟨q1, q2, q3⟩ := kBr.cell
              clear hgo
              by_cases hlt : k < nd
              · obtain ⟨kid2, hkid⟩ : ∃ kid, kids[k]? = some kid := ⟨_, List.getElem?_eq_getElem (by have := HND.out; omega)⟩
                obtain ⟨ad2, x1, x2, x3, e, f1, f2, f3, f4⟩ := kid_at (S3.out.below hbr) (K3.out.below hbr) hkid
                injection e with e
                subst e
                obtain ⟨D1, o1, r1, D2, o2, r2, D3, o3, r3, rfl, rfl, rfl⟩ := kn_shape f4
                have hh0 := TreeP.height_mem (List.mem_of_getElem? hkid)
                have hc := IH.out kid2 (List.mem_of_getElem? hkid) false _ _ _ _ f4 (by omega)
                have hfl := form_le kid2 false
                have hno := formGo_no HGO.out hkid
                have hyes := formGo_yes HGO.out hkid
                generalize hdp : formP false kid2 = d2 at *
                have hd2b : d2 ≤ 1000 := by omega
                have HC := hide hc
                have HNO := hide hno
                have HYES := hide hyes
                have hge : (0 : Int) ≤ (k : Int) := by omega
                have hgl : (k : Int) < (nd : Int) := by omega
                clear hkid f4 hh0 hc hfl hno hyes hdp S3 K3 IH HGO HND HHT hht
                by_cases hde : d2 = deep
                · have z5 : ((d2 : Int) != (deep : Int)) = false := by simp [hde]
                  have hy := hide (HYES.out hde)
                  clear hde HNO HYES
                  go_wp2_with fail
                  refine HC.out.mono ?_
                  rintro e w2 ⟨rfl, hb2⟩
                  have hb2' := hb.trans (hb2.mono hb.size)
                  clear HC q1 q2 q3 f1 f2 f3
                  go_wp2_with fail
                  go_roundw
                  case rel => exact ⟨k + 1, by omega, by omega, by go_num, hy.out, hb2'⟩
                  case measure => simp [intOf]; omega
                · have z5 : ((d2 : Int) != (deep : Int)) = true := by simp; omega
                  have hR0 := HNO.out hde
                  subst hR0
                  clear hde HNO HYES
                  go_wp2_with fail
                  refine HC.out.mono ?_
                  rintro e w2 ⟨rfl, hb2⟩
                  have hb2' := hbr.trans (hb2.mono hbr.size)
                  clear HC q1 q2 q3 f1 f2 f3
                  go_wp2_with fail
                  go_ret
                  exact ⟨rfl, hb2'⟩
              · obtain rfl : k = nd := by omega
                have hg := HGO.out
                rw [HND.out] at hg
                have hv := formGo_end hg
                clear hg HGO S3 K3 IH
                by_cases hz : deep = 0
                · rw [if_pos hz] at hv
                  subst hz hv
                  go_wp2_with fail
                  go_ret
                  exact ⟨rfl, hbr⟩
                · rw [if_neg hz] at hv
                  subst hv
                  have z5 : ((deep : Int) == 0) = false := by simp; omega
                  go_wp2_with fail
                  go_ret
                  exact ⟨ret_int (by go_num), hbr⟩
          · have z4 : ((nk : Int) != (nd : Int) - 1) = true := by simp; omega
            have hv2 : R = 0 := by rw [HR.out]; exact form_bad hne (by omega)
            subst hv2
            clear hnc hnk hnd HNC HNK HND S3 K3 s3A k3A IH HR hht HHT hne
            go_wp2_with fail
            go_ret
            exact ⟨rfl, hbA⟩
end Go.Proofs.Ytkkddnmpehoeoaa
