/- The walk of layer 20's reference, between. -/
import Derived.Test.YtkkddnmpehoeoaaTreeForm
namespace Go.Proofs.Ytkkddnmpehoeoaa
open Go.RowKit
open TreeP (Kt Cell kl flat flatL height heightL formP formsL betweenP betweenL inBb)
set_option linter.unusedVariables false
attribute [local go_sem ↓] Go.wp_at_zero Go.wp_at_succ

/-- the key ahead of a kid -/
def prevK (keys : List ByteArray) (k : Nat) : Option ByteArray := if k = 0 then none else keys[k - 1]?
/-- what is still to be looked at of a knot's kids comes to R -/
def BetGo (keys : List ByteArray) (kids : List Kt) (k : Nat) (R : Bool) : Prop := R = betweenL (prevK keys k) (keys.drop k) (kids.drop k)
theorem betGo_start (cells : List Cell) (keys : List ByteArray) (kids : List Kt) : BetGo keys kids 0 (betweenP (.mk cells keys kids)) := by
  unfold BetGo; rw [betweenP]; rfl
theorem betGo_end {keys : List ByteArray} {kids : List Kt} {R : Bool} (h : BetGo keys kids kids.length R) : R = true := by
  unfold BetGo at h; rw [h, List.drop_length, betweenL]
theorem betGo_at {keys : List ByteArray} {kids : List Kt} {k : Nat} {R : Bool} {x : Kt} (h : BetGo keys kids k R) (hx : kids[k]? = some x) :
    ∃ R', BetGo keys kids (k + 1) R' ∧ R = ((flat x).all (inBb (prevK keys k) keys[k]?) && betweenP x && R') := by
  have h1 : k < kids.length := (List.getElem?_eq_some_iff.1 hx).1
  have h2 : kids[k] = x := (List.getElem?_eq_some_iff.1 hx).2
  unfold BetGo at *
  rw [List.drop_eq_getElem_cons h1, h2, betweenL, List.head?_drop, List.tail_drop] at h
  refine ⟨_, rfl, ?_⟩
  rw [h]
  unfold prevK
  rw [if_neg (Nat.succ_ne_zero k), Nat.add_sub_cancel]
theorem form_shape {root : Bool} {cells : List Cell} {keys : List ByteArray} {kids : List Kt} (h : formP root (.mk cells keys kids) ≠ 0) (hne : kids ≠ []) :
    keys.length + 1 = kids.length ∧ 2 ≤ kids.length ∧ ∀ k ∈ kids, formP false k ≠ 0 := by
  rw [formP, if_neg (by simpa using hne)] at h
  split at h
  · exact absurd rfl h
  · rename_i h1
    refine ⟨by omega, by omega, ?_⟩
    rw [forms_map] at h
    cases kids with
    | nil => exact absurd rfl hne
    | cons a l =>
      simp only [List.map_cons] at h
      split at h
      · rename_i h2
        split at h
        · exact absurd rfl h
        · rename_i h3
          intro k hk
          rcases List.mem_cons.1 hk with rfl | hk
          · exact h3
          · rw [List.all_eq_true] at h2
            have := h2 _ (List.mem_map.2 ⟨k, hk, rfl⟩)
            rw [decide_eq_true_eq] at this
            rw [this]; exact h3
      · exact absurd rfl h
theorem all_no {p : Cell → Bool} {l : List Cell} {j : Nat} {x : Cell} (hx : l[j]? = some x) (h : p x = false) : l.all p = false := by
  rw [Bool.eq_false_iff]; intro h2
  rw [List.all_eq_true] at h2
  rw [h2 x (List.mem_of_getElem? hx)] at h; cases h
/-- the first ones are as they must be -/
def AllTo (p : Cell → Bool) (l : List Cell) (j : Nat) : Prop := ∀ i x, i < j → l[i]? = some x → p x = true
theorem allTo_zero (p : Cell → Bool) (l : List Cell) : AllTo p l 0 := fun i x h _ => absurd h (by omega)
theorem allTo_succ {p : Cell → Bool} {l : List Cell} {j : Nat} {x : Cell} (h : AllTo p l j) (hx : l[j]? = some x) (hp : p x = true) : AllTo p l (j + 1) := by
  intro i y hi hy
  rcases Nat.lt_or_ge i j with h1 | h1
  · exact h i y h1 hy
  · obtain rfl : i = j := by omega
    rw [hx] at hy; injection hy with hy; rw [← hy]; exact hp
theorem allTo_all {p : Cell → Bool} {l : List Cell} (h : AllTo p l l.length) : l.all p = true := by
  rw [List.all_eq_true]; intro x hx
  obtain ⟨i, hi, rfl⟩ := List.getElem_of_mem hx
  exact h i _ hi (List.getElem?_eq_getElem hi)
theorem inBb_none_some (k : ByteArray) (c : Cell) : inBb none (some k) c = kl c.1 k := by simp [inBb]
theorem inBb_some_some (k k' : ByteArray) (c : Cell) : inBb (some k) (some k') c = (!kl c.1 k && kl c.1 k') := by simp [inBb]
theorem inBb_some_none (k : ByteArray) (c : Cell) : inBb (some k) none c = !kl c.1 k := by simp [inBb]

set_option maxRecDepth 100000 in
set_option maxHeartbeats 3200000 in
theorem rbetween_any (t : Kt) : ∀ (root : Bool) (v1 v2 v3 : Value) (w : World), formP root t ≠ 0 → Kn w (fun _ => True) 1000 v1 v2 v3 t → (flat t).length ≤ 1000000000 →
    Calls Try.prog 30 #[.agg #[v1, v2, v3]] w fun e w' => e = .returned (.bool (betweenP t)) ∧ Below w.heap.size w w' := by
  refine TreeP.ind (P := fun t => ∀ (root : Bool) (v1 v2 v3 : Value) (w : World), formP root t ≠ 0 → Kn w (fun _ => True) 1000 v1 v2 v3 t → (flat t).length ≤ 1000000000 →
    Calls Try.prog 30 #[.agg #[v1, v2, v3]] w fun e w' => e = .returned (.bool (betweenP t)) ∧ Below w.heap.size w w') ?_ t
  intro cells keys kids ih root v1 v2 v3 w hform hkn hlen
  obtain ⟨R0, hR0⟩ : ∃ R, R = betweenP (.mk cells keys kids) := ⟨_, rfl⟩
  have hgo0 := betGo_start cells keys kids
  rw [← hR0] at hgo0 ⊢
  obtain ⟨⟨A1, c1, rfl, g1, g1', s1⟩, ⟨A2, c2, rfl, g2, g2', s2⟩, A3, c3, vals, rfl, g3, g3', s3, k3⟩ := kn_mk.1 hkn
  have hsh : kids ≠ [] → keys.length + 1 = kids.length ∧ 2 ≤ kids.length ∧ ∀ k ∈ kids, formP false k ≠ 0 := fun h => form_shape hform h
  obtain ⟨nk, hnk⟩ : ∃ nk, nk = keys.length := ⟨_, rfl⟩
  obtain ⟨nd, hnd⟩ : ∃ nd, nd = kids.length := ⟨_, rfl⟩
  generalize cells.length = nc at *
  rw [← hnk] at g2 g2' s2 hsh ⊢
  rw [← hnd] at g3 g3' s3 hsh ⊢
  rw [flat, List.length_append] at hlen
  have hbA : Below w.heap.size w (w.alloc (.cells #[.slice A1 nc c1, .slice A2 nk c2, .slice A3 nd c3] 26)) := (Below.refl _ w).alloc (Nat.le_refl _) _
  have kB : BoxK (w.alloc (.cells #[.slice A1 nc c1, .slice A2 nk c2, .slice A3 nd c3] 26)) w.heap.size (.slice A1 nc c1) (.slice A2 nk c2) (.slice A3 nd c3) := blk_top rfl
  have S2 := hide s2
  have S3 := hide s3
  have K3 := hide k3
  have IH := hide ih
  have HNK := hide hnk
  have HND := hide hnd
  have HSH := hide hsh
  have HLEN := hide hlen
  have HGO0 := hide hgo0
  clear hkn s1 s2 s3 k3 ih hR0 hgo0 hsh hform hnk hnd hlen
  go_enter Try.func30, Try.ntmps30
  go_wp2_with fail
  go_loopw [3] (fun i wr => ∃ (k : Nat) (R : Bool), k ≤ nd ∧ i = .int .i64 k ∧ BetGo keys kids k R ∧ R0 = R ∧ BoxK wr w.heap.size (.slice A1 nc c1) (.slice A2 nk c2) (.slice A3 nd c3) ∧ Below w.heap.size w wr) (fun i _ => nd - (intOf i).toNat)
  case atStart => exact ⟨0, R0, Nat.zero_le _, rfl, HGO0.out, rfl, kB, hbA⟩
  case round =>
    clear HGO0 kB hbA
    obtain ⟨k, R, hk, rfl, hgo, hRR, kBr, hbr⟩ := hrel
    subst hRR
    have HGO := hide hgo
    obtain ⟨q1, q2, q3⟩ := kBr.cell
    clear hgo
    by_cases hlt : k < nd
    · obtain ⟨kid, hkid⟩ : ∃ kid, kids[k]? = some kid := ⟨_, List.getElem?_eq_getElem (by have := HND.out; omega)⟩
      obtain ⟨hsh1, hsh3, hsh2⟩ := HSH.out (by intro e; rw [e] at hkid; simp at hkid)
      have hfm := hsh2 kid (List.mem_of_getElem? hkid)
      obtain ⟨ad, x1, x2, x3, e, f1, f2, f3, f4⟩ := kid_at (S3.out.below hbr) (K3.out.below hbr) hkid
      subst e
      obtain ⟨D1, o1, r1, D2, o2, r2, D3, o3, r3, rfl, rfl, rfl⟩ := kn_shape f4
      obtain ⟨R', hgo', hRe⟩ := betGo_at HGO.out hkid
      have hfl : (flat kid).length ≤ 1000000000 := by have := TreeP.flat_mem_le (List.mem_of_getElem? hkid); have := HLEN.out; omega
      have hc := rcells_any kid _ _ _ _ f4 hfl
      have HC := hide hc
      have F4 := hide f4
      have HIB := hide (fun ww (hb : Below wr.heap.size wr ww) => IH.out kid (List.mem_of_getElem? hkid) false _ _ _ ww hfm (f4.below hb) hfl)
      have HGO' := hide hgo'
      have HRE := hide hRe
      have hge : (0 : Int) ≤ (k : Int) := by omega
      have hgl : (k : Int) < (nd : Int) := by omega
      clear hsh2 hkid hfm f4 hgo' hRe hc K3 IH HGO HND HSH HLEN
      go_wp2_with fail
      refine HC.out.mono ?_
      rintro e w2 ⟨v, rfl, ho, hb2⟩
      obtain ⟨E, ec, rfl, se⟩ := ho.sl
      have kB2 := kBr.below hb2
      have hbw2 := hbr.trans (hb2.mono hbr.size)
      have hS2 := S2.out.below hbw2
      obtain ⟨l, hl⟩ : ∃ l, l = flat kid := ⟨_, rfl⟩
      obtain ⟨n, hn⟩ : ∃ n, n = l.length := ⟨_, rfl⟩
      rw [← hl] at hfl se HRE ⊢
      rw [← hn] at hfl se ⊢
      have HN := hide hn
      obtain ⟨p2, p4, p6⟩ := kB2.cell
      clear hl hn ho HC q1 q2 q3 hbr S2
      go_wp2_with fail
      go_loopw [5] (fun i ws => ∃ (j : Nat), j ≤ n ∧ i = .int .i64 j ∧ AllTo (inBb (prevK keys k) keys[k]?) l j ∧ ∃ q, ws = w2.drewN q) (fun i _ => n - (intOf i).toNat)
      case atStart => exact ⟨0, Nat.zero_le _, rfl, allTo_zero _ _, 0, rfl⟩
      case round =>
        obtain ⟨j, hj, rfl, hall, q, rfl⟩ := hrel
        have HALL := hide hall
        clear hall
        by_cases hjl : j < n
        · obtain ⟨ea, x, e, hx, hx1, hx2⟩ := se.cell hjl
          subst e
          have HX := hide hx
          have hgj : (0 : Int) ≤ (j : Int) := by omega
          have hgn : (j : Int) < (n : Int) := by omega
          clear hx se f1 f2 f3 HGO' HIB F4
          rcases Nat.eq_zero_or_pos k with hk0 | hk0
          · subst hk0
            have hkn0 : 0 < nk := by omega
            obtain ⟨kb, hi, e, hhi, hch⟩ := hS2.str hkn0
            subst e
            have hpv : prevK keys 0 = none := rfl
            have HPV := hide hpv
            have HHI := hide hhi
            have hb0 : kb.add 0 = kb := by cases kb; simp [Addr.add]
            rw [hb0] at hch
            have z0 : (0 : Int) < (nk : Int) := by omega
            clear hpv hhi hb0
            cases e2 : kl x.1 hi with
            | true =>
              have z2 : Op.bytesLess x.1.toList hi.toList = true := e2
              have hp := hide (allTo_succ HALL.out HX.out (by rw [HPV.out, HHI.out, inBb_none_some]; exact e2))
              go_wp2_with fail
              go_quiet (fail)
              go_wp2_with fail
              go_roundw
              case rel => exact ⟨j + 1, by omega, by go_num, hp.out, _, rfl⟩
              case measure => simp [intOf]; omega
            | false =>
              have z2 : Op.bytesLess x.1.toList hi.toList = false := e2
              have hR : R0 = false := by rw [HRE.out, all_no HX.out (by rw [HPV.out, HHI.out, inBb_none_some]; exact e2)]; rfl
              subst hR
              go_wp2_with fail
              go_quiet (fail)
              go_wp2_with fail
              go_ret
              exact ⟨rfl, below_drewN (below_drewN hbw2 _) _⟩
          · obtain ⟨kb, lo, e, hlo, hcl⟩ := hS2.str (show k - 1 < nk by omega)
            subst e
            have hpv : prevK keys k = some lo := by unfold prevK; rw [if_neg (by omega), hlo]
            have zk : (0 : Int) < (k : Int) := by omega
            have zw : IntKind.i64.wrap ((k : Int) - 1) = ((k - 1 : Nat) : Int) := by rw [IntWalk.i64_in _ (by omega)]; omega
            have zg : (0 : Int) ≤ ((k - 1 : Nat) : Int) := by omega
            have zl : ((k - 1 : Nat) : Int) < (nk : Int) := by omega
            have HPV := hide hpv
            clear hpv hlo
            rcases Nat.lt_or_ge k nk with hkk | hkk
            · obtain ⟨kb', hi, e, hhi, hch⟩ := hS2.str hkk
              injection e with e
              subst e
              have HHI := hide hhi
              have z1 : (k : Int) < (nk : Int) := by omega
              clear hhi
              cases e1 : kl x.1 lo with
              | true =>
                have z2 : Op.bytesLess x.1.toList lo.toList = true := e1
                have hR : R0 = false := by rw [HRE.out, all_no HX.out (by rw [HPV.out, HHI.out, inBb_some_some, e1]; rfl)]; rfl
                subst hR
                go_wp2_with fail
                go_quiet (fail)
                go_wp2_with fail
                go_ret
                exact ⟨rfl, below_drewN (below_drewN hbw2 _) _⟩
              | false =>
                have z2 : Op.bytesLess x.1.toList lo.toList = false := e1
                cases e2 : kl x.1 hi with
                | true =>
                  have z3 : Op.bytesLess x.1.toList hi.toList = true := e2
                  have hp := hide (allTo_succ HALL.out HX.out (by rw [HPV.out, HHI.out, inBb_some_some, e1, e2]; rfl))
                  go_wp2_with fail
                  go_quiet (fail)
                  go_wp2_with fail
                  go_roundw
                  case rel => exact ⟨j + 1, by omega, by go_num, hp.out, _, rfl⟩
                  case measure => simp [intOf]; omega
                | false =>
                  have z3 : Op.bytesLess x.1.toList hi.toList = false := e2
                  have hR : R0 = false := by rw [HRE.out, all_no HX.out (by rw [HPV.out, HHI.out, inBb_some_some, e1, e2]; rfl)]; rfl
                  subst hR
                  go_wp2_with fail
                  go_quiet (fail)
                  go_wp2_with fail
                  go_ret
                  exact ⟨rfl, below_drewN (below_drewN hbw2 _) _⟩
            · have hnone : keys[k]? = none := List.getElem?_eq_none (by have := HNK.out; omega)
              have HHI := hide hnone
              obtain rfl : nk = k := by omega
              clear hnone
              cases e1 : kl x.1 lo with
              | true =>
                have z2 : Op.bytesLess x.1.toList lo.toList = true := e1
                have hR : R0 = false := by rw [HRE.out, all_no HX.out (by rw [HPV.out, HHI.out, inBb_some_none, e1]; rfl)]; rfl
                subst hR
                go_wp2_with fail
                go_quiet (fail)
                go_wp2_with fail
                go_ret
                exact ⟨rfl, below_drewN (below_drewN hbw2 _) _⟩
              | false =>
                have z2 : Op.bytesLess x.1.toList lo.toList = false := e1
                have hp := hide (allTo_succ HALL.out HX.out (by rw [HPV.out, HHI.out, inBb_some_none, e1]; rfl))
                go_wp2_with fail
                go_quiet (fail)
                go_wp2_with fail
                go_roundw
                case rel => exact ⟨j + 1, by omega, by go_num, hp.out, _, rfl⟩
                case measure => simp [intOf]; omega
        · obtain rfl : j = n := by omega
          have hall := HALL.out
          rw [HN.out] at hall
          have hal := allTo_all hall
          have HAL := hide hal
          clear hal hall HALL se
          have f1' := cell_next f1 hb2
          have f2' := cell_next f2 hb2
          have f3' := cell_next f3 hb2
          have hc := HIB.out (w2.drewN q) (below_drewN hb2 q)
          have HC := hide hc
          have hbq := below_drewN hbw2 q
          clear f1 f2 f3 hc HIB hS2
          go_wp2_with fail
          refine HC.out.mono ?_
          rintro e w3 ⟨rfl, hb3⟩
          have kB3 : BoxK w3 w.heap.size (.slice A1 nc c1) (.slice A2 nk c2) (.slice (some ad) nd c3) := BoxK.below (w := w2.drewN q) kB2 hb3
          have hbw3 := hbq.trans (hb3.mono hbq.size)
          have hre := HRE.out
          rw [HAL.out, Bool.true_and] at hre
          clear HRE HAL HC f1' f2' f3' p2 p4 p6 kB2 hb2 hb3 hbq
          cases hbt : betweenP kid with
          | true =>
            rw [hbt, Bool.true_and] at hre
            have HRE := hide hre
            clear hre hbt
            go_wp2_with fail
            go_roundw
            case rel => exact ⟨k + 1, R', by omega, by go_num, HGO'.out, HRE.out, kB3, hbw3⟩
            case measure => simp [intOf]; omega
          | false =>
            rw [hbt, Bool.false_and] at hre
            subst hre
            clear hbt
            go_wp2_with fail
            go_ret
            exact ⟨rfl, hbw3⟩
    · obtain rfl : k = nd := by omega
      have hg := HGO.out
      rw [HND.out] at hg
      have hv := betGo_end hg
      clear hg HGO S3 K3 IH
      subst hv
      go_wp2_with fail
      go_ret
      exact ⟨rfl, hbr⟩
end Go.Proofs.Ytkkddnmpehoeoaa
