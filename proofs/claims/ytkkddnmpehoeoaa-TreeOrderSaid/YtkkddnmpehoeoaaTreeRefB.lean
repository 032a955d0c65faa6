/- The walks of layer 20's reference, lists of cells: With, Same. -/
import Derived.Test.YtkkddnmpehoeoaaTreeRefA
namespace Go.Proofs.Ytkkddnmpehoeoaa
open Go.RowKit
open TreeP (Kt Cell kl flat flatL)
set_option linter.unusedVariables false
attribute [local go_sem ↓] Go.wp_at_zero Go.wp_at_succ

/-- the first lower ones, the cell, and the first higher ones -/
def withK (c : Cell) (l : List Cell) (k : Nat) : List Cell := l.filter (fun d => kl d.1 c.1) ++ c :: filtK (fun d => kl c.1 d.1) l k
theorem withK_zero (c : Cell) (l : List Cell) : l.filter (fun d => kl d.1 c.1) ++ [c] = withK c l 0 := rfl
theorem withK_all {c : Cell} {l : List Cell} {k : Nat} (h : l.length = k) : withK c l k = TreeP.withC l c := by unfold withK; rw [filtK_all h]; rfl
theorem withK_yes {c : Cell} {l : List Cell} {k : Nat} {x : Cell} (h : l[k]? = some x) (hp : kl c.1 x.1 = true) : withK c l k ++ [x] = withK c l (k + 1) := by
  unfold withK
  rw [← filtK_yes (p := fun d => kl c.1 d.1) h hp]; simp
theorem withK_no {c : Cell} {l : List Cell} {k : Nat} {x : Cell} (h : l[k]? = some x) (hp : kl c.1 x.1 = false) : withK c l k = withK c l (k + 1) := by
  unfold withK
  rw [← filtK_no (p := fun d => kl c.1 d.1) h hp]
theorem withK_le (c : Cell) (l : List Cell) (k n : Nat) (h : l.length = n) : (withK c l k).length ≤ n + 1 + k := by
  unfold withK
  have h1 := List.length_filter_le (fun d : Cell => kl d.1 c.1) l
  have h2 := filtK_le (fun d => kl c.1 d.1) l k
  rw [List.length_append, List.length_cons]; omega

set_option maxRecDepth 100000 in
set_option maxHeartbeats 800000 in
theorem rwith_any (A : Option Addr) (n cp : Nat) (l : List Cell) (k0 v0 : ByteArray) (V : Nat → Prop) (w : World) (h : Sl w V 2 A n (cellsV l)) (hn : n ≤ 100000000) :
    Calls Try.prog 22 #[.slice A n cp, .agg #[.string k0, .string v0]] w fun e w' => ∃ v, e = .returned v ∧ OwnC w' w.heap.size v (TreeP.withC l (k0, v0)) ∧ Below w.heap.size w w' := by
  have hlen : l.length = n := h.cells
  have HL := hide hlen
  clear hlen
  have hbA : Below w.heap.size w (w.alloc (.cells #[.string k0, .string v0] 44)) := (Below.refl _ w).alloc (Nat.le_refl _) _
  have hcA : (w.alloc (.cells #[.string k0, .string v0] 44)).cell? ⟨w.heap.size, 0, none⟩ = some (.string k0) := by unfold World.cell?; simp only [heap_alloc_new]; rfl
  have hdA : (w.alloc (.cells #[.string k0, .string v0] 44)).cell? ⟨w.heap.size, 1, none⟩ = some (.string v0) := by unfold World.cell?; simp only [heap_alloc_new]; rfl
  have hsA : w.heap.size + 1 ≤ (w.alloc (.cells #[.string k0, .string v0] 44)).heap.size := by simp
  go_enter Try.func22, Try.ntmps22
  go_wp2_with fail
  generalize w.alloc (.cells #[.string k0, .string v0] 44) = wA at *
  go_loopw [5, 6] (fun v i wr => ∃ k : Nat, k ≤ n ∧ i = .int .i64 k ∧ wr.ownsRow (w.heap.size + 1) 44 2 v (filtK (fun d => kl d.1 k0) l k).length (cellsV (filtK (fun d => kl d.1 k0) l k)) ∧ Below (w.heap.size + 1) wA wr) (fun _ i _ => n - (intOf i).toNat)
  case atStart => exact ⟨0, Nat.zero_le _, rfl, OwnC.nil _ _, Below.refl _ _⟩
  case round =>
    obtain ⟨k, hkn, rfl, hown, hb⟩ := hrel
    have hle := filtK_le (fun d => kl d.1 k0) l k
    have hbw : Below w.heap.size w wr := hbA.trans (hb.mono (by omega))
    have hcr := (hb.cell (p := ⟨w.heap.size, 0, none⟩) (by simp)).trans hcA
    have hdr := (hb.cell (p := ⟨w.heap.size, 1, none⟩) (by simp)).trans hdA
    have hsz := Nat.le_trans hsA hb.size
    by_cases hlt : k < n
    · obtain ⟨ad, x, hA, hx, hc1, hc2⟩ := (h.below hbw).cell hlt
      subst hA
      have HX := hide hx
      clear hx h hcA hdA
      cases e : kl x.1 k0 with
      | true =>
        have e1 : Op.bytesLess x.1.toList k0.toList = true := e
        have E := hide (filtK_yes (p := fun d => kl d.1 k0) HX.out e)
        clear e
        go_wp2_with fail
        go_quiet (fail)
        go_wp2_with (at_builtin; refine appn_C rfl _ _ rfl (w.heap.size + 1) _ _ _ (own_drewN hown nq) rfl [.string x.1, .string x.2] rfl rfl (one2 _ _) (by omega) hsz ?_; intro v' w2 hA)
        have hb2 := hA.below (own_drewN hown nq) (below_drewN hb nq) (Nat.le_refl _) hsz
        have ho2 : OwnC w2 (w.heap.size + 1) v' (filtK (fun d => kl d.1 k0) l (k + 1)) := OwnC.of_app hA.own rfl E.out
        go_roundw
        case rel => exact ⟨k + 1, by omega, by go_num, ho2, hb2⟩
        case measure => simp [intOf]; omega
      | false =>
        have e1 : Op.bytesLess x.1.toList k0.toList = false := e
        have E := hide (filtK_no (p := fun d => kl d.1 k0) HX.out e)
        clear e
        go_wp2_with fail
        go_quiet (fail)
        go_wp2_with fail
        rw [E.out] at hown
        go_roundw
        case rel => exact ⟨k + 1, by omega, by go_num, own_drewN hown nq, below_drewN hb nq⟩
        case measure => simp [intOf]; omega
    · obtain rfl : k = n := by omega
      rw [filtK_all HL.out] at hown
      have hl2 : (l.filter (fun d => kl d.1 k0)).length ≤ k := by have := List.length_filter_le (fun d : Cell => kl d.1 k0) l; have := HL.out; omega
      clear hcA hdA hb hbA
      go_wp2_with (at_builtin; refine appn_C rfl _ _ rfl (w.heap.size + 1) _ _ _ hown rfl [.string k0, .string v0] rfl rfl (one2 _ _) (by omega) hsz ?_; intro v' w2 hA)
      have hb2 := hA.below hown (Below.refl (w.heap.size + 1) wr) (Nat.le_refl _) hsz
      have ho2 : OwnC w2 (w.heap.size + 1) v' (withK (k0, v0) l 0) := OwnC.of_app hA.own rfl (withK_zero (k0, v0) l)
      have hcB := (hb2.cell (p := ⟨w.heap.size, 0, none⟩) (by simp)).trans hcr
      have hsz2 := Nat.le_trans hsz hb2.size
      have hbB := hbw.trans (hb2.mono (by omega))
      clear hA hown hb2 hcr hdr hbw
      go_loopw [5, 7] (fun v i ws => ∃ j : Nat, j ≤ k ∧ i = .int .i64 j ∧ ws.ownsRow (w.heap.size + 1) 44 2 v (withK (k0, v0) l j).length (cellsV (withK (k0, v0) l j)) ∧ Below (w.heap.size + 1) w2 ws) (fun _ i _ => k - (intOf i).toNat)
      case atStart => exact ⟨0, Nat.zero_le _, rfl, ho2, Below.refl _ _⟩
      case round =>
        clear ho2
        obtain ⟨j, hjn, rfl, hown, hb⟩ := hrel
        have hle2 := withK_le (k0, v0) l j _ HL.out
        have hbw : Below w.heap.size w wr := hbB.trans (hb.mono (by omega))
        have hcr := (hb.cell (p := ⟨w.heap.size, 0, none⟩) (by simp)).trans hcB
        have hsz3 := Nat.le_trans hsz2 hb.size
        by_cases hlt : j < k
        · obtain ⟨ad, x, hA, hx, hc1, hc2⟩ := (h.below hbw).cell hlt
          subst hA
          have HX := hide hx
          clear hx h hcB
          cases e : kl k0 x.1 with
          | true =>
            have e1 : Op.bytesLess x.1.toList k0.toList = false := TreeP.kl_asymm e
            have e2 : (x.1.toList == k0.toList) = false := by rw [TreeP.toList_beq]; simpa using (TreeP.kl_ne e).symm
            have E := hide (withK_yes (c := (k0, v0)) HX.out e)
            clear e
            go_wp2_with fail
            go_quiet (fail)
            go_wp2_with (at_builtin; refine appn_C rfl _ _ rfl (w.heap.size + 1) _ _ _ (own_drewN hown nq) rfl [.string x.1, .string x.2] rfl rfl (one2 _ _) (by omega) hsz3 ?_; intro v' w3 hA)
            have hb2 := hA.below (own_drewN hown nq) (below_drewN hb nq) (Nat.le_refl _) hsz3
            have ho2 : OwnC w3 (w.heap.size + 1) v' (withK (k0, v0) l (j + 1)) := OwnC.of_app hA.own rfl E.out
            go_roundw
            case rel => exact ⟨j + 1, by omega, by go_num, ho2, hb2⟩
            case measure => simp [intOf]; omega
          | false =>
            have E := hide (withK_no (c := (k0, v0)) HX.out e)
            cases e0 : kl x.1 k0 with
            | true =>
              have e1 : Op.bytesLess x.1.toList k0.toList = true := e0
              clear e e0
              go_wp2_with fail
              go_quiet (fail)
              go_wp2_with fail
              rw [E.out] at hown
              go_roundw
              case rel => exact ⟨j + 1, by omega, by go_num, own_drewN hown nq, below_drewN hb nq⟩
              case measure => simp [intOf]; omega
            | false =>
              have e1 : Op.bytesLess x.1.toList k0.toList = false := e0
              have e2 : (x.1.toList == k0.toList) = true := by rw [TreeP.toList_beq]; simpa using TreeP.kl_total e0 e
              clear e e0
              go_wp2_with fail
              go_quiet (fail)
              go_wp2_with fail
              rw [E.out] at hown
              go_roundw
              case rel => exact ⟨j + 1, by omega, by go_num, own_drewN hown nq, below_drewN hb nq⟩
              case measure => simp [intOf]; omega
        · obtain rfl : j = k := by omega
          rw [withK_all HL.out] at hown
          go_wp2_with fail
          go_ret
          exact ⟨_, rfl, OwnC.mono hown (by omega), hbw⟩

def cellEq (a b : Cell) : Bool := (a.1.toList == b.1.toList) && (a.2.toList == b.2.toList)
theorem cellEq_iff {a b : Cell} : cellEq a b = decide (a = b) := by
  unfold cellEq
  rw [TreeP.toList_beq, TreeP.toList_beq, Bool.eq_iff_iff]
  simp [Prod.ext_iff]
def CSameTo (a b : List Cell) (k : Nat) : Prop := ∀ j, j < k → a[j]? = b[j]?
theorem csame_zero (a b : List Cell) : CSameTo a b 0 := fun j h => absurd h (by omega)
theorem csame_succ {a b : List Cell} {k : Nat} {s : Cell} (h : CSameTo a b k) (ha : a[k]? = some s) (hb : b[k]? = some s) : CSameTo a b (k + 1) := by
  intro j hj
  rcases Nat.lt_or_ge j k with h1 | h1
  · exact h j h1
  · obtain rfl : j = k := by omega
    rw [ha, hb]
theorem csame_all {a b : List Cell} {k : Nat} (h : CSameTo a b k) (ha : a.length = k) (hb : b.length = k) : a = b := by
  refine List.ext_getElem? fun j => ?_
  rcases Nat.lt_or_ge j k with h1 | h1
  · exact h j h1
  · rw [List.getElem?_eq_none (by omega), List.getElem?_eq_none (by omega)]

set_option maxRecDepth 100000 in
set_option maxHeartbeats 800000 in
theorem rsame_any (A B : Option Addr) (n m c d : Nat) (l1 l2 : List Cell) (V U : Nat → Prop) (w : World) (h : Sl w V 2 A n (cellsV l1)) (g : Sl w U 2 B m (cellsV l2)) (hn : n ≤ 1000000000) :
    Calls Try.prog 21 #[.slice A n c, .slice B m d] w fun e w' => e = .returned (.bool (decide (l1 = l2))) ∧ ∃ q, w' = w.drewN q := by
  have hl := h.cells
  have gl := g.cells
  obtain ⟨R, hR⟩ : ∃ R, R = decide (l1 = l2) := ⟨_, rfl⟩
  rw [← hR]
  have HR := hide hR
  clear hR
  by_cases hnm : n = m
  · subst hnm
    have HL := hide hl
    have GL := hide gl
    clear hl gl
    go_enter Try.func21, Try.ntmps21
    go_wp2_with fail
    go_loopw [5] (fun i wr => ∃ k : Nat, k ≤ n ∧ i = .int .i64 k ∧ CSameTo l1 l2 k ∧ ∃ q, wr = w.drewN q) (fun i _ => n - (intOf i).toNat)
    case atStart => exact ⟨0, Nat.zero_le _, rfl, csame_zero _ _, 0, rfl⟩
    case round =>
      obtain ⟨k, hk, rfl, hs, q, rfl⟩ := hrel
      by_cases hlt : k < n
      · obtain ⟨a, s, hA, hsk, hc1, hc2⟩ := h.cell hlt
        obtain ⟨b, t, hB, htk, hd1, hd2⟩ := g.cell hlt
        subst hA
        subst hB
        have HS := hide hsk
        have HT := hide htk
        clear hsk htk h g
        by_cases e : s = t
        · subst e
          go_wp2_with fail
          go_quiet (fail)
          go_wp2_with fail
          go_roundw
          case rel => exact ⟨k + 1, by omega, by go_num, csame_succ hs HS.out HT.out, _, rfl⟩
          case measure => simp [intOf]; omega
        · have hv : R = false := by
            rw [HR.out]; simp only [decide_eq_false_iff_not]
            intro q; rw [q] at HS; rw [HT.out] at HS
            have := HS.out
            injection this with this
            exact e this.symm
          have hq := cellEq_iff (a := s) (b := t)
          rw [decide_eq_false e] at hq
          unfold cellEq at hq
          subst hv
          clear e
          cases e1 : (s.1.toList == t.1.toList) with
          | true =>
            rw [e1, Bool.true_and] at hq
            go_wp2_with fail
            go_quiet (fail)
            go_wp2_with fail
            go_ret
            exact ⟨rfl, drewN_some⟩
          | false =>
            clear hq
            go_wp2_with fail
            go_quiet (fail)
            go_wp2_with fail
            go_ret
            exact ⟨rfl, drewN_some⟩
      · have hkn : k = n := by omega
        subst hkn
        have e : l1 = l2 := csame_all hs HL.out GL.out
        have E := hide (HR.out.trans (decide_eq_true e))
        clear e
        go_wp2_with fail
        go_ret
        exact ⟨by rw [E.out]; rfl, _, rfl⟩
  · have hf : R = false := by
      rw [HR.out]; simp only [decide_eq_false_iff_not]
      intro e; rw [e] at hl; omega
    subst hf
    have hne : ((n : Int) != m) = true := by simp; omega
    clear hl gl hnm
    go_enter Try.func21, Try.ntmps21
    go_wp2_with fail
    go_ret
    exact ⟨rfl, 0, rfl⟩
end Go.Proofs.Ytkkddnmpehoeoaa
