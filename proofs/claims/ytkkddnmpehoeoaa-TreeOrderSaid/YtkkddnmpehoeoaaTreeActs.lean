/- What the law TreePlays is handed: acts, as cells. -/
import Derived.Test.YtkkddnmpehoeoaaTreeAwake
import Derived.Test.YtkkddnmpehoeoaaTreeFewA
namespace Go.Proofs.Ytkkddnmpehoeoaa
open Go.RowKit
open TreeP (Kt Cell kl flat flatL Inv)
set_option linter.unusedVariables false

abbrev ActT := ByteArray × ByteArray × Bool
def actsV : List ActT → List Value
  | [] => []
  | a :: l => .string a.1 :: .string a.2.1 :: .bool a.2.2 :: actsV l
theorem actsV_length (l : List ActT) : (actsV l).length = l.length * 3 := by
  induction l with
  | nil => rfl
  | cons x l ih => simp [actsV, ih]; omega
theorem actsV_get {l : List ActT} {k : Nat} {x : ActT} (h : l[k]? = some x) : (actsV l)[k * 3]? = some (.string x.1) ∧ (actsV l)[k * 3 + 1]? = some (.string x.2.1) ∧ (actsV l)[k * 3 + 2]? = some (.bool x.2.2) := by
  induction l generalizing k with
  | nil => simp at h
  | cons d l ih =>
    cases k with
    | zero => simp at h; subst h; exact ⟨rfl, rfl, rfl⟩
    | succ k =>
      have := ih (k := k) (by simpa using h)
      rw [show (k + 1) * 3 = k * 3 + 3 by omega]
      simpa [actsV] using this
theorem Sl.act {w : World} {V : Nat → Prop} {A : Option Addr} {n k : Nat} {l : List ActT} (h : Sl w V 3 A n (actsV l)) (hk : k < n) :
    ∃ a x, A = some a ∧ l[k]? = some x ∧ w.cell? (a.add (k * 3)) = some (.string x.1) ∧ w.cell? ⟨(a.add (k * 3)).block, (a.add (k * 3)).off + 1, none⟩ = some (.string x.2.1) ∧
      w.cell? ⟨(a.add (k * 3)).block, (a.add (k * 3)).off + 2, none⟩ = some (.bool x.2.2) := by
  obtain ⟨a, e, _, _, hc⟩ := h.2 (by omega)
  have hl : k < l.length := by have := h.1; rw [actsV_length] at this; omega
  have := actsV_get (List.getElem?_eq_getElem hl)
  exact ⟨a, l[k], e, List.getElem?_eq_getElem hl, hc _ _ this.1, by rw [← Addr.add_succ' _ 0, add_add']; exact hc _ _ this.2.1, by rw [← Addr.add_succ' _ 1, add_add']; exact hc _ _ this.2.2⟩

/-- what has been played: a tree in a box, and its cells as a list -/
def PlayIn (w0 : World) (b k : Nat) (vl : Value) (w : World) : Prop :=
  ∃ T h v1 v2 v3 A c, Inv 0 2 h none none T ∧ (flat T).length ≤ k ∧ Kn w (fun i => i ≠ b) 1000 v1 v2 v3 T ∧ BoxK w b v1 v2 v3 ∧ vl = .slice A (flat T).length c ∧ Sl w (fun i => i ≠ b) 2 A (flat T).length (cellsV (flat T)) ∧ Below b w0 w

theorem OwnC.slv {w : World} {base : Nat} {v : Value} {l : List Cell} {V : Nat → Prop} (h : OwnC w base v l) (hV : ∀ i, base ≤ i → V i) : ∃ A c, v = .slice A l.length c ∧ Sl w V 2 A l.length (cellsV l) := by
  obtain ⟨A, c, e, _, hs⟩ := SlV.own (V := V) (show w.ownsRow base 44 2 v l.length (cellsV l) from h) hV
  exact ⟨A, c, e, hs⟩

/-- halving a number that often comes below two -/
theorem halves_start (L : Nat) : 2 ^ (1 - 1) * L ≤ L ∧ L < 2 ^ (1 - 1) * (L + 1) := by simp
theorem halves_next {L j m : Nat} (hj : 1 ≤ j) (h : 2 ^ (j - 1) * m ≤ L ∧ L < 2 ^ (j - 1) * (m + 1)) : 2 ^ (j + 1 - 1) * (m / 2) ≤ L ∧ L < 2 ^ (j + 1 - 1) * (m / 2 + 1) := by
  obtain ⟨i, rfl⟩ : ∃ i, j = i + 1 := ⟨j - 1, by omega⟩
  simp only [Nat.add_sub_cancel] at *
  rw [Nat.pow_succ, Nat.mul_assoc, Nat.mul_assoc]
  have h1 : 2 * (m / 2) ≤ m := by omega
  have h2 : m + 1 ≤ 2 * (m / 2 + 1) := by omega
  exact ⟨Nat.le_trans (Nat.mul_le_mul_left _ h1) h.1, Nat.lt_of_lt_of_le h.2 (Nat.mul_le_mul_left _ h2)⟩
theorem halves_end {L j m h : Nat} (hj : 1 ≤ j) (hm : m ≤ 1) (h1 : L < 2 ^ (j - 1) * (m + 1)) (hh : h = 1 ∨ 2 ^ h ≤ L) : h ≤ j := by
  rcases hh with rfl | hh
  · exact hj
  · obtain ⟨i, rfl⟩ : ∃ i, j = i + 1 := ⟨j - 1, by omega⟩
    simp only [Nat.add_sub_cancel] at h1
    have h2 : 2 ^ i * (m + 1) ≤ 2 ^ (i + 1) := by rw [Nat.pow_succ]; exact Nat.mul_le_mul_left _ (by omega)
    have h3 : 2 ^ h < 2 ^ (i + 1) := by omega
    have := (Nat.pow_lt_pow_iff_right (a := 2) (by omega)).1 h3
    omega
theorem depth_bound {T : Kt} {h : Nat} (H : Inv 0 2 h none none T) : h = 1 ∨ 2 ^ h ≤ (flat T).length := by
  rcases Nat.lt_or_ge h 2 with h2 | h2
  · have := TreeP.inv_pos (by omega) H; exact .inl (by omega)
  · exact .inr (TreeP.root_count H h2)
end Go.Proofs.Ytkkddnmpehoeoaa
