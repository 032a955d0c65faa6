/- The plain side of layer 20's awake: five keys that are put, and deleted, with no program in sight. -/
import Derived.Test.YtkkddnmpehoeoaaTreeLaws
namespace Go.Proofs.Ytkkddnmpehoeoaa.TreeP
set_option linter.unusedVariables false

theorem kl_one (a b : UInt8) : kl ⟨#[a]⟩ ⟨#[b]⟩ = decide (a < b) := by
  unfold kl
  rw [ByteArray.toList_eq, ByteArray.toList_eq]
  simp [Op.bytesLess]
def exK : List ByteArray := [⟨#[99]⟩, ⟨#[97]⟩, ⟨#[101]⟩, ⟨#[98]⟩, ⟨#[100]⟩]
def cl (a : UInt8) : Cell := (⟨#[a]⟩, ⟨#[a]⟩)
/-- the cells behind so many puts -/
def exL : Nat → List Cell
  | 0 => []
  | 1 => [cl 99]
  | 2 => [cl 97, cl 99]
  | 3 => [cl 97, cl 99, cl 101]
  | 4 => [cl 97, cl 98, cl 99, cl 101]
  | _ => [cl 97, cl 98, cl 99, cl 100, cl 101]
/-- the cells behind so many dels -/
def exM : Nat → List Cell
  | 0 => [cl 97, cl 98, cl 99, cl 100, cl 101]
  | 1 => [cl 97, cl 98, cl 100, cl 101]
  | 2 => [cl 98, cl 100, cl 101]
  | 3 => [cl 98, cl 100]
  | 4 => [cl 100]
  | _ => []
theorem one_ne {a b : UInt8} : ((⟨#[a]⟩ : ByteArray) = ⟨#[b]⟩) = (a = b) := by simp
theorem exL_succ {k : Nat} {s : ByteArray} (h : exK[k]? = some s) : withC (exL k) (s, s) = exL (k + 1) := by
  match k, h with
  | 0, h | 1, h | 2, h | 3, h | 4, h =>
    simp only [exK, List.getElem?_cons_zero, List.getElem?_cons_succ, Option.some.injEq] at h
    subst h
    simp [exL, withC, cl, kl_one]
  | k + 5, h => simp [exK] at h
theorem exM_succ {k : Nat} {s : ByteArray} (h : exK[k]? = some s) : without (exM k) s = exM (k + 1) ∧ (get (exM k) s).isSome = true := by
  match k, h with
  | 0, h | 1, h | 2, h | 3, h | 4, h =>
    simp only [exK, List.getElem?_cons_zero, List.getElem?_cons_succ, Option.some.injEq] at h
    subst h
    exact ⟨by simp [exM, without, cl], by simp [exM, get, cl]⟩
  | k + 5, h => simp [exK] at h
theorem exL_len (k : Nat) : (exL k).length ≤ 5 := by
  match k with
  | 0 | 1 | 2 | 3 | 4 | k + 5 => simp [exL]
theorem exM_len (k : Nat) : (exM k).length ≤ 5 := by
  match k with
  | 0 | 1 | 2 | 3 | 4 | k + 5 => simp [exM]

theorem invL_two_len {h : Nat} {lo hi : Option ByteArray} {keys : List ByteArray} {kids : List Kt} (H : InvL h lo hi keys kids) : kids.length * 2 ^ h ≤ (flatL kids).length := by
  induction kids generalizing lo keys with
  | nil => rw [InvL] at H; exact H.elim
  | cons a l ih =>
    rw [flatL, List.length_append, List.length_cons, Nat.add_mul, Nat.one_mul]
    cases keys with
    | nil =>
      rw [invL_nil] at H
      obtain ⟨rfl, H⟩ := H
      have := (inv_count H).1
      simp [flatL]; omega
    | cons k ks =>
      rw [invL_cons] at H
      have := (inv_count H.1).1
      have := ih H.2
      omega
/-- a tree of five cells has two kids -/
theorem five_two {t : Kt} {h : Nat} (H : Inv 0 2 h none none t) (h5 : (flat t).length = 5) : t.kids.length = 2 := by
  obtain ⟨cells, keys, kids⟩ := t
  cases kids with
  | nil =>
    have := inv_leaf H (by omega)
    simp only [flat, flatL, List.append_nil] at h5
    omega
  | cons a l =>
    obtain ⟨rfl, h1, h2, h3, h4⟩ := inv_inner H
    have hl := invL_two_len h4
    rw [flat, List.nil_append] at h5
    have hp : 2 ^ 1 ≤ 2 ^ (h - 1) := Nat.pow_le_pow_right (by omega) (by omega)
    have : (a :: l).length * 2 ≤ (a :: l).length * 2 ^ (h - 1) := Nat.mul_le_mul_left _ hp
    simp only [Kt.kids]
    omega
/-- a tree of no cells is a leaf -/
theorem none_leaf {t : Kt} {h : Nat} (H : Inv 0 2 h none none t) (h0 : flat t = []) : t.kids = [] ∧ t.cells = [] ∧ h = 1 := by
  obtain ⟨cells, keys, kids⟩ := t
  cases kids with
  | nil =>
    have := inv_leaf H (by omega)
    simp only [flat, flatL, List.append_nil] at h0
    exact ⟨rfl, h0, this.2.1⟩
  | cons a l =>
    have h2 := (inv_inner H).2.2.2.1
    have := root_count H h2
    rw [h0] at this
    have hp : 0 < 2 ^ h := Nat.pow_pos (by decide)
    simp at this
theorem inv_none : Inv 0 2 1 none none (.mk [] [] []) := inv_mk_leaf (by simp) (by simp) (by simp [Rise]) (by simp)
end Go.Proofs.Ytkkddnmpehoeoaa.TreeP
