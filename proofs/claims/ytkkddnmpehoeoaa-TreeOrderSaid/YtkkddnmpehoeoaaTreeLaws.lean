/- The plain side of layer 20's laws: what few makes of a tree, ranges, and what put and del leave, with no program in sight. -/
import Derived.Test.YtkkddnmpehoeoaaTreeChk
namespace Go.Proofs.Ytkkddnmpehoeoaa.TreeP
set_option linter.unusedVariables false

/-- a text no longer than is looked at -/
def cutT (s : ByteArray) : ByteArray := if (30 : Int) < (s.size : Int) then s.extract 0 30 else s
def cutC (c : Cell) : Cell := (cutT c.1, cutT c.2)
/-- a tree of which no more is looked at than may be -/
def fewK : Nat → Kt → Kt
  | 0, .mk cells keys _ => .mk ((cells.take 6).map cutC) ((keys.take 6).map cutT) []
  | d + 1, .mk cells keys kids => .mk ((cells.take 6).map cutC) ((keys.take 6).map cutT) ((kids.take 6).map (fewK d))

theorem flatL_le {l : List Kt} {b : Nat} (h : ∀ k ∈ l, (flat k).length ≤ b) : (flatL l).length ≤ l.length * b := by
  induction l with
  | nil => simp [flatL]
  | cons k l ih =>
    rw [flatL, List.length_append, List.length_cons, Nat.add_mul, Nat.one_mul]
    have h1 := h k List.mem_cons_self
    have h2 := ih fun k hk => h k (List.mem_cons_of_mem _ hk)
    omega
theorem few_count (d : Nat) : ∀ t, (flat (fewK d t)).length ≤ 6 * 7 ^ d := by
  induction d with
  | zero =>
    rintro ⟨cells, keys, kids⟩
    simp only [fewK, flat, flatL, List.append_nil, List.length_map, List.length_take]
    omega
  | succ d ih =>
    rintro ⟨cells, keys, kids⟩
    simp only [fewK, flat, List.length_append, List.length_map, List.length_take]
    have h1 : (flatL ((kids.take 6).map (fewK d))).length ≤ ((kids.take 6).map (fewK d)).length * (6 * 7 ^ d) := flatL_le (by
      intro k hk
      obtain ⟨x, _, rfl⟩ := List.mem_map.1 hk
      exact ih x)
    have h2 : ((kids.take 6).map (fewK d)).length ≤ 6 := by rw [List.length_map, List.length_take]; omega
    have h3 : ((kids.take 6).map (fewK d)).length * (6 * 7 ^ d) ≤ 6 * (6 * 7 ^ d) := Nat.mul_le_mul_right _ h2
    have h4 : 0 < 7 ^ d := Nat.pow_pos (by decide)
    rw [Nat.pow_succ]
    omega
theorem heightL_le {l : List Kt} {b : Nat} (h : ∀ k ∈ l, height k ≤ b) : heightL l ≤ b := by
  induction l with
  | nil => simp [heightL]
  | cons k l ih =>
    rw [heightL]
    have h1 := h k List.mem_cons_self
    have h2 := ih fun k hk => h k (List.mem_cons_of_mem _ hk)
    omega
theorem few_height (d : Nat) : ∀ t, height (fewK d t) ≤ d + 1 := by
  induction d with
  | zero =>
    rintro ⟨cells, keys, kids⟩
    simp [fewK, height, heightL]
  | succ d ih =>
    rintro ⟨cells, keys, kids⟩
    simp only [fewK, height]
    have := heightL_le (l := (kids.take 6).map (fewK d)) (b := d + 1) (by
      intro k hk
      obtain ⟨x, _, rfl⟩ := List.mem_map.1 hk
      exact ih x)
    omega

/-- the cells from a key on, ahead of another one -/
def rangeP (frm to : ByteArray) (l : List Cell) : List Cell := l.filter fun c => !kl c.1 frm && (decide (to = .empty) || kl c.1 to)

theorem range_cut {frm mid : ByteArray} (h0 : mid ≠ .empty) (h1 : kl mid frm = false) {l : List Cell} (hr : Rise l) :
    rangeP frm mid l ++ rangeP mid .empty l = rangeP frm .empty l := by
  induction l with
  | nil => rfl
  | cons c l ih =>
    have ih' := ih hr.2
    unfold rangeP at *
    simp only [h0, decide_false, Bool.false_or, decide_true, Bool.true_or, Bool.and_true] at *
    cases e : kl c.1 mid with
    | true =>
      simp only [List.filter_cons, e, Bool.and_true, Bool.not_true, Bool.false_eq_true, if_false]
      split
      · rw [List.cons_append, ih']
      · exact ih'
    | false =>
      have hge : ∀ d ∈ l, kl d.1 mid = false := fun d hd => by
        rw [Bool.eq_false_iff]; intro g
        have := kl_trans (hr.1 d hd) g
        rw [e] at this; cases this
      have h2 : kl c.1 frm = false := kl_le_le h1 e
      have h3 : List.filter (fun c => !kl c.1 frm && kl c.1 mid) (c :: l) = [] := by
        rw [List.filter_eq_nil_iff]; intro d hd
        rcases List.mem_cons.1 hd with rfl | hd
        · simp [e]
        · simp [hge d hd]
      rw [h3, List.nil_append]
      refine (List.filter_eq_self.2 ?_).trans (List.filter_eq_self.2 ?_).symm
      · intro d hd
        rcases List.mem_cons.1 hd with rfl | hd
        · simp [e]
        · simp [hge d hd]
      · intro d hd
        rcases List.mem_cons.1 hd with rfl | hd
        · simp [h2]
        · simp [kl_le_le h1 (hge d hd)]

/-- few cells: no deeper than may be -/
theorem inv_64 {t : Kt} {h : Nat} (H : Inv 0 2 h none none t) (hc : (flat t).length ≤ 100000000) : h ≤ 27 := by
  rcases Nat.lt_or_ge h 2 with h2 | h2
  · omega
  · have := root_count H h2
    rcases Nat.lt_or_ge h 28 with h3 | h3
    · omega
    · have h4 : 2 ^ 28 ≤ 2 ^ h := Nat.pow_le_pow_right (by omega) h3
      have : (2:Nat) ^ 28 = 268435456 := by decide
      omega
theorem withC_len_le (l : List Cell) (c : Cell) : (withC l c).length ≤ 2 * l.length + 1 := by
  unfold withC
  rw [List.length_append, List.length_cons]
  have := List.length_filter_le (fun d : Cell => kl d.1 c.1) l
  have := List.length_filter_le (fun d : Cell => kl c.1 d.1) l
  omega
theorem without_len_le (l : List Cell) (k : ByteArray) : (without l k).length ≤ l.length := List.length_filter_le _ _
theorem get_withC {l : List Cell} (hr : Rise l) (c : Cell) : get (withC l c) c.1 = some c.2 := get_mem (rise_withC c hr) (mem_withC.2 (.inl rfl))
/-- put where it was not, and deleted: as it was -/
theorem without_withC {l : List Cell} (hr : Rise l) {c : Cell} (h : get l c.1 = none) : without (withC l c) c.1 = l := by
  refine rise_ext (rise_without _ (rise_withC c hr)) hr fun d => ?_
  rw [mem_without, mem_withC]
  constructor
  · rintro ⟨rfl | ⟨h1, _⟩, h2⟩
    · exact absurd rfl h2
    · exact h1
  · intro hd
    have := get_none.1 h d hd
    exact ⟨.inr ⟨hd, this⟩, this⟩
theorem withC_withC {l : List Cell} (hr : Rise l) {c d : Cell} (h : c.1 = d.1) : withC (withC l c) d = withC l d := by
  refine rise_ext (rise_withC d (rise_withC c hr)) (rise_withC d hr) fun x => ?_
  rw [mem_withC, mem_withC, mem_withC]
  constructor
  · rintro (rfl | ⟨rfl | ⟨h1, h2⟩, h3⟩)
    · exact .inl rfl
    · exact absurd h h3
    · exact .inr ⟨h1, h3⟩
  · rintro (rfl | ⟨h1, h2⟩)
    · exact .inl rfl
    · exact .inr ⟨.inr ⟨h1, by rw [h]; exact h2⟩, h2⟩
end Go.Proofs.Ytkkddnmpehoeoaa.TreeP
