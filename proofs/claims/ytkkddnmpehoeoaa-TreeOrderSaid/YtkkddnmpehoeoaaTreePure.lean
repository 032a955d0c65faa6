/- The plain side of layer 20: trees of cells, what may be, put and del, with no program in sight. -/
import GoSem.Op.String
import Derived.Lib.Strings
namespace Go.Proofs.Ytkkddnmpehoeoaa.TreeP
set_option linter.unusedVariables false

/-! ### Keys in order -/
/-- the order of octets -/
def kl (a b : ByteArray) : Bool := Op.bytesLess a.toList b.toList

theorem bl_irrefl : ∀ x : List UInt8, Op.bytesLess x x = false
  | [] => rfl
  | a :: x => by simp [Op.bytesLess, bl_irrefl x]
theorem bl_trans : ∀ {x y z : List UInt8}, Op.bytesLess x y = true → Op.bytesLess y z = true → Op.bytesLess x z = true
  | _, [], _, h, _ => by simp [Op.bytesLess] at h
  | _, _ :: _, [], _, h => by simp [Op.bytesLess] at h
  | [], _ :: _, _ :: _, _, _ => rfl
  | a :: x, b :: y, c :: z, h1, h2 => by
    simp only [Op.bytesLess, Bool.or_eq_true, Bool.and_eq_true, decide_eq_true_eq, beq_iff_eq] at *
    rcases h1 with h1 | ⟨rfl, h1⟩
    · rcases h2 with h2 | ⟨rfl, h2⟩
      · left; exact UInt8.lt_trans h1 h2
      · left; exact h1
    · rcases h2 with h2 | ⟨rfl, h2⟩
      · left; exact h2
      · right; exact ⟨rfl, bl_trans h1 h2⟩
theorem bl_total : ∀ {x y : List UInt8}, Op.bytesLess x y = false → Op.bytesLess y x = false → x = y
  | [], [], _, _ => rfl
  | [], _ :: _, h, _ => by simp [Op.bytesLess] at h
  | _ :: _, [], _, h => by simp [Op.bytesLess] at h
  | a :: x, b :: y, h1, h2 => by
    simp only [Op.bytesLess, Bool.or_eq_false_iff, Bool.and_eq_false_iff, decide_eq_false_iff_not] at *
    have e : a = b := by
      have h3 := UInt8.not_lt.1 h1.1
      have h4 := UInt8.not_lt.1 h2.1
      exact UInt8.le_antisymm h4 h3
    subst e
    simp only [beq_self_eq_true, Bool.true_eq_false, false_or] at h1 h2
    rw [bl_total h1.2 h2.2]

theorem toList_inj {a b : ByteArray} (h : a.toList = b.toList) : a = b := by
  rw [ByteArray.toList_eq, ByteArray.toList_eq] at h
  cases a; cases b; simpa using h
theorem kl_irrefl (a : ByteArray) : kl a a = false := bl_irrefl _
theorem kl_trans {a b c : ByteArray} (h : kl a b = true) (g : kl b c = true) : kl a c = true := bl_trans h g
theorem kl_total {a b : ByteArray} (h : kl a b = false) (g : kl b a = false) : a = b := toList_inj (bl_total h g)
theorem kl_asymm {a b : ByteArray} (h : kl a b = true) : kl b a = false := by
  rw [Bool.eq_false_iff]; intro g
  have := kl_trans h g
  rw [kl_irrefl] at this; cases this
theorem kl_ne {a b : ByteArray} (h : kl a b = true) : a ≠ b := by
  rintro rfl; rw [kl_irrefl] at h; cases h
/-- a ≤ b < c -/
theorem kl_le_lt {a b c : ByteArray} (h : kl b a = false) (g : kl b c = true) : kl a c = true := by
  cases e : kl a b with
  | true => exact kl_trans e g
  | false => rw [kl_total e h]; exact g
/-- a < b ≤ c -/
theorem kl_lt_le {a b c : ByteArray} (h : kl a b = true) (g : kl c b = false) : kl a c = true := by
  cases e : kl b c with
  | true => exact kl_trans h e
  | false => rw [← kl_total e g]; exact h
theorem kl_le_le {a b c : ByteArray} (h : kl b a = false) (g : kl c b = false) : kl c a = false := by
  rw [Bool.eq_false_iff]; intro e
  have := kl_lt_le e h
  rw [g] at this; cases this
theorem kl_empty (a : ByteArray) : kl a .empty = false := by
  unfold kl
  rw [show ByteArray.empty.toList = [] by rw [ByteArray.toList_eq]; rfl]
  cases a.toList <;> rfl
theorem toList_beq {a b : ByteArray} : (a.toList == b.toList) = decide (a = b) := by
  rw [Bool.eq_iff_iff]; simp only [beq_iff_eq, decide_eq_true_eq]
  exact ⟨toList_inj, fun h => by rw [h]⟩

/-! ### Cells in order -/
abbrev Cell := ByteArray × ByteArray

/-- rising -/
def Rise : List Cell → Prop
  | [] => True
  | c :: l => (∀ d ∈ l, kl c.1 d.1 = true) ∧ Rise l
theorem rise_append {a b : List Cell} : Rise (a ++ b) ↔ Rise a ∧ Rise b ∧ ∀ x ∈ a, ∀ y ∈ b, kl x.1 y.1 = true := by
  induction a with
  | nil => simp [Rise]
  | cons c a ih =>
    simp only [List.cons_append, Rise, ih, List.mem_append, List.mem_cons]
    constructor
    · rintro ⟨h1, h2, h3, h4⟩
      refine ⟨⟨fun d hd => h1 d (.inl hd), h2⟩, h3, ?_⟩
      rintro x (rfl | hx) y hy
      · exact h1 y (.inr hy)
      · exact h4 x hx y hy
    · rintro ⟨⟨h1, h2⟩, h3, h4⟩
      refine ⟨?_, h2, h3, fun x hx y hy => h4 x (.inr hx) y hy⟩
      rintro d (hd | hd)
      · exact h1 d hd
      · exact h4 c (.inl rfl) d hd
theorem rise_take {a : List Cell} (n : Nat) (h : Rise a) : Rise (a.take n) := by
  rw [← List.take_append_drop n a] at h
  exact (rise_append.1 h).1
theorem rise_drop {a : List Cell} (n : Nat) (h : Rise a) : Rise (a.drop n) := by
  rw [← List.take_append_drop n a] at h
  exact (rise_append.1 h).2.1

/-- cells, rising, with one -/
def withC (l : List Cell) (c : Cell) : List Cell := l.filter (fun d => kl d.1 c.1) ++ c :: l.filter (fun d => kl c.1 d.1)
/-- cells without that of a key -/
def without (l : List Cell) (k : ByteArray) : List Cell := l.filter (fun d => decide (d.1 ≠ k))
/-- a key's value -/
def get (l : List Cell) (k : ByteArray) : Option ByteArray := (l.find? fun d => decide (d.1 = k)).map (·.2)

theorem filter_all {p : Cell → Bool} {l : List Cell} (h : ∀ d ∈ l, p d = true) : l.filter p = l := List.filter_eq_self.2 h
theorem filter_none {p : Cell → Bool} {l : List Cell} (h : ∀ d ∈ l, p d = false) : l.filter p = [] := by
  rw [List.filter_eq_nil_iff]; intro d hd; rw [h d hd]; simp
theorem withC_mid {a b m : List Cell} {c : Cell} (ha : ∀ d ∈ a, kl d.1 c.1 = true) (hb : ∀ d ∈ b, kl c.1 d.1 = true) : withC (a ++ m ++ b) c = a ++ withC m c ++ b := by
  unfold withC
  rw [List.filter_append, List.filter_append, List.filter_append, List.filter_append]
  rw [filter_all ha, filter_all hb, filter_none (l := a) (fun d hd => kl_asymm (ha d hd)), filter_none (l := b) (fun d hd => kl_asymm (hb d hd))]
  simp
theorem without_mid {a b m : List Cell} {k : ByteArray} (ha : ∀ d ∈ a, kl d.1 k = true) (hb : ∀ d ∈ b, kl k d.1 = true) : without (a ++ m ++ b) k = a ++ without m k ++ b := by
  unfold without
  rw [List.filter_append, List.filter_append]
  rw [filter_all (l := a) (fun d hd => by simpa using kl_ne (ha d hd)), filter_all (l := b) (fun d hd => by simpa using (kl_ne (hb d hd)).symm)]
theorem get_mid {a b m : List Cell} {k : ByteArray} (ha : ∀ d ∈ a, kl d.1 k = true) (hb : ∀ d ∈ b, kl k d.1 = true) : get (a ++ m ++ b) k = get m k := by
  have h1 : a.find? (fun d => decide (d.1 = k)) = none := List.find?_eq_none.2 fun d hd => by simpa using kl_ne (ha d hd)
  have h2 : b.find? (fun d => decide (d.1 = k)) = none := List.find?_eq_none.2 fun d hd => by simpa using (kl_ne (hb d hd)).symm
  unfold get
  rw [List.append_assoc, List.find?_append, List.find?_append, h1, h2, Option.none_or, Option.or_none]

theorem mem_withC {l : List Cell} {c d : Cell} : d ∈ withC l c ↔ d = c ∨ (d ∈ l ∧ d.1 ≠ c.1) := by
  unfold withC
  simp only [List.mem_append, List.mem_filter, List.mem_cons]
  constructor
  · rintro (⟨h1, h2⟩ | rfl | ⟨h1, h2⟩)
    · exact .inr ⟨h1, kl_ne h2⟩
    · exact .inl rfl
    · exact .inr ⟨h1, (kl_ne h2).symm⟩
  · rintro (rfl | ⟨h1, h2⟩)
    · exact .inr (.inl rfl)
    · cases e : kl d.1 c.1 with
      | true => exact .inl ⟨h1, rfl⟩
      | false =>
        refine .inr (.inr ⟨h1, ?_⟩)
        cases e2 : kl c.1 d.1 with
        | true => rfl
        | false => exact absurd (kl_total e e2) h2
theorem mem_without {l : List Cell} {k : ByteArray} {d : Cell} : d ∈ without l k ↔ d ∈ l ∧ d.1 ≠ k := by simp [without]
theorem rise_filter {l : List Cell} (p : Cell → Bool) (h : Rise l) : Rise (l.filter p) := by
  induction l with
  | nil => simp [Rise]
  | cons c l ih =>
    rw [List.filter_cons]
    split
    · exact ⟨fun d hd => h.1 d (List.mem_filter.1 hd).1, ih h.2⟩
    · exact ih h.2
theorem rise_withC {l : List Cell} (c : Cell) (h : Rise l) : Rise (withC l c) := by
  unfold withC
  rw [rise_append]
  refine ⟨rise_filter _ h, ⟨fun d hd => (List.mem_filter.1 hd).2, rise_filter _ h⟩, fun x hx y hy => ?_⟩
  have h1 := (List.mem_filter.1 hx).2
  rcases List.mem_cons.1 hy with rfl | hy
  · exact h1
  · exact kl_trans h1 (List.mem_filter.1 hy).2
theorem rise_without {l : List Cell} (k : ByteArray) (h : Rise l) : Rise (without l k) := rise_filter _ h
theorem rise_ext {a b : List Cell} (ha : Rise a) (hb : Rise b) (h : ∀ d, d ∈ a ↔ d ∈ b) : a = b := by
  induction a generalizing b with
  | nil =>
    cases b with
    | nil => rfl
    | cons y b => exact absurd ((h y).2 (List.mem_cons_self)) (List.not_mem_nil)
  | cons x a ih =>
    cases b with
    | nil => exact absurd ((h x).1 (List.mem_cons_self)) (List.not_mem_nil)
    | cons y b =>
      have e : x = y := by
        rcases List.mem_cons.1 ((h x).1 List.mem_cons_self) with e | hx
        · exact e
        · rcases List.mem_cons.1 ((h y).2 List.mem_cons_self) with e | hy
          · exact e.symm
          · have h1 := hb.1 x hx
            have h2 := ha.1 y hy
            rw [kl_asymm h1] at h2; cases h2
      subst e
      rw [ih ha.2 hb.2]
      intro d
      have h1 := h d
      simp only [List.mem_cons] at h1
      constructor
      · intro hd
        rcases h1.1 (.inr hd) with rfl | h2
        · have := ha.1 d hd; rw [kl_irrefl] at this; cases this
        · exact h2
      · intro hd
        rcases h1.2 (.inr hd) with rfl | h2
        · have := hb.1 d hd; rw [kl_irrefl] at this; cases this
        · exact h2
theorem rise_inj {l : List Cell} (h : Rise l) {c d : Cell} (hc : c ∈ l) (hd : d ∈ l) (e : c.1 = d.1) : c = d := by
  induction l with
  | nil => cases hc
  | cons x l ih =>
    rcases List.mem_cons.1 hc with e1 | hc <;> rcases List.mem_cons.1 hd with e2 | hd
    · rw [e1, e2]
    · have := h.1 d hd; rw [← e1, e, kl_irrefl] at this; cases this
    · have := h.1 c hc; rw [← e2, e, kl_irrefl] at this; cases this
    · exact ih h.2 hc hd
theorem get_mem {l : List Cell} {c : Cell} (h : Rise l) (hc : c ∈ l) : get l c.1 = some c.2 := by
  unfold get
  cases hf : l.find? (fun d => decide (d.1 = c.1)) with
  | none => have := List.find?_eq_none.1 hf c hc; simp at this
  | some d =>
    have h1 := List.find?_some hf
    have h2 := List.mem_of_find?_eq_some hf
    rw [rise_inj h h2 hc (by simpa using h1)]; rfl
theorem get_none {l : List Cell} {k : ByteArray} : get l k = none ↔ ∀ d ∈ l, d.1 ≠ k := by
  unfold get
  rw [Option.map_eq_none_iff, List.find?_eq_none]; simp
theorem get_some_mem {l : List Cell} {k v : ByteArray} (h : get l k = some v) : (k, v) ∈ l := by
  unfold get at h
  rw [Option.map_eq_some_iff] at h
  obtain ⟨d, h1, rfl⟩ := h
  have h2 := List.find?_some h1
  have h3 := List.mem_of_find?_eq_some h1
  have h4 : d.1 = k := by simpa using h2
  rw [← h4]; exact h3
theorem get_iff {l : List Cell} (h : Rise l) {k v : ByteArray} : get l k = some v ↔ (k, v) ∈ l :=
  ⟨get_some_mem, fun hm => get_mem (c := (k, v)) h hm⟩
theorem length_withC {l : List Cell} {c : Cell} (h : Rise l) : (withC l c).length = if (get l c.1).isSome then l.length else l.length + 1 := by
  have key : ∀ l : List Cell, Rise l → (l.filter (fun d => kl d.1 c.1)).length + (l.filter (fun d => kl c.1 d.1)).length + (if (get l c.1).isSome then 1 else 0) = l.length := by
    intro l
    induction l with
    | nil => intro _; simp [get]
    | cons x l ih =>
      intro h
      have ih' := ih h.2
      simp only [List.filter_cons, List.length_cons]
      cases e1 : kl x.1 c.1 with
      | true =>
        rw [kl_asymm e1]
        have hg : get (x :: l) c.1 = get l c.1 := by simp [get, kl_ne e1]
        rw [hg]; simp; omega
      | false =>
        cases e2 : kl c.1 x.1 with
        | true =>
          have hg : get (x :: l) c.1 = get l c.1 := by simp [get, (kl_ne e2).symm]
          rw [hg]; simp; omega
        | false =>
          have e := kl_total e1 e2
          have hg : get (x :: l) c.1 = some x.2 := by simp [get, e]
          have hn : get l c.1 = none := get_none.2 fun d hd e3 => by
            have := h.1 d hd; rw [e3, e, kl_irrefl] at this; cases this
          rw [hn] at ih'
          rw [hg]; simp at *; omega
  have := key l h
  unfold withC
  rw [List.length_append, List.length_cons]
  split <;> rename_i h1 <;> simp only [h1] at this <;> simp at this <;> omega
theorem length_without {l : List Cell} {k : ByteArray} (h : Rise l) : (without l k).length = if (get l k).isSome then l.length - 1 else l.length := by
  induction l with
  | nil => simp [without, get]
  | cons x l ih =>
    have ih' := ih h.2
    unfold without at *
    rw [List.filter_cons]
    by_cases e : x.1 = k
    · have hg : get (x :: l) k = some x.2 := by simp [get, e]
      have hn : get l k = none := get_none.2 fun d hd e3 => by
        have := h.1 d hd; rw [e3, e, kl_irrefl] at this; cases this
      rw [hn] at ih'
      rw [hg]; simp [e] at *; omega
    · have hg : get (x :: l) k = get l k := by simp [get, e]
      rw [hg]
      simp only [e, ne_eq, not_false_eq_true, decide_true, if_true, List.length_cons, ih']
      split
      · rename_i h1
        have : l ≠ [] := by rintro rfl; simp [get] at h1
        have := List.length_pos_iff.2 this
        omega
      · rfl
theorem length_without_lt {l : List Cell} {k : ByteArray} (h : Rise l) (hk : (get l k).isSome = true) : (without l k).length + 1 = l.length := by
  rw [length_without h, if_pos hk]
  have : l ≠ [] := by rintro rfl; simp [get] at hk
  have := List.length_pos_iff.2 this
  omega

/-! ### Trees -/
inductive Kt where
  | mk (cells : List Cell) (keys : List ByteArray) (kids : List Kt)

def Kt.cells : Kt → List Cell | .mk c _ _ => c
def Kt.keys : Kt → List ByteArray | .mk _ k _ => k
def Kt.kids : Kt → List Kt | .mk _ _ k => k

theorem ind {P : Kt → Prop} (h : ∀ cells keys kids, (∀ k ∈ kids, P k) → P (.mk cells keys kids)) (t : Kt) : P t :=
  Kt.rec (motive_1 := P) (motive_2 := fun l => ∀ k ∈ l, P k) (fun cells keys kids ih => h cells keys kids ih) (fun k hk => absurd hk List.not_mem_nil)
    (fun x l hx hl k hk => by
      rcases List.mem_cons.1 hk with rfl | hk
      · exact hx
      · exact hl k hk) t

mutual
  /-- all cells, from the left -/
  def flat : Kt → List Cell
    | .mk cells _ kids => cells ++ flatL kids
  def flatL : List Kt → List Cell
    | [] => []
    | k :: l => flat k ++ flatL l
end
theorem flatL_append (a b : List Kt) : flatL (a ++ b) = flatL a ++ flatL b := by
  induction a with
  | nil => simp [flatL]
  | cons k a ih => simp [flatL, ih]

mutual
  def height : Kt → Nat
    | .mk _ _ kids => heightL kids + 1
  def heightL : List Kt → Nat
    | [] => 0
    | k :: l => max (height k) (heightL l)
end
theorem height_mem {l : List Kt} {k : Kt} (h : k ∈ l) : height k ≤ heightL l := by
  induction l with
  | nil => cases h
  | cons x l ih =>
    rw [heightL]
    rcases List.mem_cons.1 h with rfl | h
    · omega
    · have := ih h; omega
theorem flat_mem_le {l : List Kt} {k : Kt} (h : k ∈ l) : (flat k).length ≤ (flatL l).length := by
  induction l with
  | nil => cases h
  | cons x l ih =>
    rw [flatL, List.length_append]
    rcases List.mem_cons.1 h with rfl | h
    · omega
    · have := ih h; omega

/-- from lo on, ahead of hi -/
def InB (lo hi : Option ByteArray) (c : Cell) : Prop := (∀ l, lo = some l → kl c.1 l = false) ∧ (∀ u, hi = some u → kl c.1 u = true)

mutual
  /-- a tree that may be, of height h, whose leaf has ml cells or more, whose inner knot mi kids or more, all cells of which lie between lo and hi -/
  def Inv (ml mi h : Nat) (lo hi : Option ByteArray) : Kt → Prop
    | .mk cells keys kids => (kids = [] ∧ keys = [] ∧ h = 1 ∧ ml ≤ cells.length ∧ cells.length ≤ 4 ∧ Rise cells ∧ ∀ c ∈ cells, InB lo hi c) ∨
        (cells = [] ∧ mi ≤ kids.length ∧ kids.length ≤ 4 ∧ 2 ≤ h ∧ InvL (h - 1) lo hi keys kids)
  def InvL (h : Nat) (lo hi : Option ByteArray) (keys : List ByteArray) : List Kt → Prop
    | [] => False
    | kid :: kids => match keys with
      | [] => kids = [] ∧ Inv 2 2 h lo hi kid
      | k :: ks => Inv 2 2 h lo (some k) kid ∧ InvL h (some k) hi ks kids
end

theorem inv_weak {ml mi ml' mi' h : Nat} {lo hi : Option ByteArray} {t : Kt} (h1 : ml' ≤ ml) (h2 : mi' ≤ mi) (H : Inv ml mi h lo hi t) : Inv ml' mi' h lo hi t := by
  cases t with
  | mk cells keys kids =>
    rw [Inv] at *
    rcases H with ⟨a, b, c, d, e⟩ | ⟨a, b, c⟩
    · exact .inl ⟨a, b, c, by omega, e⟩
    · exact .inr ⟨a, by omega, c⟩

end Go.Proofs.Ytkkddnmpehoeoaa.TreeP
