/- The plain side of layer 20, del and get: trees that may be stay so, and have the cells that they must. -/
import Derived.Test.YtkkddnmpehoeoaaTreeLaw
namespace Go.Proofs.Ytkkddnmpehoeoaa.TreeP
set_option linter.unusedVariables false

/-! ### Get -/
mutual
  def findP (key : ByteArray) : Kt → Option ByteArray
    | .mk cells keys kids => if kids.isEmpty then (if placed cells key then (cells[place cells key]?).map (·.2) else none) else findAt key (way keys key) kids
  def findAt (key : ByteArray) (i : Nat) : List Kt → Option ByteArray
    | [] => none
    | k :: l => match i with
      | 0 => findP key k
      | i + 1 => findAt key i l
end
theorem findAt_get {key : ByteArray} {i : Nat} {l : List Kt} {k : Kt} (h : l[i]? = some k) : findAt key i l = findP key k := by
  induction l generalizing i with
  | nil => simp at h
  | cons a l ih =>
    cases i with
    | zero => simp at h; rw [findAt, h]
    | succ i => rw [findAt]; exact ih (by simpa using h)
theorem inner_get {h : Nat} {lo hi m m' : Option ByteArray} {l l1 l2 : List Kt} {ks1 ks2 : List ByteArray} {kid : Kt} {c : Cell} (e : l = l1 ++ [kid] ++ l2) (P : Pre h m lo ks1 l1) (S : Suf h hi m' ks2 l2) (hc : InB m m' c) :
    get (flatL l) c.1 = get (flat kid) c.1 := by
  rw [e]
  simp only [flatL_append]
  rw [get_mid (pre_lt P hc) (suf_gt S hc)]
  simp [flatL]
theorem find_ok {key : ByteArray} {t : Kt} : ∀ {ml mi h : Nat} {lo hi : Option ByteArray}, 1 ≤ mi → Inv ml mi h lo hi t → InB lo hi (key, key) → findP key t = get (flat t) key := by
  refine ind (P := fun t => ∀ {ml mi h : Nat} {lo hi : Option ByteArray}, 1 ≤ mi → Inv ml mi h lo hi t → InB lo hi (key, key) → findP key t = get (flat t) key) ?_ t
  intro cells keys kids ih ml mi h lo hi hm H hc
  cases kids with
  | nil =>
    obtain ⟨rfl, rfl, h1, h2, h3, h4⟩ := inv_leaf H hm
    rw [findP, flat, flatL, List.append_nil]
    simp only [List.isEmpty_nil, if_true]
    exact (leaf_get h3).symm
  | cons kid kids =>
    obtain ⟨rfl, h1, h2, h3, h4⟩ := inv_inner H
    obtain ⟨m, m', k, g1, g0, g2, g3, g4, g5⟩ := split h4 hc
    have hk : k ∈ kid :: kids := List.mem_of_getElem? g1
    rw [findP, flat, List.nil_append]
    simp only [List.isEmpty_cons, Bool.false_eq_true, if_false]
    rw [findAt_get g1, ih k hk (by omega) g3 g5]
    exact (inner_get (c := (key, key)) g0 g2 g4 g5).symm

/-! ### Del -/
def bothP (a : Kt) (key : ByteArray) (b : Kt) : List Kt × List ByteArray :=
  if a.kids.isEmpty then leavesP (a.cells ++ b.cells) else innersP (a.kids ++ b.kids) (a.keys ++ [key] ++ b.keys)

/-- what follows the deletion in a kid: kids, keys, where it was -/
def mend (kids : List Kt) (keys : List ByteArray) (i : Nat) : Kt :=
  match kids[i]?, keys[i]?, kids[i + 1]? with
  | some a, some k, some b => .mk [] (keys.take i ++ (bothP a k b).2 ++ keys.drop (i + 1)) (kids.take i ++ (bothP a k b).1 ++ kids.drop (i + 2))
  | _, _, _ => .mk [] keys kids

mutual
  def delP (key : ByteArray) : Kt → Kt
    | .mk cells keys kids => if kids.isEmpty then .mk (cells.take (place cells key) ++ cells.drop (place cells key + 1)) [] []
      else if 2 ≤ (delAt key (way keys key) kids).cells.length ∨ 2 ≤ (delAt key (way keys key) kids).kids.length then .mk [] keys (kids.take (way keys key) ++ [delAt key (way keys key) kids] ++ kids.drop (way keys key + 1))
      else mend (kids.take (way keys key) ++ [delAt key (way keys key) kids] ++ kids.drop (way keys key + 1)) keys (way keys key - 1)
  def delAt (key : ByteArray) (i : Nat) : List Kt → Kt
    | [] => .mk [] [] []
    | k :: l => match i with
      | 0 => delP key k
      | i + 1 => delAt key i l
end
theorem delAt_get {key : ByteArray} {i : Nat} {l : List Kt} {k : Kt} (h : l[i]? = some k) : delAt key i l = delP key k := by
  induction l generalizing i with
  | nil => simp at h
  | cons a l ih =>
    cases i with
    | zero => simp at h; rw [delAt, h]
    | succ i => rw [delAt]; exact ih (by simpa using h)

theorem invL_app {h : Nat} {lo hi : Option ByteArray} {k : ByteArray} {ks1 ks2 : List ByteArray} {l1 l2 : List Kt} (H : InvL h lo (some k) ks1 l1) (G : InvL h (some k) hi ks2 l2) : InvL h lo hi (ks1 ++ [k] ++ ks2) (l1 ++ l2) := by
  have := mid_glue H (invL_suf G)
  simpa using this

/-- two neighbours, of which one may be thin -/
theorem both_ok {h : Nat} {lo hi : Option ByteArray} {k : ByteArray} {a b : Kt} (Ha : Inv 1 1 h lo (some k) a) (Hb : Inv 1 1 h (some k) hi b) (h3 : 3 ≤ a.cells.length + b.cells.length + a.kids.length + b.kids.length) :
    PutOk 2 2 h lo hi (bothP a k b) ∧ flatL (bothP a k b).1 = flat a ++ flat b := by
  obtain ⟨ca, ka, la⟩ := a
  obtain ⟨cb, kb, lb⟩ := b
  have ba := (inv_inB (by omega) Ha).1
  have bb := (inv_inB (by omega) Hb).1
  unfold bothP
  simp only [Kt.kids, Kt.cells, Kt.keys] at *
  cases la with
  | nil =>
    obtain ⟨rfl, rfl, p1, p2, p3, p4⟩ := inv_leaf Ha (by omega)
    cases lb with
    | cons x y => obtain ⟨_, _, _, q1, _⟩ := inv_inner Hb; omega
    | nil =>
      obtain ⟨rfl, _, q1, q2, q3, q4⟩ := inv_leaf Hb (by omega)
      simp only [List.isEmpty_nil, if_true, flat, flatL, List.append_nil] at *
      simp at h3
      have hx : ∃ c, c ∈ cb := List.exists_mem_of_length_pos (by omega)
      obtain ⟨cx, hcx⟩ := hx
      have hy : ∃ c, c ∈ ca := List.exists_mem_of_length_pos (by omega)
      obtain ⟨cy, hcy⟩ := hy
      refine leaves_ok (by rw [List.length_append]; omega) (by rw [List.length_append]; omega) (rise_append.2 ⟨p3, q3, fun x hx y hy => inB_trans (p4 x hx) (q4 y hy)⟩) fun c hc => ?_
      rcases List.mem_append.1 hc with hc | hc
      · exact inB_left (p4 c hc) (q4 cx hcx)
      · exact inB_right (p4 cy hcy) (q4 c hc)
  | cons x y =>
    obtain ⟨rfl, p1, p2, p3, p4⟩ := inv_inner Ha
    cases lb with
    | nil => have := inv_leaf Hb (by omega); omega
    | cons z u =>
      obtain ⟨rfl, q1, q2, q3, q4⟩ := inv_inner Hb
      simp only [List.isEmpty_cons, Bool.false_eq_true, if_false]
      have := invL_app p4 q4
      have h4 := inners_ok (ml := 2) (mi := 2) (by omega) (by simp only [List.length_append, List.length_nil] at h3 ⊢; omega) (by simp only [List.length_append]; omega) this
      rw [show h - 1 + 1 = h by omega] at h4
      refine ⟨h4.1, ?_⟩
      rw [h4.2, flatL_append, flat, flat]; rfl

theorem pre_last {h : Nat} {lo m : Option ByteArray} {k : ByteArray} {ks : List ByteArray} {a : Kt} {l : List Kt} (P : Pre h m lo (ks ++ [k]) (l ++ [a])) : m = some k ∧ ∃ m0, Pre h m0 lo ks l ∧ Inv 2 2 h m0 (some k) a := by
  induction l generalizing lo ks with
  | nil =>
    cases ks with
    | nil => exact ⟨P.2, lo, rfl, P.1⟩
    | cons k2 ks => cases ks <;> simp [Pre] at P
  | cons b l ih =>
    cases ks with
    | nil => cases l <;> simp [Pre] at P
    | cons k2 ks =>
      obtain ⟨e, m0, h1, h2⟩ := ih P.2
      exact ⟨e, m0, ⟨P.1, h1⟩, h2⟩

theorem pre_len {h : Nat} {m lo : Option ByteArray} {ks : List ByteArray} {l : List Kt} (P : Pre h m lo ks l) : ks.length = l.length := by
  induction l generalizing lo ks with
  | nil => cases ks with
    | nil => rfl
    | cons k ks => simp [Pre] at P
  | cons a l ih => cases ks with
    | nil => simp [Pre] at P
    | cons k ks => simp [ih P.2]
theorem suf_len {h : Nat} {m hi : Option ByteArray} {ks : List ByteArray} {l : List Kt} (S : Suf h hi m ks l) : ks.length = l.length := by
  induction l generalizing m ks with
  | nil => cases ks with
    | nil => rfl
    | cons k ks => simp [Suf] at S
  | cons a l ih => cases ks with
    | nil => simp [Suf] at S
    | cons k ks =>
      obtain ⟨_, _, _, h2⟩ := S
      simp [ih h2]

theorem mend_at {ks1 ks2 : List ByteArray} {l1 l2 : List Kt} {a b : Kt} {k : ByteArray} (h : ks1.length = l1.length) :
    mend (l1 ++ a :: b :: l2) (ks1 ++ k :: ks2) l1.length = .mk [] (ks1 ++ (bothP a k b).2 ++ ks2) (l1 ++ (bothP a k b).1 ++ l2) := by
  unfold mend
  have e1 : (l1 ++ a :: b :: l2)[l1.length]? = some a := by simp
  have e2 : (l1 ++ a :: b :: l2)[l1.length + 1]? = some b := by
    rw [List.getElem?_append_right (by omega), show l1.length + 1 - l1.length = 1 by omega]; rfl
  have e3 : (ks1 ++ k :: ks2)[l1.length]? = some k := by rw [← h]; simp
  rw [e1, e2, e3]
  simp only []
  have f1 : (ks1 ++ k :: ks2).take l1.length = ks1 := by rw [← h]; simp
  have f2 : (ks1 ++ k :: ks2).drop (l1.length + 1) = ks2 := by
    rw [← h, show ks1 ++ k :: ks2 = (ks1 ++ [k]) ++ ks2 by simp, show ks1.length + 1 = (ks1 ++ [k]).length by simp, List.drop_left]
  have f3 : (l1 ++ a :: b :: l2).take l1.length = l1 := by simp
  have f4 : (l1 ++ a :: b :: l2).drop (l1.length + 2) = l2 := by
    rw [show l1 ++ a :: b :: l2 = (l1 ++ [a, b]) ++ l2 by simp, show l1.length + 2 = (l1 ++ [a, b]).length by simp, List.drop_left]
  rw [f1, f2, f3, f4]

/-- a thin kid among its brothers -/
theorem mend_ok {h : Nat} {lo hi m m' : Option ByteArray} {ks1 ks2 : List ByteArray} {l1 l2 : List Kt} {kid : Kt} (h0 : 1 ≤ h) (P : Pre h m lo ks1 l1) (H : Inv 1 1 h m m' kid) (S : Suf h hi m' ks2 l2)
    (h4 : l1.length + 1 + l2.length ≤ 4) (h2 : 2 ≤ l1.length + 1 + l2.length) :
    Inv 0 1 (h + 1) lo hi (mend (l1 ++ [kid] ++ l2) (ks1 ++ ks2) (l1.length - 1)) ∧ flat (mend (l1 ++ [kid] ++ l2) (ks1 ++ ks2) (l1.length - 1)) = flatL (l1 ++ [kid] ++ l2) := by
  have hp := pre_len P
  have hs := suf_len S
  have thin : ∀ {h : Nat} {lo hi : Option ByteArray} {t : Kt}, Inv 2 2 h lo hi t → (t.kids = [] ∧ 2 ≤ t.cells.length ∧ h = 1) ∨ (2 ≤ t.kids.length ∧ 2 ≤ h) := by
    rintro h lo hi ⟨c, k, l⟩ H
    cases l with
    | nil => have := inv_leaf H (by omega); exact .inl ⟨rfl, this.2.2.1, this.2.1⟩
    | cons x y => have := inv_inner H; exact .inr ⟨this.2.1, this.2.2.2.1⟩
  have thin1 : ∀ {h : Nat} {lo hi : Option ByteArray} {t : Kt}, Inv 1 1 h lo hi t → (t.kids = [] ∧ 1 ≤ t.cells.length ∧ h = 1) ∨ (1 ≤ t.kids.length ∧ 2 ≤ h) := by
    rintro h lo hi ⟨c, k, l⟩ H
    cases l with
    | nil => have := inv_leaf H (by omega); exact .inl ⟨rfl, this.2.2.1, this.2.1⟩
    | cons x y => have := inv_inner H; exact .inr ⟨this.2.1, this.2.2.2.1⟩
  rcases List.eq_nil_or_concat l1 with rfl | ⟨l1, a, rfl⟩
  · obtain rfl : ks1 = [] := List.eq_nil_of_length_eq_zero hp
    cases l2 with
    | nil => simp at h2
    | cons b l2 =>
      cases ks2 with
      | nil => simp at hs
      | cons k ks2 =>
        obtain ⟨rfl, m2, Hb, S2⟩ := S
        obtain rfl : lo = m := P.symm
        have Hb1 : Inv 1 1 h (some k) m2 b := inv_weak (by omega) (by omega) Hb
        obtain ⟨r1, r2⟩ := both_ok H Hb1 (by rcases thin Hb with h | h <;> rcases thin1 H with g | g <;> omega)
        obtain ⟨r3, r4, r5⟩ := putOk_two r1
        have hm := mend_at (ks1 := []) (ks2 := ks2) (l1 := []) (l2 := l2) (a := kid) (b := b) (k := k) rfl
        simp only [List.nil_append, List.length_nil] at hm
        simp only [List.nil_append, List.length_nil, List.singleton_append, Nat.zero_sub]
        rw [hm]
        simp only [List.length_cons, List.length_nil] at h4
        refine ⟨inv_mk_inner (by rw [List.length_append]; omega) (by rw [List.length_append]; omega) h0 (mid_glue r3 S2), ?_⟩
        rw [flat, List.nil_append, flatL_append, r2]
        simp [flatL]
  · rcases List.eq_nil_or_concat ks1 with rfl | ⟨ks1, k, rfl⟩
    · simp at hp
    · rw [List.concat_eq_append] at *
      rw [List.concat_eq_append] at *
      obtain ⟨rfl, m0, P0, Ha⟩ := pre_last P
      have Ha1 : Inv 1 1 h m0 (some k) a := inv_weak (by omega) (by omega) Ha
      obtain ⟨r1, r2⟩ := both_ok Ha1 H (by rcases thin Ha with h | h <;> rcases thin1 H with g | g <;> omega)
      obtain ⟨r3, r4, r5⟩ := putOk_two r1
      have hp0 := pre_len P0
      have hm := mend_at (ks1 := ks1) (ks2 := ks2) (l1 := l1) (l2 := l2) (a := a) (b := kid) (k := k) hp0
      have e1 : l1 ++ [a] ++ [kid] ++ l2 = l1 ++ a :: kid :: l2 := by simp
      have e2 : ks1 ++ [k] ++ ks2 = ks1 ++ k :: ks2 := by simp
      have e3 : (l1 ++ [a]).length - 1 = l1.length := by simp
      rw [e1, e2, e3, hm]
      simp only [List.length_append, List.length_singleton] at h4
      refine ⟨inv_mk_inner (by simp only [List.length_append]; omega) (by simp only [List.length_append]; omega) h0 (glue P0 r3 S), ?_⟩
      rw [flat, List.nil_append, flatL_append, flatL_append, r2, flatL_append]
      simp [flatL]

theorem del_ok {key : ByteArray} {t : Kt} : ∀ {ml h : Nat} {lo hi : Option ByteArray}, Inv ml 2 h lo hi t → InB lo hi (key, key) → (get (flat t) key).isSome = true → Inv (ml - 1) 1 h lo hi (delP key t) ∧ flat (delP key t) = without (flat t) key := by
  refine ind (P := fun t => ∀ {ml h : Nat} {lo hi : Option ByteArray}, Inv ml 2 h lo hi t → InB lo hi (key, key) → (get (flat t) key).isSome = true → Inv (ml - 1) 1 h lo hi (delP key t) ∧ flat (delP key t) = without (flat t) key) ?_ t
  intro cells keys kids ih ml h lo hi H hc hg
  cases kids with
  | nil =>
    obtain ⟨rfl, rfl, h1, h2, h3, h4⟩ := inv_leaf H (by omega)
    rw [flat, flatL, List.append_nil] at hg ⊢
    have hp : placed cells key = true := by rw [placed_iff h3]; exact hg
    rw [delP]
    simp only [List.isEmpty_nil, if_true]
    rw [leaf_without h3 hp, flat, flatL, List.append_nil]
    have hl := length_without_lt h3 hg
    exact ⟨inv_mk_leaf (by omega) (by omega) (rise_without key h3) fun c hc => h4 c (mem_without.1 hc).1, rfl⟩
  | cons kid kids =>
    obtain ⟨rfl, h1, h2, h3, h4⟩ := inv_inner H
    obtain ⟨m, m', k, g1, g0, g2, g3, g4, g5⟩ := split h4 hc
    have hk : k ∈ kid :: kids := List.mem_of_getElem? g1
    rw [flat, List.nil_append] at hg ⊢
    rw [inner_get (c := (key, key)) g0 g2 g4 g5] at hg
    obtain ⟨q1, q2⟩ := ih k hk g3 g5 hg
    rw [delP]
    simp only [List.isEmpty_cons, Bool.false_eq_true, if_false]
    rw [delAt_get g1]
    have hlen := congrArg List.length g0
    simp only [List.length_append, List.length_singleton] at hlen
    have hfl : flatL ((kid :: kids).take (way keys key) ++ [delP key k] ++ (kid :: kids).drop (way keys key + 1)) = without (flatL (kid :: kids)) key := by
      conv => rhs; rw [g0]
      simp only [flatL_append]
      rw [without_mid (pre_lt g2 g5) (suf_gt g4 g5)]
      simp only [flatL, List.append_nil]
      rw [q2]
    have hwl : ((kid :: kids).take (way keys key)).length = way keys key := by
      have := (List.getElem?_eq_some_iff.1 g1).1
      rw [List.length_take]; simp only [] at this; omega
    split
    · rename_i h5
      have q3 : Inv 2 2 (h - 1) m m' (delP key k) := by
        revert q1 h5
        cases delP key k with
        | mk c ky kd =>
          intro q1 h5
          cases kd with
          | nil =>
            obtain ⟨rfl, r1, r2, r3, r4, r5⟩ := inv_leaf q1 (by omega)
            subst_vars
            rw [r1]
            exact inv_mk_leaf (by simpa [Kt.cells, Kt.kids] using h5) r3 r4 r5
          | cons x y =>
            obtain ⟨rfl, r1, r2, r3, r4⟩ := inv_inner q1
            rw [show h - 1 = (h - 1 - 1) + 1 by omega]
            exact inv_mk_inner (by simpa [Kt.cells, Kt.kids] using h5) r2 (by omega) r4
      refine ⟨?_, by rw [flat, List.nil_append]; exact hfl⟩
      have hgl := glue g2 (invL_one q3) g4
      have e : List.take (way keys key) keys ++ [] ++ List.drop (way keys key) keys = keys := by simp
      rw [e] at hgl
      have := inv_mk_inner (ml := ml - 1) (mi := 1) (by simp only [List.length_append]; simp; omega) (by simp only [List.length_append, List.length_singleton]; omega) (by omega) hgl
      rwa [show h - 1 + 1 = h by omega] at this
    · have := mend_ok (by omega) g2 q1 g4 (by simp only []; omega) (by simp only []; omega)
      rw [hwl, List.take_append_drop, show h - 1 + 1 = h by omega] at this
      refine ⟨?_, by rw [this.2]; exact hfl⟩
      have h6 := this.1
      revert h6
      cases hmd : mend ((kid :: kids).take (way keys key) ++ [delP key k] ++ (kid :: kids).drop (way keys key + 1)) keys (way keys key - 1) with
      | mk c ky kd =>
        intro h6
        cases kd with
        | nil => have := inv_leaf h6 (by omega); omega
        | cons x y =>
          obtain ⟨rfl, r1, r2, r3, r4⟩ := inv_inner h6
          rw [show h = (h - 1) + 1 by omega]
          exact inv_mk_inner r1 r2 (by omega) r4

/-- a tree without a cell -/
def delT (key : ByteArray) (t : Kt) : Kt := match (delP key t).kids with
  | [k] => k
  | _ => delP key t
theorem delT_ok {key : ByteArray} {t : Kt} {h : Nat} (H : Inv 0 2 h none none t) (hg : (get (flat t) key).isSome = true) :
    (Inv 0 2 h none none (delT key t) ∨ (2 ≤ h ∧ Inv 0 2 (h - 1) none none (delT key t))) ∧ flat (delT key t) = without (flat t) key := by
  obtain ⟨h1, h2⟩ := del_ok H (inB_none _) hg
  unfold delT
  rw [← h2]
  revert h1
  cases delP key t with
  | mk c ky kd =>
    intro h1
    simp only [Kt.kids]
    match kd with
    | [] =>
      obtain ⟨rfl, rfl, r1, r2, r3, r4⟩ := inv_leaf h1 (by omega)
      exact ⟨.inl (inv_mk_leaf (by omega) r2 r3 r4), rfl⟩
    | [k] =>
      obtain ⟨rfl, r1, r2, r3, r4⟩ := inv_inner h1
      cases ky with
      | nil =>
        rw [invL_nil] at r4
        exact ⟨.inr ⟨r3, inv_weak (by omega) (by omega) r4.2⟩, by simp [flat, flatL]⟩
      | cons k ks => rw [invL_cons, InvL] at r4; exact r4.2.elim
    | a :: b :: l =>
      obtain ⟨rfl, r1, r2, r3, r4⟩ := inv_inner h1
      have := inv_mk_inner (ml := 0) (mi := 2) (by simp) r2 (by omega) r4
      rw [show h - 1 + 1 = h by omega] at this
      exact ⟨.inl this, rfl⟩

end Go.Proofs.Ytkkddnmpehoeoaa.TreeP
