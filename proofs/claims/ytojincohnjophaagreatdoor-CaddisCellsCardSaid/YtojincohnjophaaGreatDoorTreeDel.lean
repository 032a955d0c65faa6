/- The plain side of layer 20, del and get: trees that may be stay so, and have the cells that they must. -/
import Derived.Test.YtojincohnjophaaGreatDoorTreePure
/-! The plain side of layer 20, put and del: trees that may be stay so, and have the cells that they must. -/
namespace Go.Proofs.YtojincohnjophaaGreatDoor.TreeP
set_option linter.unusedVariables false

/-! ### What is bounded -/
theorem inv_leaf {ml mi h : Nat} {lo hi : Option ByteArray} {cells : List Cell} {keys : List ByteArray} (H : Inv ml mi h lo hi (.mk cells keys [])) (hm : 1 ≤ mi) :
    keys = [] ∧ h = 1 ∧ ml ≤ cells.length ∧ cells.length ≤ 4 ∧ Rise cells ∧ ∀ c ∈ cells, InB lo hi c := by
  rw [Inv] at H
  rcases H with ⟨_, a⟩ | ⟨_, a, _⟩
  · exact a
  · simp at a; omega
theorem inv_inner {ml mi h : Nat} {lo hi : Option ByteArray} {cells : List Cell} {keys : List ByteArray} {kid : Kt} {kids : List Kt} (H : Inv ml mi h lo hi (.mk cells keys (kid :: kids))) :
    cells = [] ∧ mi ≤ (kid :: kids).length ∧ (kid :: kids).length ≤ 4 ∧ 2 ≤ h ∧ InvL (h - 1) lo hi keys (kid :: kids) := by
  rw [Inv] at H
  rcases H with ⟨a, _⟩ | a
  · cases a
  · exact a
theorem inv_mk_leaf {ml mi : Nat} {lo hi : Option ByteArray} {cells : List Cell} (h1 : ml ≤ cells.length) (h2 : cells.length ≤ 4) (h3 : Rise cells) (h4 : ∀ c ∈ cells, InB lo hi c) : Inv ml mi 1 lo hi (.mk cells [] []) := by
  rw [Inv]; exact .inl ⟨rfl, rfl, rfl, h1, h2, h3, h4⟩
theorem inv_mk_inner {ml mi h : Nat} {lo hi : Option ByteArray} {keys : List ByteArray} {kids : List Kt} (h1 : mi ≤ kids.length) (h2 : kids.length ≤ 4) (h3 : 1 ≤ h) (h4 : InvL h lo hi keys kids) : Inv ml mi (h + 1) lo hi (.mk [] keys kids) := by
  rw [Inv]; exact .inr ⟨rfl, h1, h2, by omega, h4⟩
theorem invL_one {h : Nat} {lo hi : Option ByteArray} {kid : Kt} (H : Inv 2 2 h lo hi kid) : InvL h lo hi [] [kid] := by rw [InvL]; exact ⟨rfl, H⟩
theorem invL_two {h : Nat} {lo hi : Option ByteArray} {k : ByteArray} {a b : Kt} (H : Inv 2 2 h lo (some k) a) (G : Inv 2 2 h (some k) hi b) : InvL h lo hi [k] [a, b] := by
  rw [InvL]; exact ⟨H, invL_one G⟩
theorem invL_cons {h : Nat} {lo hi : Option ByteArray} {k : ByteArray} {ks : List ByteArray} {a : Kt} {l : List Kt} : InvL h lo hi (k :: ks) (a :: l) ↔ Inv 2 2 h lo (some k) a ∧ InvL h (some k) hi ks l := by
  rw [InvL]
theorem invL_nil {h : Nat} {lo hi : Option ByteArray} {a : Kt} {l : List Kt} : InvL h lo hi [] (a :: l) ↔ l = [] ∧ Inv 2 2 h lo hi a := by
  rw [InvL]
theorem invL_len {h : Nat} {lo hi : Option ByteArray} {keys : List ByteArray} {kids : List Kt} (H : InvL h lo hi keys kids) : keys.length + 1 = kids.length := by
  induction kids generalizing lo keys with
  | nil => rw [InvL] at H; exact H.elim
  | cons a l ih =>
    cases keys with
    | nil => rw [invL_nil] at H; rw [H.1]; rfl
    | cons k ks =>
      rw [invL_cons] at H
      have := ih H.2
      simp; omega

/-- how many cells there are -/
theorem inv_count {t : Kt} : ∀ {h : Nat} {lo hi : Option ByteArray}, Inv 2 2 h lo hi t → 2 ^ h ≤ (flat t).length ∧ 1 ≤ h := by
  refine ind (P := fun t => ∀ {h : Nat} {lo hi : Option ByteArray}, Inv 2 2 h lo hi t → 2 ^ h ≤ (flat t).length ∧ 1 ≤ h) ?_ t
  intro cells keys kids ih h lo hi H
  rw [flat, List.length_append]
  cases kids with
  | nil =>
    obtain ⟨_, rfl, h1, _⟩ := inv_leaf H (by omega)
    exact ⟨by simp; omega, by omega⟩
  | cons kid kids =>
    obtain ⟨_, h1, _, h2, h3⟩ := inv_inner H
    refine ⟨?_, by omega⟩
    have key : ∀ (l : List Kt) (lo : Option ByteArray) (ks : List ByteArray), (∀ k ∈ l, ∀ {h : Nat} {lo hi : Option ByteArray}, Inv 2 2 h lo hi k → 2 ^ h ≤ (flat k).length ∧ 1 ≤ h) → InvL (h - 1) lo hi ks l → l.length * 2 ^ (h - 1) ≤ (flatL l).length := by
      intro l
      induction l with
      | nil => intro lo ks _ _; simp
      | cons a l ihl =>
        intro lo ks hp hI
        rw [flatL, List.length_append, List.length_cons, Nat.add_mul, Nat.one_mul]
        cases ks with
        | nil =>
          rw [invL_nil] at hI
          obtain ⟨rfl, hI⟩ := hI
          have := (hp a List.mem_cons_self hI).1
          simp [flatL]; omega
        | cons k ks =>
          rw [invL_cons] at hI
          have h1 := (hp a List.mem_cons_self hI.1).1
          have h2 := ihl _ _ (fun k hk => hp k (List.mem_cons_of_mem _ hk)) hI.2
          omega
    have h4 := key _ _ _ ih h3
    have h5 : 2 * 2 ^ (h - 1) ≤ (kid :: kids).length * 2 ^ (h - 1) := Nat.mul_le_mul_right _ h1
    have h6 : 2 ^ h = 2 * 2 ^ (h - 1) := by
      obtain ⟨g, rfl⟩ : ∃ g, h = g + 1 := ⟨h - 1, by omega⟩
      rw [Nat.pow_succ, Nat.mul_comm]; rfl
    omega
theorem inv_some {t : Kt} {h : Nat} {lo hi : Option ByteArray} (H : Inv 2 2 h lo hi t) : ∃ c, c ∈ flat t := by
  have := (inv_count H).1
  have h6 : 0 < 2 ^ h := Nat.pow_pos (by omega)
  exact List.exists_mem_of_length_pos (by omega)

theorem inB_trans {lo hi : Option ByteArray} {k : ByteArray} {c d : Cell} (hc : InB lo (some k) c) (hd : InB (some k) hi d) : kl c.1 d.1 = true := kl_lt_le (hc.2 k rfl) (hd.1 k rfl)
theorem inB_left {lo hi : Option ByteArray} {k : ByteArray} {c d : Cell} (hc : InB lo (some k) c) (hd : InB (some k) hi d) : InB lo hi c :=
  ⟨hc.1, fun u hu => kl_trans (inB_trans hc hd) (hd.2 u hu)⟩
theorem inB_right {lo hi : Option ByteArray} {k : ByteArray} {c d : Cell} (hc : InB lo (some k) c) (hd : InB (some k) hi d) : InB lo hi d :=
  ⟨fun l hl => kl_asymm (kl_le_lt (hc.1 l hl) (inB_trans hc hd)), hd.2⟩

theorem invL_inB {h : Nat} {kids : List Kt} (ih : ∀ k ∈ kids, ∀ {lo hi : Option ByteArray}, Inv 2 2 h lo hi k → (∀ c ∈ flat k, InB lo hi c) ∧ Rise (flat k)) :
    ∀ {lo hi : Option ByteArray} {keys : List ByteArray}, InvL h lo hi keys kids → (∀ c ∈ flatL kids, InB lo hi c) ∧ Rise (flatL kids) ∧ ∃ c, c ∈ flatL kids := by
  induction kids with
  | nil => intro lo hi keys H; rw [InvL] at H; exact H.elim
  | cons a l ihl =>
    intro lo hi keys H
    cases keys with
    | nil =>
      rw [invL_nil] at H
      obtain ⟨rfl, H⟩ := H
      have h1 := ih a List.mem_cons_self H
      simp only [flatL, List.append_nil]
      exact ⟨h1.1, h1.2, inv_some H⟩
    | cons k ks =>
      rw [invL_cons] at H
      obtain ⟨H1, H2⟩ := H
      obtain ⟨g1, g2, c2, g3⟩ := ihl (fun k hk => ih k (List.mem_cons_of_mem _ hk)) H2
      obtain ⟨f1, f2⟩ := ih a List.mem_cons_self H1
      obtain ⟨c1, f3⟩ := inv_some H1
      rw [flatL]
      refine ⟨fun c hc => ?_, rise_append.2 ⟨f2, g2, fun x hx y hy => inB_trans (f1 x hx) (g1 y hy)⟩, c1, List.mem_append_left _ f3⟩
      rcases List.mem_append.1 hc with hc | hc
      · exact inB_left (f1 c hc) (g1 c2 g3)
      · exact inB_right (f1 c1 f3) (g1 c hc)
/-- all cells lie between the bounds, and rise -/
theorem inv_inB2 {t : Kt} : ∀ {h : Nat} {lo hi : Option ByteArray}, Inv 2 2 h lo hi t → (∀ c ∈ flat t, InB lo hi c) ∧ Rise (flat t) := by
  refine ind (P := fun t => ∀ {h : Nat} {lo hi : Option ByteArray}, Inv 2 2 h lo hi t → (∀ c ∈ flat t, InB lo hi c) ∧ Rise (flat t)) ?_ t
  intro cells keys kids ih h lo hi H
  rw [flat]
  cases kids with
  | nil =>
    obtain ⟨_, _, _, _, h1, h2⟩ := inv_leaf H (by omega)
    simp only [flatL, List.append_nil]
    exact ⟨h2, h1⟩
  | cons kid kids =>
    obtain ⟨rfl, _, _, _, h3⟩ := inv_inner H
    have := invL_inB (fun k hk => ih k hk) h3
    exact ⟨this.1, this.2.1⟩
theorem invL_all {h : Nat} {lo hi : Option ByteArray} {keys : List ByteArray} {kids : List Kt} (H : InvL h lo hi keys kids) : (∀ c ∈ flatL kids, InB lo hi c) ∧ Rise (flatL kids) ∧ ∃ c, c ∈ flatL kids :=
  invL_inB (fun k hk => inv_inB2) H

/-! ### What stands ahead of a kid, and behind it -/
def Pre (h : Nat) (mid : Option ByteArray) : Option ByteArray → List ByteArray → List Kt → Prop
  | lo, [], [] => mid = lo
  | lo, k :: ks, a :: l => Inv 2 2 h lo (some k) a ∧ Pre h mid (some k) ks l
  | _, [], _ :: _ => False
  | _, _ :: _, [] => False
def Suf (h : Nat) (hi : Option ByteArray) : Option ByteArray → List ByteArray → List Kt → Prop
  | mid, [], [] => mid = hi
  | mid, k :: ks, a :: l => mid = some k ∧ ∃ m, Inv 2 2 h (some k) m a ∧ Suf h hi m ks l
  | _, [], _ :: _ => False
  | _, _ :: _, [] => False

theorem suf_glue {h : Nat} {m m' hi : Option ByteArray} {a : Kt} {ks : List ByteArray} {l : List Kt} (H : Inv 2 2 h m m' a) (S : Suf h hi m' ks l) : InvL h m hi ks (a :: l) := by
  induction l generalizing a m m' ks with
  | nil =>
    cases ks with
    | nil => simp only [Suf] at S; subst S; exact invL_one H
    | cons k ks => simp [Suf] at S
  | cons b l ih =>
    cases ks with
    | nil => simp [Suf] at S
    | cons k ks =>
      obtain ⟨rfl, m2, h1, h2⟩ := S
      rw [invL_cons]
      exact ⟨H, ih h1 h2⟩
theorem mid_glue {h : Nat} {m m' hi : Option ByteArray} {kys ks : List ByteArray} {mid l : List Kt} (H : InvL h m m' kys mid) (S : Suf h hi m' ks l) : InvL h m hi (kys ++ ks) (mid ++ l) := by
  induction mid generalizing m kys with
  | nil => rw [InvL] at H; exact H.elim
  | cons a mid ih =>
    cases kys with
    | nil =>
      rw [invL_nil] at H
      obtain ⟨rfl, H⟩ := H
      exact suf_glue H S
    | cons k kys =>
      rw [invL_cons] at H
      rw [List.cons_append, List.cons_append, invL_cons]
      exact ⟨H.1, ih H.2⟩
theorem glue {h : Nat} {lo m m' hi : Option ByteArray} {ks1 kys ks2 : List ByteArray} {l1 mid l2 : List Kt} (P : Pre h m lo ks1 l1) (H : InvL h m m' kys mid) (S : Suf h hi m' ks2 l2) :
    InvL h lo hi (ks1 ++ kys ++ ks2) (l1 ++ mid ++ l2) := by
  induction l1 generalizing lo ks1 with
  | nil =>
    cases ks1 with
    | nil => simp only [Pre] at P; subst P; exact mid_glue H S
    | cons k ks => simp [Pre] at P
  | cons a l ih =>
    cases ks1 with
    | nil => simp [Pre] at P
    | cons k ks =>
      simp only [List.cons_append]
      rw [invL_cons]
      exact ⟨P.1, ih P.2⟩
theorem invL_suf {h : Nat} {k : ByteArray} {hi : Option ByteArray} {ks : List ByteArray} {l : List Kt} (H : InvL h (some k) hi ks l) : Suf h hi (some k) (k :: ks) l := by
  induction l generalizing k ks with
  | nil => rw [InvL] at H; exact H.elim
  | cons a l ih =>
    cases ks with
    | nil =>
      rw [invL_nil] at H
      obtain ⟨rfl, H⟩ := H
      exact ⟨rfl, _, H, rfl⟩
    | cons k2 ks =>
      rw [invL_cons] at H
      exact ⟨rfl, _, H.1, ih H.2⟩

/-- the way to a key -/
def way (keys : List ByteArray) (key : ByteArray) : Nat := keys.findIdx (fun k => kl key k)
theorem way_le (keys : List ByteArray) (key : ByteArray) : way keys key ≤ keys.length := List.findIdx_le_length

/-- the kid below which a key is, or goes -/
theorem split {h : Nat} {lo hi : Option ByteArray} {keys : List ByteArray} {kids : List Kt} {c : Cell} (H : InvL h lo hi keys kids) (hc : InB lo hi c) :
    ∃ m m' kid, kids[way keys c.1]? = some kid ∧ kids = kids.take (way keys c.1) ++ [kid] ++ kids.drop (way keys c.1 + 1) ∧ Pre h m lo (keys.take (way keys c.1)) (kids.take (way keys c.1)) ∧ Inv 2 2 h m m' kid ∧
      Suf h hi m' (keys.drop (way keys c.1)) (kids.drop (way keys c.1 + 1)) ∧ InB m m' c := by
  induction kids generalizing lo keys with
  | nil => rw [InvL] at H; exact H.elim
  | cons a l ih =>
    cases keys with
    | nil =>
      rw [invL_nil] at H
      obtain ⟨rfl, H⟩ := H
      exact ⟨lo, hi, a, rfl, rfl, rfl, H, rfl, hc⟩
    | cons k ks =>
      rw [invL_cons] at H
      cases e : kl c.1 k with
      | true =>
        have hw : way (k :: ks) c.1 = 0 := by simp [way, List.findIdx_cons, e]
        rw [hw]
        exact ⟨lo, some k, a, rfl, rfl, rfl, H.1, invL_suf H.2, hc.1, fun u hu => by injection hu with hu; rw [← hu]; exact e⟩
      | false =>
        have hw : way (k :: ks) c.1 = way ks c.1 + 1 := by simp [way, List.findIdx_cons, e]
        rw [hw]
        obtain ⟨m, m', kid, h1, h0, h2, h3, h4, h5⟩ := ih H.2 (lo := some k) (keys := ks) ⟨fun u hu => by injection hu with hu; rw [← hu]; exact e, hc.2⟩
        refine ⟨m, m', kid, by simpa using h1, ?_, ⟨H.1, h2⟩, h3, h4, h5⟩
        have : a :: l = a :: (List.take (way ks c.1) l ++ [kid] ++ List.drop (way ks c.1 + 1) l) := by rw [← h0]
        simpa using this

theorem pre_up {h : Nat} {k : ByteArray} {m : Option ByteArray} {ks : List ByteArray} {l : List Kt} (P : Pre h m (some k) ks l) : ∃ u, m = some u ∧ kl u k = false := by
  induction l generalizing k ks with
  | nil =>
    cases ks with
    | nil => exact ⟨k, P, kl_irrefl k⟩
    | cons k2 ks => simp [Pre] at P
  | cons a l ih =>
    cases ks with
    | nil => simp [Pre] at P
    | cons k2 ks =>
      obtain ⟨u, h1, h2⟩ := ih P.2
      obtain ⟨c, hc⟩ := inv_some P.1
      have hb := (inv_inB2 P.1).1 c hc
      exact ⟨u, h1, kl_asymm (kl_lt_le (kl_le_lt (hb.1 k rfl) (hb.2 k2 rfl)) h2)⟩
theorem pre_lt {h : Nat} {lo m m' : Option ByteArray} {ks : List ByteArray} {l : List Kt} {c : Cell} (P : Pre h m lo ks l) (hc : InB m m' c) : ∀ d ∈ flatL l, kl d.1 c.1 = true := by
  induction l generalizing lo ks with
  | nil => intro d hd; simp [flatL] at hd
  | cons a l ih =>
    cases ks with
    | nil => simp [Pre] at P
    | cons k ks =>
      intro d hd
      rw [flatL] at hd
      rcases List.mem_append.1 hd with hd | hd
      · obtain ⟨u, h1, h2⟩ := pre_up P.2
        have hb := (inv_inB2 P.1).1 d hd
        exact kl_lt_le (hb.2 k rfl) (kl_le_le h2 (hc.1 u h1))
      · exact ih P.2 d hd
theorem suf_gt {h : Nat} {hi m m' : Option ByteArray} {ks : List ByteArray} {l : List Kt} {c : Cell} (S : Suf h hi m' ks l) (hc : InB m m' c) : ∀ d ∈ flatL l, kl c.1 d.1 = true := by
  induction l generalizing m m' c ks with
  | nil => intro d hd; simp [flatL] at hd
  | cons a l ih =>
    cases ks with
    | nil => simp [Suf] at S
    | cons k ks =>
      obtain ⟨rfl, m2, h1, h2⟩ := S
      intro d hd
      rw [flatL] at hd
      have hb := (inv_inB2 h1).1
      rcases List.mem_append.1 hd with hd | hd
      · exact kl_lt_le (hc.2 k rfl) ((hb d hd).1 k rfl)
      · obtain ⟨c2, hc2⟩ := inv_some h1
        exact kl_trans (kl_lt_le (hc.2 k rfl) ((hb c2 hc2).1 k rfl)) (ih h2 (hb c2 hc2) d hd)

/-! ### Leaves and inner knots out of lists -/
def leavesP (l : List Cell) : List Kt × List ByteArray :=
  if l.length ≤ 4 then ([.mk l [] []], []) else ([.mk (l.take (l.length / 2)) [] [], .mk (l.drop (l.length / 2)) [] []], (((l.drop (l.length / 2)).head?).map (·.1)).toList)
def innersP (kids : List Kt) (keys : List ByteArray) : List Kt × List ByteArray :=
  if kids.length ≤ 4 then ([.mk [] keys kids], []) else
    ([.mk [] (keys.take (kids.length / 2 - 1)) (kids.take (kids.length / 2)), .mk [] (keys.drop (kids.length / 2)) (kids.drop (kids.length / 2))], (keys[kids.length / 2 - 1]?).toList)

/-- the one knot, or the two -/
def PutOk (ml mi h : Nat) (lo hi : Option ByteArray) (r : List Kt × List ByteArray) : Prop :=
  (∃ k, r.1 = [k] ∧ r.2 = [] ∧ Inv ml mi h lo hi k) ∨ (r.1.length = 2 ∧ InvL h lo hi r.2 r.1)
theorem putOk_two {h : Nat} {lo hi : Option ByteArray} {r : List Kt × List ByteArray} (H : PutOk 2 2 h lo hi r) : InvL h lo hi r.2 r.1 ∧ 1 ≤ r.1.length ∧ r.1.length ≤ 2 := by
  rcases H with ⟨k, h1, h2, h3⟩ | ⟨h1, h2⟩
  · rw [h1, h2]; exact ⟨invL_one h3, by simp, by simp⟩
  · exact ⟨h2, by omega, by omega⟩

theorem leaves_ok {ml mi : Nat} {lo hi : Option ByteArray} {l : List Cell} (h1 : ml ≤ l.length) (h2 : l.length ≤ 8) (h3 : Rise l) (h4 : ∀ c ∈ l, InB lo hi c) : PutOk ml mi 1 lo hi (leavesP l) ∧ flatL (leavesP l).1 = l := by
  unfold leavesP
  split
  · exact ⟨.inl ⟨_, rfl, rfl, inv_mk_leaf h1 (by omega) h3 h4⟩, by simp [flatL, flat]⟩
  · rename_i h5
    have hd : l.length / 2 < l.length := by omega
    refine ⟨.inr ⟨rfl, ?_⟩, by simp [flatL, flat]⟩
    have e : ((l.drop (l.length / 2)).head?.map (·.1)).toList = [l[l.length / 2].1] := by
      rw [List.drop_eq_getElem_cons hd]; rfl
    rw [e]
    have h6 := h3
    rw [← List.take_append_drop (l.length / 2) l, List.drop_eq_getElem_cons hd] at h6
    obtain ⟨g1, g2, g3⟩ := rise_append.1 h6
    rw [← List.drop_eq_getElem_cons hd] at g2
    refine invL_two (inv_mk_leaf (by rw [List.length_take]; omega) (by rw [List.length_take]; omega) g1 fun c hc => ?_) (inv_mk_leaf (by rw [List.length_drop]; omega) (by rw [List.length_drop]; omega) g2 fun c hc => ?_)
    · exact ⟨(h4 c (List.mem_of_mem_take hc)).1, fun u hu => by injection hu with hu; rw [← hu]; exact g3 c hc _ List.mem_cons_self⟩
    · refine ⟨fun u hu => ?_, (h4 c (List.mem_of_mem_drop hc)).2⟩
      injection hu with hu
      rw [← hu]
      rw [List.drop_eq_getElem_cons hd] at g2 hc
      rcases List.mem_cons.1 hc with rfl | hc
      · exact kl_irrefl _
      · exact kl_asymm (g2.1 c hc)
theorem invL_cut {h : Nat} {lo hi : Option ByteArray} {keys : List ByteArray} {kids : List Kt} (H : InvL h lo hi keys kids) (n : Nat) (hn : n + 1 < kids.length) :
    ∃ k, keys[n]? = some k ∧ InvL h lo (some k) (keys.take n) (kids.take (n + 1)) ∧ InvL h (some k) hi (keys.drop (n + 1)) (kids.drop (n + 1)) := by
  induction n generalizing lo keys kids with
  | zero =>
    match kids, keys, H, hn with
    | [], _, _, hn => simp at hn
    | [a], [], _, hn => simp at hn
    | a :: b :: l, [], H, _ => rw [invL_nil] at H; cases H.1
    | a :: l, k :: ks, H, _ =>
      rw [invL_cons] at H
      exact ⟨k, rfl, invL_one H.1, H.2⟩
  | succ n ih =>
    match kids, keys, H, hn with
    | [], _, _, hn => simp at hn
    | [a], [], _, hn => simp at hn
    | a :: b :: l, [], H, _ => rw [invL_nil] at H; cases H.1
    | a :: l, k :: ks, H, hn =>
      rw [invL_cons] at H
      obtain ⟨k2, h1, h2, h3⟩ := ih H.2 (by simp at hn; omega)
      refine ⟨k2, by simpa using h1, ?_, by simpa using h3⟩
      simp only [List.take_succ_cons]
      rw [invL_cons]
      exact ⟨H.1, h2⟩
theorem inners_ok {ml mi h : Nat} {lo hi : Option ByteArray} {keys : List ByteArray} {kids : List Kt} (h0 : 1 ≤ h) (h1 : mi ≤ kids.length) (h2 : kids.length ≤ 8) (H : InvL h lo hi keys kids) :
    PutOk ml mi (h + 1) lo hi (innersP kids keys) ∧ flatL (innersP kids keys).1 = flatL kids := by
  unfold innersP
  split
  · exact ⟨.inl ⟨_, rfl, rfl, inv_mk_inner h1 (by omega) h0 H⟩, by simp [flatL, flat]⟩
  · rename_i h5
    refine ⟨.inr ⟨rfl, ?_⟩, ?_⟩
    · obtain ⟨k, g1, g2, g3⟩ := invL_cut H (kids.length / 2 - 1) (by omega)
      rw [g1]
      rw [show kids.length / 2 - 1 + 1 = kids.length / 2 by omega] at g2 g3
      exact invL_two (inv_mk_inner (by rw [List.length_take]; omega) (by rw [List.length_take]; omega) h0 g2) (inv_mk_inner (by rw [List.length_drop]; omega) (by rw [List.length_drop]; omega) h0 g3)
    · simp only [flatL, flat, List.nil_append, List.append_nil]
      rw [← flatL_append, List.take_append_drop]

/-! ### Put -/
/-- where a key is, or goes, in a leaf -/
def place (cells : List Cell) (key : ByteArray) : Nat := cells.findIdx (fun c => !kl c.1 key)
def placed (cells : List Cell) (key : ByteArray) : Bool := match cells[place cells key]? with | some c => decide (c.1 = key) | none => false
theorem place_le (cells : List Cell) (key : ByteArray) : place cells key ≤ cells.length := List.findIdx_le_length

theorem leaf_with {cells : List Cell} {c : Cell} (h : Rise cells) : cells.take (place cells c.1) ++ [c] ++ cells.drop (place cells c.1 + if placed cells c.1 then 1 else 0) = withC cells c := by
  induction cells with
  | nil => simp [place, placed, withC]
  | cons d l ih =>
    cases e : kl d.1 c.1 with
    | true =>
      have hp : place (d :: l) c.1 = place l c.1 + 1 := by simp [place, List.findIdx_cons, e]
      have hq : placed (d :: l) c.1 = placed l c.1 := by simp [placed, hp]
      have ih' := ih h.2
      rw [hp, hq, List.take_succ_cons, Nat.add_right_comm, List.drop_succ_cons, List.cons_append, List.cons_append, ih']
      unfold withC
      rw [List.filter_cons, List.filter_cons, if_pos e, if_neg (by rw [kl_asymm e]; simp)]
      rfl
    | false =>
      have hp : place (d :: l) c.1 = 0 := by simp [place, List.findIdx_cons, e]
      have hl : ∀ x ∈ l, kl c.1 x.1 = true := fun x hx => kl_le_lt e (h.1 x hx)
      have f1 : l.filter (fun x => kl x.1 c.1) = [] := filter_none fun x hx => kl_asymm (hl x hx)
      have f2 : l.filter (fun x => kl c.1 x.1) = l := filter_all hl
      cases e2 : kl c.1 d.1 with
      | true =>
        have hq : placed (d :: l) c.1 = false := by simp [placed, hp, (kl_ne e2).symm]
        rw [hp, hq]
        simp [withC, e, e2, f1, f2]
      | false =>
        have e3 := kl_total e e2
        have hq : placed (d :: l) c.1 = true := by simp [placed, hp, e3]
        rw [hp, hq]
        simp [withC, e, e2, f1, f2]
mutual
  def putP (c : Cell) : Kt → List Kt × List ByteArray
    | .mk cells keys kids => if kids.isEmpty then leavesP (cells.take (place cells c.1) ++ [c] ++ cells.drop (place cells c.1 + if placed cells c.1 then 1 else 0))
      else innersP (kids.take (way keys c.1) ++ (putAt c (way keys c.1) kids).1 ++ kids.drop (way keys c.1 + 1)) (keys.take (way keys c.1) ++ (putAt c (way keys c.1) kids).2 ++ keys.drop (way keys c.1))
  def putAt (c : Cell) (i : Nat) : List Kt → List Kt × List ByteArray
    | [] => ([], [])
    | k :: l => match i with
      | 0 => putP c k
      | i + 1 => putAt c i l
end
theorem putAt_get {c : Cell} {i : Nat} {l : List Kt} {k : Kt} (h : l[i]? = some k) : putAt c i l = putP c k := by
  induction l generalizing i with
  | nil => simp at h
  | cons a l ih =>
    cases i with
    | zero => simp at h; rw [putAt, h]
    | succ i => rw [putAt]; exact ih (by simpa using h)

theorem put_ok {c : Cell} {t : Kt} : ∀ {ml mi h : Nat} {lo hi : Option ByteArray}, 1 ≤ mi → Inv ml mi h lo hi t → InB lo hi c → PutOk ml mi h lo hi (putP c t) ∧ flatL (putP c t).1 = withC (flat t) c := by
  refine ind (P := fun t => ∀ {ml mi h : Nat} {lo hi : Option ByteArray}, 1 ≤ mi → Inv ml mi h lo hi t → InB lo hi c → PutOk ml mi h lo hi (putP c t) ∧ flatL (putP c t).1 = withC (flat t) c) ?_ t
  intro cells keys kids ih ml mi h lo hi hm H hc
  cases kids with
  | nil =>
    obtain ⟨rfl, rfl, h1, h2, h3, h4⟩ := inv_leaf H hm
    rw [putP]
    simp only [List.isEmpty_nil, if_true]
    rw [leaf_with h3, flat, flatL, List.append_nil]
    have hl := length_withC (c := c) h3
    refine leaves_ok ?_ ?_ (rise_withC c h3) fun d hd => ?_
    · split at hl <;> omega
    · split at hl <;> omega
    · rcases mem_withC.1 hd with rfl | ⟨hd, _⟩
      · exact hc
      · exact h4 d hd
  | cons kid kids =>
    obtain ⟨rfl, h1, h2, h3, h4⟩ := inv_inner H
    obtain ⟨m, m', k, g1, g0, g2, g3, g4, g5⟩ := split h4 hc
    have hk : k ∈ kid :: kids := List.mem_of_getElem? g1
    have := ih k hk (by omega) g3 g5
    obtain ⟨q1, q2⟩ := this
    obtain ⟨q3, q4, q5⟩ := putOk_two q1
    rw [putP]
    simp only [List.isEmpty_cons, Bool.false_eq_true, if_false]
    rw [putAt_get g1]
    have hgl := glue g2 q3 g4
    have hlen := congrArg List.length g0
    simp only [List.length_append, List.length_singleton] at hlen
    obtain ⟨r1, r2⟩ := inners_ok (ml := ml) (mi := mi) (by omega) (by simp only [List.length_append]; omega) (by simp only [List.length_append]; omega) hgl
    rw [show h - 1 + 1 = h by omega] at r1
    refine ⟨r1, ?_⟩
    rw [r2, flat, List.nil_append]
    conv => rhs; rw [g0]
    simp only [flatL_append]
    rw [q2]
    simp only [flatL, List.append_nil]
    exact (withC_mid (pre_lt g2 g5) (suf_gt g4 g5)).symm

/-- a tree with a cell -/
def putT (c : Cell) (t : Kt) : Kt := match (putP c t).1 with
  | [k] => k
  | l => .mk [] (putP c t).2 l
theorem inB_none (c : Cell) : InB none none c := ⟨fun _ h => (by cases h), fun _ h => (by cases h)⟩
theorem putT_ok {c : Cell} {t : Kt} {h : Nat} (H : Inv 0 2 h none none t) : (Inv 0 2 h none none (putT c t) ∨ Inv 0 2 (h + 1) none none (putT c t)) ∧ flat (putT c t) = withC (flat t) c := by
  obtain ⟨h1, h2⟩ := put_ok (by omega) H (inB_none c)
  unfold putT
  rcases h1 with ⟨k, e1, e2, h3⟩ | ⟨e1, h3⟩
  · rw [e1] at h2 ⊢
    exact ⟨.inl h3, by simpa [flatL] using h2⟩
  · match e : (putP c t).1, e1 with
    | [a, b], _ =>
      rw [e] at h3 h2
      have hh : 1 ≤ h := by
        cases t with
        | mk cells keys kids =>
          cases kids with
          | nil => have := inv_leaf H (by omega); omega
          | cons x y => have := inv_inner H; omega
      exact ⟨.inr (inv_mk_inner (by simp) (by simp) hh h3), by rw [flat, List.nil_append]; exact h2⟩

end Go.Proofs.YtojincohnjophaaGreatDoor.TreeP

/-! The plain side of layer 20, del and get: trees that may be stay so, and have the cells that they must. -/
namespace Go.Proofs.YtojincohnjophaaGreatDoor.TreeP
set_option linter.unusedVariables false

/-! ### Get -/
mutual
  def findP (key : ByteArray) : Kt → Option ByteArray
    | .mk cells keys kids => if kids.isEmpty then (if placed cells key then (cells[place cells key]?).map (·.2) else none) else findAt key (way keys key) kids
  def findAt (key : ByteArray) (i : Nat) : List Kt → Option ByteArray
    | [] => none
    | k :: l => match i with
      | 0 => findP key k
      | i + 1 => findAt key i l
end
/-! ### Del -/
def bothP (a : Kt) (key : ByteArray) (b : Kt) : List Kt × List ByteArray :=
  if a.kids.isEmpty then leavesP (a.cells ++ b.cells) else innersP (a.kids ++ b.kids) (a.keys ++ [key] ++ b.keys)

/-- what follows the deletion in a kid: kids, keys, where it was -/
def mend (kids : List Kt) (keys : List ByteArray) (i : Nat) : Kt :=
  match kids[i]?, keys[i]?, kids[i + 1]? with
  | some a, some k, some b => .mk [] (keys.take i ++ (bothP a k b).2 ++ keys.drop (i + 1)) (kids.take i ++ (bothP a k b).1 ++ kids.drop (i + 2))
  | _, _, _ => .mk [] keys kids

mutual
  def delP (key : ByteArray) : Kt → Kt
    | .mk cells keys kids => if kids.isEmpty then .mk (cells.take (place cells key) ++ cells.drop (place cells key + 1)) [] []
      else if 2 ≤ (delAt key (way keys key) kids).cells.length ∨ 2 ≤ (delAt key (way keys key) kids).kids.length then .mk [] keys (kids.take (way keys key) ++ [delAt key (way keys key) kids] ++ kids.drop (way keys key + 1))
      else mend (kids.take (way keys key) ++ [delAt key (way keys key) kids] ++ kids.drop (way keys key + 1)) keys (way keys key - 1)
  def delAt (key : ByteArray) (i : Nat) : List Kt → Kt
    | [] => .mk [] [] []
    | k :: l => match i with
      | 0 => delP key k
      | i + 1 => delAt key i l
end
end Go.Proofs.YtojincohnjophaaGreatDoor.TreeP
