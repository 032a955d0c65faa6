/- The walks of layer 20's halves, leaves, inners. -/
import Derived.Test.YtkkddnmpehoeoaaTreeCat
import Derived.Deep.RegionLaw
namespace Go.Proofs.Ytkkddnmpehoeoaa
open Go.RowKit
open TreeP (Kt Cell kl flat flatL)
set_option linter.unusedVariables false

/-- a guard: the step's result goes into slot n -/
theorem at_dst (n : Nat) {P : Program} {op : Op} {t : TypeId} {pos : String} {after : Array Edge} {gd : Option (Nat × Bool)} {y : Nat → Option Bool} {a : Act} {w : World} {K : Act → World → Prop} {Q : Exit → Act → World → Prop} {E : Prop}
    (h : if Region.wanted ⟨some n, op, t, pos, after, gd⟩ y = true then Oper.wp P ⟨some n, op, t, pos, after, gd⟩ a w K Q else E) :
    if Region.wanted ⟨some n, op, t, pos, after, gd⟩ y = true then Oper.wp P ⟨some n, op, t, pos, after, gd⟩ a w K Q else E := h

def halfA {α : Type} (l : List α) : List α := if l.length ≤ 4 then l else l.take (l.length / 2)
def halfB {α : Type} (l : List α) : List α := if l.length ≤ 4 then [] else l.drop (l.length / 2)
theorem halfA_len {α : Type} (l : List α) : (halfA l).length ≤ l.length := by unfold halfA; split <;> simp <;> omega
theorem halfB_len {α : Type} (l : List α) : (halfB l).length ≤ l.length := by unfold halfB; split <;> simp

/-- a slice value that reads as cells, of size each -/
def SlV (w : World) (V : Nat → Prop) (size : Nat) (v : Value) (n : Nat) (xs : List Value) : Prop := ∃ A c, v = .slice A n c ∧ n ≤ c ∧ Sl w V size A n xs
theorem SlV.below {w w' : World} {V : Nat → Prop} {size n : Nat} {v : Value} {xs : List Value} (h : SlV w V size v n xs) (hb : Below w.heap.size w w') : SlV w' V size v n xs := by
  obtain ⟨A, c, e, h1, h2⟩ := h
  exact ⟨A, c, e, h1, h2.below hb⟩
theorem SlV.own {w : World} {V : Nat → Prop} {base : Nat} {e : TypeId} {size n : Nat} {v : Value} {xs : List Value} (h : w.ownsRow base e size v n xs) (hV : ∀ b, base ≤ b → V b) : SlV w V size v n xs := by
  have hs : ∃ A c, v = .slice A n c ∧ n ≤ c := by
    rcases h.2 with ⟨rfl, rfl⟩ | ⟨g, cap, cur, rfl, _, _, h2, _⟩
    · exact ⟨_, _, rfl, Nat.le_refl _⟩
    · exact ⟨_, _, rfl, h2⟩
  obtain ⟨A, c, rfl, hc⟩ := hs
  exact ⟨A, c, rfl, hc, (Sl.of_own h).mono hV⟩

theorem Sl.takeN {w : World} {V : Nat → Prop} {size : Nat} {A : Option Addr} {n m : Nat} {xs : List Value} (h : Sl w V size A n xs) (hm : m ≤ n) : Sl w V size A m (xs.take (m * size)) := by
  have h1 := h.1
  have h2 : m * size ≤ n * size := Nat.mul_le_mul_right _ hm
  refine ⟨by rw [List.length_take]; omega, fun hp => ?_⟩
  obtain ⟨a, e, hv, hb, hc⟩ := h.2 (by omega)
  refine ⟨a, e, hv, hb, fun j u hu => hc j u ?_⟩
  rw [List.getElem?_take] at hu
  split at hu
  · exact hu
  · cases hu
theorem Sl.dropN {w : World} {V : Nat → Prop} {size : Nat} {A : Option Addr} {n k cap : Nat} {xs : List Value} (h : Sl w V size A n xs) (hk : k ≤ n) (hc : n ≤ cap) :
    Sl w V size (if cap = k then A else A.map (·.add (k * size))) (n - k) (xs.drop (k * size)) := by
  have h1 := h.cut (k := k) (m := n) (cap := cap) hk (Nat.le_refl _) hc
  have e : ((xs.drop (k * size)).take ((n - k) * size)) = xs.drop (k * size) := List.take_of_length_le (by rw [List.length_drop, h.1, ← Nat.sub_mul]; exact Nat.le_refl _)
  rwa [e] at h1

theorem Sl.ones_of {w : World} {V : Nat → Prop} {size : Nat} {A : Option Addr} {n : Nat} {xs : List Value} (h : Sl w V size A n xs) (h1 : ∀ u ∈ xs, u.oneCell' = true) (k : Nat) : (∀ u ∈ xs.take k, u.oneCell' = true) ∧ ∀ u ∈ xs.drop k, u.oneCell' = true :=
  ⟨fun u hu => h1 u (List.mem_of_mem_take hu), fun u hu => h1 u (List.mem_of_mem_drop hu)⟩

set_option maxRecDepth 100000 in
set_option maxHeartbeats 800000 in
theorem halves_C (A : Option Addr) (n c : Nat) (xs : List Value) (V : Nat → Prop) (w : World) (h : Sl w V 2 A n xs) (hV : ∀ b, w.heap.size ≤ b → V b) (hc : n ≤ c) (hn : n ≤ 1000) (h1 : ∀ u ∈ xs, u.oneCell' = true) :
    Calls Try.prog 43 #[.slice A n c] w fun e w' => ∃ a b, e = .returned (.tuple #[a, b]) ∧
      SlV w' V 2 a (if n ≤ 4 then n else n / 2) (if n ≤ 4 then xs else xs.take (n / 2 * 2)) ∧ SlV w' V 2 b (if n ≤ 4 then 0 else n - n / 2) (if n ≤ 4 then [] else xs.drop (n / 2 * 2)) ∧ Below w.heap.size w w' := by
  by_cases h4 : n ≤ 4
  · simp only [if_pos h4]
    go_enter Try.func43, Try.ntmps43
    go_wp2_with fail
    go_ret2
    exact ⟨_, _, rfl, ⟨A, c, rfl, hc, h⟩, ⟨none, 0, rfl, Nat.le_refl _, Sl.nil⟩, Below.refl _ _⟩
  · simp only [if_neg h4]
    have hk : n / 2 ≤ n := Nat.div_le_self _ _
    have hT := h.takeN hk
    have hD := h.dropN hk hc
    obtain ⟨o1, o2⟩ := h.ones_of h1 (n / 2 * 2)
    have hd : ((n : Int).tdiv 2) = ((n / 2 : Nat) : Int) := by
      rw [Int.tdiv_eq_ediv_of_nonneg (by omega)]; rfl
    obtain ⟨k, hkk⟩ : ∃ k, k = n / 2 := ⟨_, rfl⟩
    rw [← hkk] at hT hD o1 o2 hk ⊢
    have HK := hide hkk
    clear hkk hd h h1
    go_enter Try.func43, Try.ntmps43
    go_wp2_with fail
    have hdv : (n : Int) / 2 = (k : Int) := by have := HK.out; omega
    rw [hdv]
    have hkc : k ≤ c := by omega
    have hkci : (k : Int) ≤ (c : Int) := by omega
    have hkni : (k : Int) ≤ (n : Int) := by omega
    have hk0 : (0 : Int) ≤ (k : Int) := by omega
    have hb0 : Below w.heap.size w w.drew := below_drewN (Below.refl _ _) 1
    clear hdv
    go_region_law (first
      | ((with_reducible refine at_dst 15 ?_); go_simp; go_at_call 51; refine (clone_C _ _ _ (xs.take (k * 2)) _ _ hT.drew (by omega) o1).mono ?_; rintro e w1 ⟨va, rfl, ho1, hb1⟩)
      | ((with_reducible refine at_dst 19 ?_); go_simp; go_at_call 51; refine (clone_C _ _ _ (xs.drop (k * 2)) _ _ (hD.below (hb0.trans (hb1.mono hb0.size))) (by omega) o2).mono ?_; rintro e w2 ⟨vb, rfl, ho2, hb2⟩))
    all_goals go_wp2_with fail
    all_goals go_ret2
    all_goals exact ⟨_, _, rfl, (SlV.own ho1 hV).below hb2, SlV.own ho2 (fun b hb => hV b (Nat.le_trans hb1.size hb)), hb0.trans ((hb1.mono hb0.size).trans (hb2.mono (Nat.le_trans hb0.size hb1.size)))⟩
set_option maxRecDepth 100000 in
set_option maxHeartbeats 800000 in
theorem halves_K (A : Option Addr) (n c : Nat) (xs : List Value) (V : Nat → Prop) (w : World) (h : Sl w V 3 A n xs) (hV : ∀ b, w.heap.size ≤ b → V b) (hc : n ≤ c) (hn : n ≤ 1000) (h1 : ∀ u ∈ xs, u.oneCell' = true) :
    Calls Try.prog 47 #[.slice A n c] w fun e w' => ∃ a b, e = .returned (.tuple #[a, b]) ∧
      SlV w' V 3 a (if n ≤ 4 then n else n / 2) (if n ≤ 4 then xs else xs.take (n / 2 * 3)) ∧ SlV w' V 3 b (if n ≤ 4 then 0 else n - n / 2) (if n ≤ 4 then [] else xs.drop (n / 2 * 3)) ∧ Below w.heap.size w w' := by
  by_cases h4 : n ≤ 4
  · simp only [if_pos h4]
    go_enter Try.func47, Try.ntmps47
    go_wp2_with fail
    go_ret2
    exact ⟨_, _, rfl, ⟨A, c, rfl, hc, h⟩, ⟨none, 0, rfl, Nat.le_refl _, Sl.nil⟩, Below.refl _ _⟩
  · simp only [if_neg h4]
    have hk : n / 2 ≤ n := Nat.div_le_self _ _
    have hT := h.takeN hk
    have hD := h.dropN hk hc
    obtain ⟨o1, o2⟩ := h.ones_of h1 (n / 2 * 3)
    have hd : ((n : Int).tdiv 2) = ((n / 2 : Nat) : Int) := by
      rw [Int.tdiv_eq_ediv_of_nonneg (by omega)]; rfl
    obtain ⟨k, hkk⟩ : ∃ k, k = n / 2 := ⟨_, rfl⟩
    rw [← hkk] at hT hD o1 o2 hk ⊢
    have HK := hide hkk
    clear hkk hd h h1
    go_enter Try.func47, Try.ntmps47
    go_wp2_with fail
    have hdv : (n : Int) / 2 = (k : Int) := by have := HK.out; omega
    rw [hdv]
    have hkc : k ≤ c := by omega
    have hkci : (k : Int) ≤ (c : Int) := by omega
    have hkni : (k : Int) ≤ (n : Int) := by omega
    have hk0 : (0 : Int) ≤ (k : Int) := by omega
    have hb0 : Below w.heap.size w w.drew := below_drewN (Below.refl _ _) 1
    clear hdv
    go_region_law (first
      | ((with_reducible refine at_dst 15 ?_); go_simp; go_at_call 52; refine (clone_K _ _ _ (xs.take (k * 3)) _ _ hT.drew (by omega) o1).mono ?_; rintro e w1 ⟨va, rfl, ho1, hb1⟩)
      | ((with_reducible refine at_dst 19 ?_); go_simp; go_at_call 52; refine (clone_K _ _ _ (xs.drop (k * 3)) _ _ (hD.below (hb0.trans (hb1.mono hb0.size))) (by omega) o2).mono ?_; rintro e w2 ⟨vb, rfl, ho2, hb2⟩))
    all_goals go_wp2_with fail
    all_goals go_ret2
    all_goals exact ⟨_, _, rfl, (SlV.own ho1 hV).below hb2, SlV.own ho2 (fun b hb => hV b (Nat.le_trans hb1.size hb)), hb0.trans ((hb1.mono hb0.size).trans (hb2.mono (Nat.le_trans hb0.size hb1.size)))⟩

theorem kn_one {w : World} {V : Nat → Prop} {B : Nat} {a b c : Value} {t : Kt} (h : Kn w V B a b c t) : a.oneCell' = true ∧ b.oneCell' = true ∧ c.oneCell' = true := by
  obtain ⟨cells, keys, kids⟩ := t
  obtain ⟨⟨A1, c1, rfl, _⟩, ⟨A2, c2, rfl, _⟩, A3, c3, vals, rfl, _⟩ := kn_mk.1 h
  exact ⟨rfl, rfl, rfl⟩
theorem knL_one' {w : World} {V : Nat → Prop} {B : Nat} {vals : List Value} {l : List Kt} (h : KnL w V B vals l) : ∀ u ∈ vals, u.oneCell' = true := by
  induction l generalizing vals with
  | nil => rw [knL_nil] at h; subst h; intro u hu; cases hu
  | cons k l ih =>
    obtain ⟨x, y, z, r, rfl, h1, h2⟩ := knL_cons.1 h
    have := kn_one h1
    intro u hu
    simp only [List.mem_cons] at hu
    rcases hu with rfl | rfl | rfl | hu
    · exact this.1
    · exact this.2.1
    · exact this.2.2
    · exact ih h2 u hu

/-- kids and keys, as put, leaves, inners, swap, both answer them -/
def TwoR (w : World) (V : Nat → Prop) (B : Nat) (e : Ending) (ks : List Kt) (kys : List ByteArray) : Prop :=
  ∃ v1 v2 vals, e = .returned (.tuple #[v1, v2]) ∧ SlV w V 3 v1 ks.length vals ∧ KnL w V B vals ks ∧ SlV w V 1 v2 kys.length (strs kys)

theorem lit_slv {w w' : World} {V : Nat → Prop} (hV : ∀ b, w.heap.size ≤ b → V b) {e : TypeId} {size n : Nat} (cs : Array Value) (hs : cs.size = n * size) (hm : n ≤ maxLen) (hb : Below (w.heap.size + 1) (w.alloc (.cells cs e)) w') : SlV w' V size (.slice (some ⟨w.heap.size, 0, none⟩) n n) n cs.toList := by
  have := World.ownsRow_lit (base := w.heap.size) (e := e) (size := size) w cs n (Nat.le_refl _) hm hs
  exact (SlV.own this hV).below (by rw [World.size_alloc]; exact hb)
/-- two blocks, laid one behind the other -/
theorem lit_two (w1 : World) {V : Nat → Prop} (hV : ∀ b, w1.heap.size ≤ b → V b) (e1 e2 : TypeId) (s1 s2 n1 n2 : Nat) (c1 c2 : Array Value) (h1 : c1.size = n1 * s1) (h2 : c2.size = n2 * s2) (m1 : n1 ≤ maxLen) (m2 : n2 ≤ maxLen) :
    SlV ((w1.alloc (.cells c1 e1)).alloc (.cells c2 e2)).drew V s1 (.slice (some ⟨w1.heap.size, 0, none⟩) n1 n1) n1 c1.toList ∧
    SlV ((w1.alloc (.cells c1 e1)).alloc (.cells c2 e2)).drew V s2 (.slice (some ⟨w1.heap.size + 1, 0, none⟩) n2 n2) n2 c2.toList ∧
    Below w1.heap.size w1 ((w1.alloc (.cells c1 e1)).alloc (.cells c2 e2)).drew := by
  have hb : Below (w1.heap.size + 1) (w1.alloc (.cells c1 e1)) ((w1.alloc (.cells c1 e1)).alloc (.cells c2 e2)).drew := below_drewN ((Below.refl _ _).alloc (by simp) _) 1
  refine ⟨lit_slv hV c1 h1 m1 hb, ?_, ((Below.refl _ w1).alloc (Nat.le_refl _) _).trans (hb.mono (Nat.le_succ _))⟩
  have := lit_slv (w := w1.alloc (.cells c1 e1)) (w' := ((w1.alloc (.cells c1 e1)).alloc (.cells c2 e2)).drew) (fun b hb => hV b (by rw [World.size_alloc] at hb; omega)) c2 h2 m2 (below_drewN (Below.refl _ _) 1)
  rwa [World.size_alloc] at this
theorem slv_nil (w : World) {V : Nat → Prop} (size : Nat) : SlV w V size (.slice none 0 0) 0 [] := ⟨none, 0, rfl, Nat.le_refl _, Sl.nil⟩

/-- a knot out of its parts -/
theorem kn_of {w : World} {V : Nat → Prop} {B n1 n2 n3 : Nat} {v1 v2 v3 : Value} {xs vals : List Value} {cells : List Cell} {keys : List ByteArray} {kids : List Kt} (h1 : SlV w V 2 v1 n1 xs) (h2 : SlV w V 1 v2 n2 (strs keys)) (h3 : SlV w V 3 v3 n3 vals) (hk : KnL w V B vals kids)
    (e1 : xs = cellsV cells) (b1 : n1 ≤ B) (b2 : n2 ≤ B) (b3 : n3 ≤ B) : Kn w V B v1 v2 v3 (.mk cells keys kids) := by
  subst e1
  obtain ⟨A1, c1, rfl, g1, s1⟩ := h1
  obtain ⟨A2, c2, rfl, g2, s2⟩ := h2
  obtain ⟨A3, c3, rfl, g3, s3⟩ := h3
  have l1 := s1.cells
  have l2 := s2.len
  have l3 : kids.length = n3 := by have := s3.1; have := knL_len hk; omega
  subst l1 l2 l3
  exact kn_mk.2 ⟨⟨A1, c1, rfl, g1, b1, s1⟩, ⟨A2, c2, rfl, g2, b2, s2⟩, A3, c3, vals, rfl, g3, b3, s3, hk⟩

set_option maxRecDepth 100000 in
set_option maxHeartbeats 800000 in
theorem leaves_any (A : Option Addr) (c : Nat) (l : List Cell) (V : Nat → Prop) (w : World) (h : Sl w V 2 A l.length (cellsV l)) (hV : ∀ b, w.heap.size ≤ b → V b) (hc : l.length ≤ c) (hn : l.length ≤ 1000) :
    Calls Try.prog 34 #[.slice A l.length c] w fun e w' => TwoR w' V 1000 e (TreeP.leavesP l).1 (TreeP.leavesP l).2 ∧ Below w.heap.size w w' := by
  have hh := halves_C A l.length c (cellsV l) V w h hV hc hn (cellsV_one l)
  unfold TreeP.leavesP
  by_cases h4 : l.length ≤ 4
  · simp only [if_pos h4] at hh ⊢
    go_enter Try.func34, Try.ntmps34
    go_wp2_with fail
    refine hh.mono ?_
    rintro e w1 ⟨a, b, rfl, ⟨Aa, ca, rfl, ga, sa0⟩, ⟨A2, c2, rfl, g2, s2⟩, hb⟩
    have sa : SlV w1 V 2 (.slice Aa l.length ca) l.length (cellsV l) := ⟨Aa, ca, rfl, ga, sa0⟩
    clear hh
    go_wp2_with fail
    go_ret2
    have hb2 := (Below.refl w1.heap.size w1).alloc (Nat.le_refl _) (.cells #[.slice Aa l.length ca, .slice none 0 0, .slice none 0 0] 26)
    exact ⟨⟨_, _, _, rfl, lit_slv (fun b hb' => hV b (Nat.le_trans hb.size hb')) _ rfl (by simp [maxLen]) (Below.refl _ _), knL_one (kn_of (sa.below hb2) (slv_nil _ _) (slv_nil _ _) (knL_nil.2 rfl) rfl (by omega) (by omega) (by omega)), slv_nil _ _⟩, hb.alloc hb.size _⟩
  · simp only [if_neg h4] at hh ⊢
    have hk : l.length / 2 ≤ l.length := Nat.div_le_self _ _
    rw [← cellsV_take, ← cellsV_drop] at hh
    obtain ⟨x, hx⟩ : ∃ x, (l.drop (l.length / 2))[0]? = some x := ⟨_, List.getElem?_eq_getElem (by rw [List.length_drop]; omega)⟩
    have hhd : (((l.drop (l.length / 2)).head?).map (·.1)).toList = [x.1] := by rw [List.head?_eq_getElem?, hx]; rfl
    rw [hhd]
    have hl1 : (l.take (l.length / 2)).length ≤ 1000 := by rw [List.length_take]; omega
    have hl2 : (l.drop (l.length / 2)).length ≤ 1000 := by rw [List.length_drop]; omega
    have hpos : 0 < l.length - l.length / 2 := by omega
    generalize l.take (l.length / 2) = la at *
    generalize l.drop (l.length / 2) = lb at *
    have hmB : l.length - l.length / 2 ≤ 1000 := by omega
    have hm1B : l.length / 2 ≤ 1000 := by omega
    generalize hm : l.length - l.length / 2 = m at *
    generalize l.length / 2 = m1 at *
    clear hhd hm h
    have HX := hide hx
    clear hx
    go_enter Try.func34, Try.ntmps34
    go_wp2_with fail
    refine hh.mono ?_
    rintro e w1 ⟨a, b, rfl, ⟨Aa, ca, rfl, ga, sa0⟩, ⟨A2, c2, rfl, g2, s2⟩, hb⟩
    have sa : SlV w1 V 2 (.slice Aa m1 ca) m1 (cellsV la) := ⟨Aa, ca, rfl, ga, sa0⟩
    have sb : SlV w1 V 2 (.slice A2 m c2) m (cellsV lb) := ⟨A2, c2, rfl, g2, s2⟩
    obtain ⟨ad, x', hA, hx', hc1, hc2⟩ := s2.cell hpos
    have hxe : x' = x := by rw [HX.out] at hx'; injection hx' with hx'; exact hx'.symm
    subst hxe hA
    have hne : ((m : Int) == 0) = false := by simp; omega
    have hpi : (0 : Int) < (m : Int) := by omega
    clear hx' HX hh
    rw [Nat.zero_mul] at hc1
    simp only [Addr.add_zero'] at hc1
    have hc1' : ∀ o, (w1.alloc o).cell? ad = some (.string x'.1) := fun o => cell_next hc1 ((Below.refl _ _).alloc (Nat.le_refl _) o)
    clear hc2
    go_wp2_with fail
    go_region
    all_goals go_wp2_with fail
    all_goals go_ret2
    · obtain ⟨p, q, hbx⟩ := lit_two w1 (fun b hb' => hV b (Nat.le_trans hb.size hb')) 26 9 3 1 2 1 #[.slice Aa m1 ca, .slice none 0 0, .slice none 0 0, .slice (some ad) m c2, .slice none 0 0, .slice none 0 0] #[.string x'.1] rfl rfl (by simp [maxLen]) (by simp [maxLen])
      exact ⟨⟨_, _, _, rfl, p, knL_append (knL_one (kn_of (sa.below hbx) (slv_nil _ _) (slv_nil _ _) (knL_nil.2 rfl) rfl (by omega) (by omega) (by omega))) (knL_one (kn_of (sb.below hbx) (slv_nil _ _) (slv_nil _ _) (knL_nil.2 rfl) rfl (by omega) (by omega) (by omega))), q⟩, hb.trans (hbx.mono hb.size)⟩
    · obtain ⟨q, p, hbx⟩ := lit_two w1 (fun b hb' => hV b (Nat.le_trans hb.size hb')) 9 26 1 3 1 2 #[.string x'.1] #[.slice Aa m1 ca, .slice none 0 0, .slice none 0 0, .slice (some ad) m c2, .slice none 0 0, .slice none 0 0] rfl rfl (by simp [maxLen]) (by simp [maxLen])
      exact ⟨⟨_, _, _, rfl, p, knL_append (knL_one (kn_of (sa.below hbx) (slv_nil _ _) (slv_nil _ _) (knL_nil.2 rfl) rfl (by omega) (by omega) (by omega))) (knL_one (kn_of (sb.below hbx) (slv_nil _ _) (slv_nil _ _) (knL_nil.2 rfl) rfl (by omega) (by omega) (by omega))), q⟩, hb.trans (hbx.mono hb.size)⟩
end Go.Proofs.Ytkkddnmpehoeoaa
