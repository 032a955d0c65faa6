/- The walks of layer 20's swap, both. -/
import Derived.Test.YtojincohnjophaaGreatDoorTreeCat
import Derived.Deep.RegionLaw
import Derived.Deep.RegionHeld3
import Derived.Deep.DrawnRows
/-! The walks of layer 20's halves, leaves, inners. -/
namespace Go.Proofs.YtojincohnjophaaGreatDoor
open Go.RowKit
open TreeP (Kt Cell kl flat flatL)
set_option linter.unusedVariables false

/-- a guard: the step's result goes into slot n -/
theorem at_dst (n : Nat) {P : Program} {op : Op} {t : TypeId} {pos : String} {after : Array Edge} {gd : Option (Nat × Bool)} {y : Nat → Option Bool} {a : Act} {w : World} {K : Act → World → Prop} {Q : Exit → Act → World → Prop} {E : Prop}
    (h : if Region.wanted ⟨some n, op, t, pos, after, gd⟩ y = true then Oper.wp P ⟨some n, op, t, pos, after, gd⟩ a w K Q else E) :
    if Region.wanted ⟨some n, op, t, pos, after, gd⟩ y = true then Oper.wp P ⟨some n, op, t, pos, after, gd⟩ a w K Q else E := h

/-- a slice value that reads as cells, of size each -/
def SlV (w : World) (V : Nat → Prop) (size : Nat) (v : Value) (n : Nat) (xs : List Value) : Prop := ∃ A c, v = .slice A n c ∧ n ≤ c ∧ Sl w V size A n xs
theorem SlV.below {w w' : World} {V : Nat → Prop} {size n : Nat} {v : Value} {xs : List Value} (h : SlV w V size v n xs) (hb : Below w.heap.size w w') : SlV w' V size v n xs := by
  obtain ⟨A, c, e, h1, h2⟩ := h
  exact ⟨A, c, e, h1, h2.below hb⟩
theorem SlV.own {w : World} {V : Nat → Prop} {base : Nat} {e : TypeId} {size n : Nat} {v : Value} {xs : List Value} (h : w.ownsRow base e size v n xs) (hV : ∀ b, base ≤ b → V b) : SlV w V size v n xs := by
  have hs : ∃ A c, v = .slice A n c ∧ n ≤ c := by
    rcases h.2 with ⟨rfl, rfl⟩ | ⟨g, cap, cur, rfl, _, _, h2, _⟩
    · exact ⟨_, _, rfl, Nat.le_refl _⟩
    · exact ⟨_, _, rfl, h2⟩
  obtain ⟨A, c, rfl, hc⟩ := hs
  exact ⟨A, c, rfl, hc, (Sl.of_own h).mono hV⟩

theorem Sl.takeN {w : World} {V : Nat → Prop} {size : Nat} {A : Option Addr} {n m : Nat} {xs : List Value} (h : Sl w V size A n xs) (hm : m ≤ n) : Sl w V size A m (xs.take (m * size)) := by
  have h1 := h.1
  have h2 : m * size ≤ n * size := Nat.mul_le_mul_right _ hm
  refine ⟨by rw [List.length_take]; omega, fun hp => ?_⟩
  obtain ⟨a, e, hv, hb, hc⟩ := h.2 (by omega)
  refine ⟨a, e, hv, hb, fun j u hu => hc j u ?_⟩
  rw [List.getElem?_take] at hu
  split at hu
  · exact hu
  · cases hu
theorem Sl.dropN {w : World} {V : Nat → Prop} {size : Nat} {A : Option Addr} {n k cap : Nat} {xs : List Value} (h : Sl w V size A n xs) (hk : k ≤ n) (hc : n ≤ cap) :
    Sl w V size (if cap = k then A else A.map (·.add (k * size))) (n - k) (xs.drop (k * size)) := by
  have h1 := h.cut (k := k) (m := n) (cap := cap) hk (Nat.le_refl _) hc
  have e : ((xs.drop (k * size)).take ((n - k) * size)) = xs.drop (k * size) := List.take_of_length_le (by rw [List.length_drop, h.1, ← Nat.sub_mul]; exact Nat.le_refl _)
  rwa [e] at h1

theorem Sl.ones_of {w : World} {V : Nat → Prop} {size : Nat} {A : Option Addr} {n : Nat} {xs : List Value} (h : Sl w V size A n xs) (h1 : ∀ u ∈ xs, u.oneCell' = true) (k : Nat) : (∀ u ∈ xs.take k, u.oneCell' = true) ∧ ∀ u ∈ xs.drop k, u.oneCell' = true :=
  ⟨fun u hu => h1 u (List.mem_of_mem_take hu), fun u hu => h1 u (List.mem_of_mem_drop hu)⟩

set_option maxRecDepth 100000 in
set_option maxHeartbeats 800000 in
theorem halves_C (A : Option Addr) (n c : Nat) (xs : List Value) (V : Nat → Prop) (w : World) (h : Sl w V 2 A n xs) (hV : ∀ b, w.heap.size ≤ b → V b) (hc : n ≤ c) (hn : n ≤ 1000) (h1 : ∀ u ∈ xs, u.oneCell' = true) :
    Calls Tryz.prog 81 #[.slice A n c] w fun e w' => ∃ a b, e = .returned (.tuple #[a, b]) ∧
      SlV w' V 2 a (if n ≤ 4 then n else n / 2) (if n ≤ 4 then xs else xs.take (n / 2 * 2)) ∧ SlV w' V 2 b (if n ≤ 4 then 0 else n - n / 2) (if n ≤ 4 then [] else xs.drop (n / 2 * 2)) ∧ Below w.heap.size w w' := by
  by_cases h4 : n ≤ 4
  · simp only [if_pos h4]
    go_enter Tryz.func81, Tryz.ntmps81
    go_wp2_with fail
    go_ret2
    exact ⟨_, _, rfl, ⟨A, c, rfl, hc, h⟩, ⟨none, 0, rfl, Nat.le_refl _, Sl.nil⟩, Below.refl _ _⟩
  · simp only [if_neg h4]
    have hk : n / 2 ≤ n := Nat.div_le_self _ _
    have hT := h.takeN hk
    have hD := h.dropN hk hc
    obtain ⟨o1, o2⟩ := h.ones_of h1 (n / 2 * 2)
    have hd : ((n : Int).tdiv 2) = ((n / 2 : Nat) : Int) := by
      rw [Int.tdiv_eq_ediv_of_nonneg (by omega)]; rfl
    obtain ⟨k, hkk⟩ : ∃ k, k = n / 2 := ⟨_, rfl⟩
    rw [← hkk] at hT hD o1 o2 hk ⊢
    have HK := hide hkk
    clear hkk hd h h1
    go_enter Tryz.func81, Tryz.ntmps81
    go_wp2_with fail
    have hdv : (n : Int) / 2 = (k : Int) := by have := HK.out; omega
    rw [hdv]
    have hkc : k ≤ c := by omega
    have hkci : (k : Int) ≤ (c : Int) := by omega
    have hkni : (k : Int) ≤ (n : Int) := by omega
    have hk0 : (0 : Int) ≤ (k : Int) := by omega
    have hb0 : Below w.heap.size w w.drew := below_drewN (Below.refl _ _) 1
    clear hdv
    go_region_law (first
      | ((with_reducible refine at_dst 15 ?_); go_simp; go_at_call 119; refine (clone_C _ _ _ (xs.take (k * 2)) _ _ hT.drew (by omega) o1).mono ?_; rintro e w1 ⟨va, rfl, ho1, hb1⟩)
      | ((with_reducible refine at_dst 19 ?_); go_simp; go_at_call 119; refine (clone_C _ _ _ (xs.drop (k * 2)) _ _ (hD.below (hb0.trans (hb1.mono hb0.size))) (by omega) o2).mono ?_; rintro e w2 ⟨vb, rfl, ho2, hb2⟩))
    all_goals go_wp2_with fail
    all_goals go_ret2
    all_goals exact ⟨_, _, rfl, (SlV.own ho1 hV).below hb2, SlV.own ho2 (fun b hb => hV b (Nat.le_trans hb1.size hb)), hb0.trans ((hb1.mono hb0.size).trans (hb2.mono (Nat.le_trans hb0.size hb1.size)))⟩
set_option maxRecDepth 100000 in
set_option maxHeartbeats 800000 in
theorem halves_K (A : Option Addr) (n c : Nat) (xs : List Value) (V : Nat → Prop) (w : World) (h : Sl w V 3 A n xs) (hV : ∀ b, w.heap.size ≤ b → V b) (hc : n ≤ c) (hn : n ≤ 1000) (h1 : ∀ u ∈ xs, u.oneCell' = true) :
    Calls Tryz.prog 85 #[.slice A n c] w fun e w' => ∃ a b, e = .returned (.tuple #[a, b]) ∧
      SlV w' V 3 a (if n ≤ 4 then n else n / 2) (if n ≤ 4 then xs else xs.take (n / 2 * 3)) ∧ SlV w' V 3 b (if n ≤ 4 then 0 else n - n / 2) (if n ≤ 4 then [] else xs.drop (n / 2 * 3)) ∧ Below w.heap.size w w' := by
  by_cases h4 : n ≤ 4
  · simp only [if_pos h4]
    go_enter Tryz.func85, Tryz.ntmps85
    go_wp2_with fail
    go_ret2
    exact ⟨_, _, rfl, ⟨A, c, rfl, hc, h⟩, ⟨none, 0, rfl, Nat.le_refl _, Sl.nil⟩, Below.refl _ _⟩
  · simp only [if_neg h4]
    have hk : n / 2 ≤ n := Nat.div_le_self _ _
    have hT := h.takeN hk
    have hD := h.dropN hk hc
    obtain ⟨o1, o2⟩ := h.ones_of h1 (n / 2 * 3)
    have hd : ((n : Int).tdiv 2) = ((n / 2 : Nat) : Int) := by
      rw [Int.tdiv_eq_ediv_of_nonneg (by omega)]; rfl
    obtain ⟨k, hkk⟩ : ∃ k, k = n / 2 := ⟨_, rfl⟩
    rw [← hkk] at hT hD o1 o2 hk ⊢
    have HK := hide hkk
    clear hkk hd h h1
    go_enter Tryz.func85, Tryz.ntmps85
    go_wp2_with fail
    have hdv : (n : Int) / 2 = (k : Int) := by have := HK.out; omega
    rw [hdv]
    have hkc : k ≤ c := by omega
    have hkci : (k : Int) ≤ (c : Int) := by omega
    have hkni : (k : Int) ≤ (n : Int) := by omega
    have hk0 : (0 : Int) ≤ (k : Int) := by omega
    have hb0 : Below w.heap.size w w.drew := below_drewN (Below.refl _ _) 1
    clear hdv
    go_region_law (first
      | ((with_reducible refine at_dst 15 ?_); go_simp; go_at_call 120; refine (clone_K _ _ _ (xs.take (k * 3)) _ _ hT.drew (by omega) o1).mono ?_; rintro e w1 ⟨va, rfl, ho1, hb1⟩)
      | ((with_reducible refine at_dst 19 ?_); go_simp; go_at_call 120; refine (clone_K _ _ _ (xs.drop (k * 3)) _ _ (hD.below (hb0.trans (hb1.mono hb0.size))) (by omega) o2).mono ?_; rintro e w2 ⟨vb, rfl, ho2, hb2⟩))
    all_goals go_wp2_with fail
    all_goals go_ret2
    all_goals exact ⟨_, _, rfl, (SlV.own ho1 hV).below hb2, SlV.own ho2 (fun b hb => hV b (Nat.le_trans hb1.size hb)), hb0.trans ((hb1.mono hb0.size).trans (hb2.mono (Nat.le_trans hb0.size hb1.size)))⟩

theorem kn_one {w : World} {V : Nat → Prop} {B : Nat} {a b c : Value} {t : Kt} (h : Kn w V B a b c t) : a.oneCell' = true ∧ b.oneCell' = true ∧ c.oneCell' = true := by
  obtain ⟨cells, keys, kids⟩ := t
  obtain ⟨⟨A1, c1, rfl, _⟩, ⟨A2, c2, rfl, _⟩, A3, c3, vals, rfl, _⟩ := kn_mk.1 h
  exact ⟨rfl, rfl, rfl⟩
theorem knL_one' {w : World} {V : Nat → Prop} {B : Nat} {vals : List Value} {l : List Kt} (h : KnL w V B vals l) : ∀ u ∈ vals, u.oneCell' = true := by
  induction l generalizing vals with
  | nil => rw [knL_nil] at h; subst h; intro u hu; cases hu
  | cons k l ih =>
    obtain ⟨x, y, z, r, rfl, h1, h2⟩ := knL_cons.1 h
    have := kn_one h1
    intro u hu
    simp only [List.mem_cons] at hu
    rcases hu with rfl | rfl | rfl | hu
    · exact this.1
    · exact this.2.1
    · exact this.2.2
    · exact ih h2 u hu

/-- kids and keys, as put, leaves, inners, swap, both answer them -/
def TwoR (w : World) (V : Nat → Prop) (B : Nat) (e : Ending) (ks : List Kt) (kys : List ByteArray) : Prop :=
  ∃ v1 v2 vals, e = .returned (.tuple #[v1, v2]) ∧ SlV w V 3 v1 ks.length vals ∧ KnL w V B vals ks ∧ SlV w V 1 v2 kys.length (strs kys)

theorem lit_slv {w w' : World} {V : Nat → Prop} (hV : ∀ b, w.heap.size ≤ b → V b) {e : TypeId} {size n : Nat} (cs : Array Value) (hs : cs.size = n * size) (hm : n ≤ maxLen) (hb : Below (w.heap.size + 1) (w.alloc (.cells cs e)) w') : SlV w' V size (.slice (some ⟨w.heap.size, 0, none⟩) n n) n cs.toList := by
  have := World.ownsRow_lit (base := w.heap.size) (e := e) (size := size) w cs n (Nat.le_refl _) hm hs
  exact (SlV.own this hV).below (by rw [World.size_alloc]; exact hb)
/-- two blocks, laid one behind the other -/
theorem lit_two (w1 : World) {V : Nat → Prop} (hV : ∀ b, w1.heap.size ≤ b → V b) (e1 e2 : TypeId) (s1 s2 n1 n2 : Nat) (c1 c2 : Array Value) (h1 : c1.size = n1 * s1) (h2 : c2.size = n2 * s2) (m1 : n1 ≤ maxLen) (m2 : n2 ≤ maxLen) :
    SlV ((w1.alloc (.cells c1 e1)).alloc (.cells c2 e2)).drew V s1 (.slice (some ⟨w1.heap.size, 0, none⟩) n1 n1) n1 c1.toList ∧
    SlV ((w1.alloc (.cells c1 e1)).alloc (.cells c2 e2)).drew V s2 (.slice (some ⟨w1.heap.size + 1, 0, none⟩) n2 n2) n2 c2.toList ∧
    Below w1.heap.size w1 ((w1.alloc (.cells c1 e1)).alloc (.cells c2 e2)).drew := by
  have hb : Below (w1.heap.size + 1) (w1.alloc (.cells c1 e1)) ((w1.alloc (.cells c1 e1)).alloc (.cells c2 e2)).drew := below_drewN ((Below.refl _ _).alloc (by simp) _) 1
  refine ⟨lit_slv hV c1 h1 m1 hb, ?_, ((Below.refl _ w1).alloc (Nat.le_refl _) _).trans (hb.mono (Nat.le_succ _))⟩
  have := lit_slv (w := w1.alloc (.cells c1 e1)) (w' := ((w1.alloc (.cells c1 e1)).alloc (.cells c2 e2)).drew) (fun b hb => hV b (by rw [World.size_alloc] at hb; omega)) c2 h2 m2 (below_drewN (Below.refl _ _) 1)
  rwa [World.size_alloc] at this
theorem slv_nil (w : World) {V : Nat → Prop} (size : Nat) : SlV w V size (.slice none 0 0) 0 [] := ⟨none, 0, rfl, Nat.le_refl _, Sl.nil⟩

/-- a knot out of its parts -/
theorem kn_of {w : World} {V : Nat → Prop} {B n1 n2 n3 : Nat} {v1 v2 v3 : Value} {xs vals : List Value} {cells : List Cell} {keys : List ByteArray} {kids : List Kt} (h1 : SlV w V 2 v1 n1 xs) (h2 : SlV w V 1 v2 n2 (strs keys)) (h3 : SlV w V 3 v3 n3 vals) (hk : KnL w V B vals kids)
    (e1 : xs = cellsV cells) (b1 : n1 ≤ B) (b2 : n2 ≤ B) (b3 : n3 ≤ B) : Kn w V B v1 v2 v3 (.mk cells keys kids) := by
  subst e1
  obtain ⟨A1, c1, rfl, g1, s1⟩ := h1
  obtain ⟨A2, c2, rfl, g2, s2⟩ := h2
  obtain ⟨A3, c3, rfl, g3, s3⟩ := h3
  have l1 := s1.cells
  have l2 := s2.len
  have l3 : kids.length = n3 := by have := s3.1; have := knL_len hk; omega
  subst l1 l2 l3
  exact kn_mk.2 ⟨⟨A1, c1, rfl, g1, b1, s1⟩, ⟨A2, c2, rfl, g2, b2, s2⟩, A3, c3, vals, rfl, g3, b3, s3, hk⟩

set_option maxRecDepth 100000 in
set_option maxHeartbeats 800000 in
theorem leaves_any (A : Option Addr) (c : Nat) (l : List Cell) (V : Nat → Prop) (w : World) (h : Sl w V 2 A l.length (cellsV l)) (hV : ∀ b, w.heap.size ≤ b → V b) (hc : l.length ≤ c) (hn : l.length ≤ 1000) :
    Calls Tryz.prog 43 #[.slice A l.length c] w fun e w' => TwoR w' V 1000 e (TreeP.leavesP l).1 (TreeP.leavesP l).2 ∧ Below w.heap.size w w' := by
  have hh := halves_C A l.length c (cellsV l) V w h hV hc hn (cellsV_one l)
  unfold TreeP.leavesP
  by_cases h4 : l.length ≤ 4
  · simp only [if_pos h4] at hh ⊢
    go_enter Tryz.func43, Tryz.ntmps43
    go_wp2_with fail
    refine hh.mono ?_
    rintro e w1 ⟨a, b, rfl, ⟨Aa, ca, rfl, ga, sa0⟩, ⟨A2, c2, rfl, g2, s2⟩, hb⟩
    have sa : SlV w1 V 2 (.slice Aa l.length ca) l.length (cellsV l) := ⟨Aa, ca, rfl, ga, sa0⟩
    clear hh
    go_wp2_with fail
    go_ret2
    have hb2 := (Below.refl w1.heap.size w1).alloc (Nat.le_refl _) (.cells #[.slice Aa l.length ca, .slice none 0 0, .slice none 0 0] 29)
    exact ⟨⟨_, _, _, rfl, lit_slv (fun b hb' => hV b (Nat.le_trans hb.size hb')) _ rfl (by simp [maxLen]) (Below.refl _ _), knL_one (kn_of (sa.below hb2) (slv_nil _ _) (slv_nil _ _) (knL_nil.2 rfl) rfl (by omega) (by omega) (by omega)), slv_nil _ _⟩, hb.alloc hb.size _⟩
  · simp only [if_neg h4] at hh ⊢
    have hk : l.length / 2 ≤ l.length := Nat.div_le_self _ _
    rw [← cellsV_take, ← cellsV_drop] at hh
    obtain ⟨x, hx⟩ : ∃ x, (l.drop (l.length / 2))[0]? = some x := ⟨_, List.getElem?_eq_getElem (by rw [List.length_drop]; omega)⟩
    have hhd : (((l.drop (l.length / 2)).head?).map (·.1)).toList = [x.1] := by rw [List.head?_eq_getElem?, hx]; rfl
    rw [hhd]
    have hl1 : (l.take (l.length / 2)).length ≤ 1000 := by rw [List.length_take]; omega
    have hl2 : (l.drop (l.length / 2)).length ≤ 1000 := by rw [List.length_drop]; omega
    have hpos : 0 < l.length - l.length / 2 := by omega
    generalize l.take (l.length / 2) = la at *
    generalize l.drop (l.length / 2) = lb at *
    have hmB : l.length - l.length / 2 ≤ 1000 := by omega
    have hm1B : l.length / 2 ≤ 1000 := by omega
    generalize hm : l.length - l.length / 2 = m at *
    generalize l.length / 2 = m1 at *
    clear hhd hm h
    have HX := hide hx
    clear hx
    go_enter Tryz.func43, Tryz.ntmps43
    go_wp2_with fail
    refine hh.mono ?_
    rintro e w1 ⟨a, b, rfl, ⟨Aa, ca, rfl, ga, sa0⟩, ⟨A2, c2, rfl, g2, s2⟩, hb⟩
    have sa : SlV w1 V 2 (.slice Aa m1 ca) m1 (cellsV la) := ⟨Aa, ca, rfl, ga, sa0⟩
    have sb : SlV w1 V 2 (.slice A2 m c2) m (cellsV lb) := ⟨A2, c2, rfl, g2, s2⟩
    obtain ⟨ad, x', hA, hx', hc1, hc2⟩ := s2.cell hpos
    have hxe : x' = x := by rw [HX.out] at hx'; injection hx' with hx'; exact hx'.symm
    subst hxe hA
    have hne : ((m : Int) == 0) = false := by simp; omega
    have hpi : (0 : Int) < (m : Int) := by omega
    clear hx' HX hh
    rw [Nat.zero_mul] at hc1
    simp only [Addr.add_zero'] at hc1
    have hc1' : ∀ o, (w1.alloc o).cell? ad = some (.string x'.1) := fun o => cell_next hc1 ((Below.refl _ _).alloc (Nat.le_refl _) o)
    clear hc2
    go_wp2_with fail
    go_region
    all_goals go_wp2_with fail
    all_goals go_ret2
    · obtain ⟨p, q, hbx⟩ := lit_two w1 (fun b hb' => hV b (Nat.le_trans hb.size hb')) 29 9 3 1 2 1 #[.slice Aa m1 ca, .slice none 0 0, .slice none 0 0, .slice (some ad) m c2, .slice none 0 0, .slice none 0 0] #[.string x'.1] rfl rfl (by simp [maxLen]) (by simp [maxLen])
      exact ⟨⟨_, _, _, rfl, p, knL_append (knL_one (kn_of (sa.below hbx) (slv_nil _ _) (slv_nil _ _) (knL_nil.2 rfl) rfl (by omega) (by omega) (by omega))) (knL_one (kn_of (sb.below hbx) (slv_nil _ _) (slv_nil _ _) (knL_nil.2 rfl) rfl (by omega) (by omega) (by omega))), q⟩, hb.trans (hbx.mono hb.size)⟩
    · obtain ⟨q, p, hbx⟩ := lit_two w1 (fun b hb' => hV b (Nat.le_trans hb.size hb')) 9 29 1 3 1 2 #[.string x'.1] #[.slice Aa m1 ca, .slice none 0 0, .slice none 0 0, .slice (some ad) m c2, .slice none 0 0, .slice none 0 0] rfl rfl (by simp [maxLen]) (by simp [maxLen])
      exact ⟨⟨_, _, _, rfl, p, knL_append (knL_one (kn_of (sa.below hbx) (slv_nil _ _) (slv_nil _ _) (knL_nil.2 rfl) rfl (by omega) (by omega) (by omega))) (knL_one (kn_of (sb.below hbx) (slv_nil _ _) (slv_nil _ _) (knL_nil.2 rfl) rfl (by omega) (by omega) (by omega))), q⟩, hb.trans (hbx.mono hb.size)⟩
end Go.Proofs.YtojincohnjophaaGreatDoor

/-! The walks of layer 20's inners, swap. -/
namespace Go.Proofs.YtojincohnjophaaGreatDoor
open Go.RowKit
open TreeP (Kt Cell kl flat flatL)
set_option linter.unusedVariables false

set_option maxRecDepth 100000 in
set_option maxHeartbeats 1600000 in
theorem inners_any (A1 A2 : Option Addr) (c1 c2 : Nat) (vals : List Value) (kids : List Kt) (keys : List ByteArray) (w : World) (V : Nat → Prop) (hV : ∀ b, w.heap.size ≤ b → V b) (h1 : Sl w V 3 A1 kids.length vals) (hk : KnL w V 1000 vals kids) (hc1 : kids.length ≤ c1)
    (h2 : Sl w V 1 A2 keys.length (strs keys)) (hc2 : keys.length ≤ c2) (hl : keys.length + 1 = kids.length) (hn : kids.length ≤ 1000) :
    Calls Tryz.prog 46 #[.slice A1 kids.length c1, .slice A2 keys.length c2] w fun e w' => TwoR w' V 1000 e (TreeP.innersP kids keys).1 (TreeP.innersP kids keys).2 ∧ Below w.heap.size w w' := by
  have hh := halves_K A1 kids.length c1 vals _ w h1 hV hc1 hn (knL_one' hk)
  unfold TreeP.innersP
  by_cases h4 : kids.length ≤ 4
  · simp only [if_pos h4] at hh ⊢
    have hs2 : SlV w V 1 (.slice A2 keys.length c2) keys.length (strs keys) := ⟨A2, c2, rfl, hc2, h2⟩
    go_enter Tryz.func46, Tryz.ntmps46
    go_wp2_with fail
    refine hh.mono ?_
    rintro e w1 ⟨a, b, rfl, ⟨Aa, ca, rfl, ga, sa0⟩, ⟨Ab, cb, rfl, gb, sb0⟩, hb⟩
    have sa : SlV w1 V 3 (.slice Aa kids.length ca) kids.length vals := ⟨Aa, ca, rfl, ga, sa0⟩
    clear hh
    go_wp2_with fail
    go_ret2
    have hb2 := (Below.refl w1.heap.size w1).alloc (Nat.le_refl _) (.cells #[.slice none 0 0, .slice A2 keys.length c2, .slice Aa kids.length ca] 29)
    exact ⟨⟨_, _, _, rfl, lit_slv (fun b hb' => hV b (Nat.le_trans hb.size hb')) _ rfl (by simp [maxLen]) (Below.refl _ _), knL_one (kn_of (slv_nil _ _) ((hs2.below hb).below hb2) (sa.below hb2) ((hk.below hb).below hb2) rfl (by omega) (by omega) (by omega)), slv_nil _ _⟩, hb.alloc hb.size _⟩
  · simp only [if_neg h4] at hh ⊢
    obtain ⟨n, hnn⟩ : ∃ n, n = kids.length / 2 := ⟨_, rfl⟩
    rw [← hnn] at hh ⊢
    have hn2 : 2 ≤ n := by omega
    have hnl : n < kids.length := by omega
    have hT := h2.takeN (m := n - 1) (by omega)
    have hD := h2.dropN (k := n) (by omega) hc2
    obtain ⟨x, hx⟩ : ∃ x, keys[n - 1]? = some x := ⟨_, List.getElem?_eq_getElem (by omega)⟩
    rw [hx]
    have hcn : ¬ c2 = n := by omega
    rw [if_neg hcn] at hD
    have hT1 : ∀ u ∈ (strs keys).take ((n - 1) * 1), u.oneCell' = true := fun u hu => strs_one keys u (List.mem_of_mem_take hu)
    have hD1 : ∀ u ∈ (strs keys).drop (n * 1), u.oneCell' = true := fun u hu => strs_one keys u (List.mem_of_mem_drop hu)
    have kT := knL_take hk n
    have kD := knL_drop hk n
    obtain ⟨ax, hax, hcx⟩ := sl_get h2 (k := n - 1) (u := .string x) (by rw [strs, List.getElem?_map, hx]; rfl)
    subst hax
    have hlT : ((strs keys).take ((n - 1) * 1)) = strs (keys.take (n - 1)) := by simp [strs]
    have hlD : ((strs keys).drop (n * 1)) = strs (keys.drop n) := by simp [strs]
    have hi1 : (1 : Int) ≤ (n : Int) := by omega
    have hi2 : ((n : Int) - 1) = ((n - 1 : Nat) : Int) := by omega
    have hi3 : ((n - 1 : Nat) : Int) ≤ (c2 : Int) := by omega
    have hi4 : ((n - 1 : Nat) : Int) < (keys.length : Int) := by omega
    have hi5 : (n : Int) ≤ (keys.length : Int) := by omega
    have hi6 : (n : Int) ≤ (c2 : Int) := by omega
    have hi0 : (0 : Int) ≤ ((n - 1 : Nat) : Int) := by omega
    have hne : (((kids.length - n : Nat) : Int) == 0) = false := by simp; omega
    have HI2 := hide hi2
    have HX := hide hx
    have HN := hide hnn
    clear hi2 hx hnn
    have hax' : Option.map (fun x : Addr => x.add (n * 1)) (some ax) = some (ax.add n) := by simp
    go_enter Tryz.func46, Tryz.ntmps46
    go_wp2_with fail
    refine hh.mono ?_
    rintro e w1 ⟨a, b, rfl, ⟨Aa, ca, rfl, ga, sa0⟩, ⟨Ab, cb, rfl, gb, sb0⟩, hb⟩
    have sa : SlV w1 V 3 (.slice Aa n ca) n (vals.take (n * 3)) := ⟨Aa, ca, rfl, ga, sa0⟩
    have sb : SlV w1 V 3 (.slice Ab (kids.length - n) cb) (kids.length - n) (vals.drop (n * 3)) := ⟨Ab, cb, rfl, gb, sb0⟩
    clear hh h1 hk
    go_wp2_with fail
    refine (clone_S _ _ _ _ _ _ (hT.below hb) (by omega) hT1).mono ?_
    rintro e w2 ⟨vl, rfl, ho2, hb2⟩
    obtain ⟨Al, cl, hvl⟩ := own_shape ho2
    subst hvl
    have hb2' := hb.trans (hb2.mono hb.size)
    have b9 : ∀ w', Below (w2.heap.size + 1) (w2.alloc (.cells #[.slice none 0 0, .slice Al (n - 1) cl, .slice Aa n ca] 29)) w' → w'.cell? ⟨w2.heap.size, 0, none⟩ = some (.slice none 0 0) ∧ w'.cell? ⟨w2.heap.size, 1, none⟩ = some (.slice Al (n - 1) cl) ∧ w'.cell? ⟨w2.heap.size, 2, none⟩ = some (.slice Aa n ca) := by
      intro w' h
      have h' : Below (w2.alloc (.cells #[.slice none 0 0, .slice Al (n - 1) cl, .slice Aa n ca] 29)).heap.size (w2.alloc (.cells #[.slice none 0 0, .slice Al (n - 1) cl, .slice Aa n ca] 29)) w' := by rw [World.size_alloc]; exact h
      exact ⟨cell_next (by go_simp) h', cell_next (by go_simp) h', cell_next (by go_simp) h'⟩
    clear hT hT1
    rw [hax'] at hD
    have hDx := hD.below (hb2'.alloc hb2'.size (.cells #[.slice none 0 0, .slice Al (n - 1) cl, .slice Aa n ca] 29))
    go_wp2_with fail
    refine (clone_S _ _ _ _ _ _ hDx (by omega) hD1).mono ?_
    rintro e w3 ⟨vr, rfl, ho3, hb3⟩
    obtain ⟨Ar, cr, hvr⟩ := own_shape ho3
    subst hvr
    rw [World.size_alloc] at hb3
    obtain ⟨q0, q1, q2⟩ := b9 w3 hb3
    have hbx := (hb2'.alloc hb2'.size (.cells #[.slice none 0 0, .slice Al (n - 1) cl, .slice Aa n ca] 29)).trans (hb3.mono (by have := hb2'.size; omega))
    have hb4 := hbx.alloc hbx.size (.cells #[.slice none 0 0, .slice Ar (keys.length - n) cr, .slice Ab (kids.length - n) cb] 29)
    have hst := (Below.refl w3.heap.size w3).alloc (Nat.le_refl _) (.cells #[.slice none 0 0, .slice Ar (keys.length - n) cr, .slice Ab (kids.length - n) cb] 29)
    obtain ⟨r0, r1, r2⟩ : (w3.alloc (.cells #[.slice none 0 0, .slice Ar (keys.length - n) cr, .slice Ab (kids.length - n) cb] 29)).cell? ⟨w3.heap.size, 0, none⟩ = some (.slice none 0 0) ∧
        (w3.alloc (.cells #[.slice none 0 0, .slice Ar (keys.length - n) cr, .slice Ab (kids.length - n) cb] 29)).cell? ⟨w3.heap.size, 1, none⟩ = some (.slice Ar (keys.length - n) cr) ∧
        (w3.alloc (.cells #[.slice none 0 0, .slice Ar (keys.length - n) cr, .slice Ab (kids.length - n) cb] 29)).cell? ⟨w3.heap.size, 2, none⟩ = some (.slice Ab (kids.length - n) cb) := ⟨by go_simp, by go_simp, by go_simp⟩
    have q0' := cell_next q0 hst
    have q1' := cell_next q1 hst
    have q2' := cell_next q2 hst
    have hcx' := cell_next hcx hb4
    have hwr : IntKind.i64.wrap ((n : Int) - 1) = ((n - 1 : Nat) : Int) := by rw [IntWalk.i64_in _ (by omega)]; exact HI2.out
    have hB1 := (hb2.alloc hb2.size (.cells #[.slice none 0 0, .slice Al (n - 1) cl, .slice Aa n ca] 29)).trans (hb3.mono (by have := hb2.size; omega))
    have hB2 := hB1.alloc hB1.size (.cells #[.slice none 0 0, .slice Ar (keys.length - n) cr, .slice Ab (kids.length - n) cb] 29)
    have saA := sa.below hB2
    have sbA := sb.below hB2
    clear hB1
    have so3 := (SlV.own (V := V) ho3 (fun b hb' => hV b (by have := hb2'.size; rw [World.size_alloc] at hb'; omega))).below hst
    have so2 := ((SlV.own (V := V) ho2 (fun b hb' => hV b (Nat.le_trans hb.size hb'))).below ((Below.refl _ w2).alloc (Nat.le_refl _) (.cells #[.slice none 0 0, .slice Al (n - 1) cl, .slice Aa n ca] 29))).below (by rw [World.size_alloc]; exact hb3.trans (hst.mono (by have := hb3.size; rw [World.size_alloc] at this; exact this)))
    clear hD hDx b9 hD1 q0 q1 q2 hst
    go_wp2_with fail
    rw [HI2.out]
    generalize w3.alloc (.cells #[.slice none 0 0, .slice Ar (keys.length - n) cr, .slice Ab (kids.length - n) cb] 29) = wA at *
    have up : ∀ {a : Addr} {v : Value}, wA.cell? a = some v → ∀ o, (wA.alloc o).cell? a = some v := fun h o => cell_next h ((Below.refl _ _).alloc (Nat.le_refl _) o)
    have t0 := up q0'
    have t1 := up q1'
    have t2 := up q2'
    have t3 := up r0
    have t4 := up r1
    have t5 := up r2
    have t6 := up hcx'
    clear up hcx
    go_region
    all_goals go_wp2_with fail
    all_goals go_ret2
    all_goals clear t0 t1 t2 t3 t4 t5 t6 r0 r1 r2 q0' q1' q2' hcx' sa sb
    · obtain ⟨p, q, hz⟩ := lit_two wA (fun b hb' => hV b (Nat.le_trans hb4.size hb')) 29 9 3 1 2 1 #[.slice none 0 0, .slice Al (n - 1) cl, .slice Aa n ca, .slice none 0 0, .slice Ar (keys.length - n) cr, .slice Ab (kids.length - n) cb] #[.string x] rfl rfl (by simp [maxLen]) (by simp [maxLen])
      exact ⟨⟨_, _, _, rfl, p, knL_append (knL_one (kn_of (slv_nil _ _) (hlT ▸ so2.below hz) (saA.below hz) ((kT.below hb4).below hz) rfl (by omega) (by omega) (by omega))) (knL_one (kn_of (slv_nil _ _) (hlD ▸ so3.below hz) (sbA.below hz) ((kD.below hb4).below hz) rfl (by omega) (by omega) (by omega))), q⟩, hb4.trans (hz.mono hb4.size)⟩
    · obtain ⟨q, p, hz⟩ := lit_two wA (fun b hb' => hV b (Nat.le_trans hb4.size hb')) 9 29 1 3 1 2 #[.string x] #[.slice none 0 0, .slice Al (n - 1) cl, .slice Aa n ca, .slice none 0 0, .slice Ar (keys.length - n) cr, .slice Ab (kids.length - n) cb] rfl rfl (by simp [maxLen]) (by simp [maxLen])
      exact ⟨⟨_, _, _, rfl, p, knL_append (knL_one (kn_of (slv_nil _ _) (hlT ▸ so2.below hz) (saA.below hz) ((kT.below hb4).below hz) rfl (by omega) (by omega) (by omega))) (knL_one (kn_of (slv_nil _ _) (hlD ▸ so3.below hz) (sbA.below hz) ((kD.below hb4).below hz) rfl (by omega) (by omega) (by omega))), q⟩, hb4.trans (hz.mono hb4.size)⟩
end Go.Proofs.YtojincohnjophaaGreatDoor

/-! The walks of layer 20's swap, both. -/
namespace Go.Proofs.YtojincohnjophaaGreatDoor
open Go.RowKit
open TreeP (Kt Cell kl flat flatL)
set_option linter.unusedVariables false
attribute [local go_sem ↓] Go.wp_at_zero Go.wp_at_succ

theorem bal {a Y : World} (h : Below a.heap.size a Y) (o : Obj) : Below a.heap.size a (Y.alloc o) := h.alloc h.size o
theorem bsz {a Y : World} (h : Below a.heap.size a Y) : a.heap.size ≤ Y.heap.size := h.size
theorem bdr {a Y : World} (h : Below a.heap.size a Y) : Below a.heap.size a Y.drew := below_drewN h 1
theorem btr {a Y Z : World} (h : Below a.heap.size a Y) (g : Below Y.heap.size Y Z) : Below a.heap.size a Z := h.trans (g.mono h.size)
theorem keep2 {w w' : World} {a b : Addr} {x y : Value} (h : w.cell? a = some x ∧ w.cell? b = some y) (hb : Below w.heap.size w w') : w'.cell? a = some x ∧ w'.cell? b = some y := ⟨cell_next h.1 hb, cell_next h.2 hb⟩
theorem sl3 {w : World} {b : Nat} {x y z : Value} (h0 : w.cell? ⟨b, 0, none⟩ = some x) (h1 : w.cell? ⟨b, 1, none⟩ = some y) (h2 : w.cell? ⟨b, 2, none⟩ = some z) : Sl w (fun _ => True) 1 (some ⟨b, 0, none⟩) 3 [x, y, z] := by
  refine ⟨rfl, fun _ => ⟨_, rfl, trivial, World.block_lt_of_cell? w _ h0, fun j u hu => ?_⟩⟩
  match j, hu with
  | 0, hu => simp at hu; subst hu; exact h0
  | 1, hu => simp at hu; subst hu; exact h1
  | 2, hu => simp at hu; subst hu; exact h2
theorem rws3 {w w' : World} {V1 V2 V3 : Nat → Prop} {size n1 n2 n3 c1 c2 c3 : Nat} {A1 A2 A3 : Option Addr} {x1 x2 x3 : List Value} (h1 : Sl w V1 size A1 n1 x1) (h2 : Sl w V2 size A2 n2 x2) (h3 : Sl w V3 size A3 n3 x3) (hb : Below w.heap.size w w') :
    Rws w' size [.slice A1 n1 c1, .slice A2 n2 c2, .slice A3 n3 c3] [(n1, x1), (n2, x2), (n3, x3)] := by
  refine ⟨rfl, fun i r hr => ?_⟩
  match i, hr with
  | 0, hr => simp at hr; subst hr; exact ⟨_, _, rfl, (h1.any).below hb⟩
  | 1, hr => simp at hr; subst hr; exact ⟨_, _, rfl, (h2.any).below hb⟩
  | 2, hr => simp at hr; subst hr; exact ⟨_, _, rfl, (h3.any).below hb⟩
theorem swap_end {w : World} {V : Nat → Prop} {vK vS : Value} {i n : Nat} {vals nvals : List Value} {kids nkids : List Kt} {keys nkeys : List ByteArray}
    (hK : SlV w V 3 vK (total [(i, vals.take (i * 3)), (nkids.length, nvals), (kids.length - (i + n), vals.drop ((i + n) * 3))]) (joined [(i, vals.take (i * 3)), (nkids.length, nvals), (kids.length - (i + n), vals.drop ((i + n) * 3))]))
    (hS : SlV w V 1 vS (total [(i, (strs keys).take (i * 1)), (nkeys.length, strs nkeys), (keys.length - (i + n - 1), (strs keys).drop (i + n - 1))]) (joined [(i, (strs keys).take (i * 1)), (nkeys.length, strs nkeys), (keys.length - (i + n - 1), (strs keys).drop (i + n - 1))]))
    (kT : KnL w V 1000 (vals.take (i * 3)) (kids.take i)) (gk : KnL w V 1000 nvals nkids) (kD : KnL w V 1000 (vals.drop ((i + n) * 3)) (kids.drop (i + n)))
    (hi : i + n ≤ kids.length) (hl : keys.length + 1 = kids.length) (hn : 1 ≤ n) :
    TwoR w V 1000 (.returned (.tuple #[vK, vS])) (kids.take i ++ nkids ++ kids.drop (i + n)) (keys.take i ++ nkeys ++ keys.drop (i + n - 1)) := by
  have e1 : (kids.take i ++ nkids ++ kids.drop (i + n)).length = total [(i, vals.take (i * 3)), (nkids.length, nvals), (kids.length - (i + n), vals.drop ((i + n) * 3))] := by
    simp only [List.length_append, List.length_take, List.length_drop, total]; omega
  have e2 : (keys.take i ++ nkeys ++ keys.drop (i + n - 1)).length = total [(i, (strs keys).take (i * 1)), (nkeys.length, strs nkeys), (keys.length - (i + n - 1), (strs keys).drop (i + n - 1))] := by
    simp only [List.length_append, List.length_take, List.length_drop, total]; omega
  have e3 : strs (keys.take i ++ nkeys ++ keys.drop (i + n - 1)) = joined [(i, (strs keys).take (i * 1)), (nkeys.length, strs nkeys), (keys.length - (i + n - 1), (strs keys).drop (i + n - 1))] := by
    simp [joined, strs]
  refine ⟨vK, vS, joined [(i, vals.take (i * 3)), (nkids.length, nvals), (kids.length - (i + n), vals.drop ((i + n) * 3))], rfl, ?_, ?_, ?_⟩
  · rw [e1]; exact hK
  · simp only [joined, List.append_nil]
    rw [← List.append_assoc]
    exact knL_append (knL_append kT gk) kD
  · rw [e2, e3]; exact hS

set_option maxRecDepth 100000 in
set_option maxHeartbeats 3200000 in
theorem swap_any (v1 : Value) (A2 A3 B1 B2 : Option Addr) (c2 c3 d1 d2 i n : Nat) (vals nvals : List Value) (kids nkids : List Kt) (keys nkeys : List ByteArray) (w : World) (V : Nat → Prop) (hV : ∀ b, w.heap.size ≤ b → V b)
    (h2 : Sl w V 1 A2 keys.length (strs keys)) (hc2 : keys.length ≤ c2) (h3 : Sl w V 3 A3 kids.length vals) (hk : KnL w V 1000 vals kids) (hc3 : kids.length ≤ c3)
    (g1 : Sl w V 3 B1 nkids.length nvals) (gk : KnL w V 1000 nvals nkids) (g2 : Sl w V 1 B2 nkeys.length (strs nkeys))
    (hi : i + n ≤ kids.length) (hn : 1 ≤ n) (hl : keys.length + 1 = kids.length) (hs : kids.length ≤ 100) (hs1 : nkids.length ≤ 100) (hs2 : nkeys.length ≤ 100) :
    Calls Tryz.prog 47 #[.agg #[v1, .slice A2 keys.length c2, .slice A3 kids.length c3], .int .i64 i, .int .i64 n, .slice B1 nkids.length d1, .slice B2 nkeys.length d2] w
      fun e w' => TwoR w' V 1000 e (kids.take i ++ nkids ++ kids.drop (i + n)) (keys.take i ++ nkeys ++ keys.drop (i + n - 1)) ∧ Below w.heap.size w w' := by
  have hbA := (Below.refl w.heap.size w).alloc (Nat.le_refl _) (.cells #[v1, .slice A2 keys.length c2, .slice A3 kids.length c3] 29)
  have k1 : (w.alloc (.cells #[v1, .slice A2 keys.length c2, .slice A3 kids.length c3] 29)).cell? ⟨w.heap.size, 1, none⟩ = some (.slice A2 keys.length c2) := by go_simp
  have k2 : (w.alloc (.cells #[v1, .slice A2 keys.length c2, .slice A3 kids.length c3] 29)).cell? ⟨w.heap.size, 2, none⟩ = some (.slice A3 kids.length c3) := by go_simp
  have k0 : w.heap.size < (w.alloc (.cells #[v1, .slice A2 keys.length c2, .slice A3 kids.length c3] 29)).heap.size := by simp
  have hT3 := (h3.takeN (m := i) (by omega)).below hbA
  have hD3 := (h3.dropN (k := i + n) (by omega) hc3).below hbA
  have hT2 := (h2.takeN (m := i) (by omega)).below hbA
  have hD2 := (h2.dropN (k := i + n - 1) (by omega) hc2).below hbA
  have g1' := g1.below hbA
  have g2' := g2.below hbA
  simp only [Nat.mul_one] at hD2
  obtain ⟨D3, hD3e⟩ : ∃ D, (if c3 = i + n then A3 else A3.map (fun x => x.add ((i + n) * 3))) = D := ⟨_, rfl⟩
  obtain ⟨D2, hD2e⟩ : ∃ D, (if c2 = i + n - 1 then A2 else A2.map (fun x => x.add (i + n - 1))) = D := ⟨_, rfl⟩
  rw [hD3e] at hD3
  rw [hD2e] at hD2
  have kT := (knL_take hk i).below hbA
  have kD := (knL_drop hk (i + n)).below hbA
  have gk' := gk.below hbA
  have o3 : ∀ r ∈ [(i, vals.take (i * 3)), (nkids.length, nvals), (kids.length - (i + n), vals.drop ((i + n) * 3))], ∀ u ∈ r.2, u.oneCell' = true := by
    intro r hr
    simp only [List.mem_cons, List.not_mem_nil, or_false] at hr
    rcases hr with rfl | rfl | rfl
    · exact knL_one' (knL_take hk i)
    · exact knL_one' gk
    · exact knL_one' (knL_drop hk (i + n))
  have o2 : ∀ r ∈ [(i, (strs keys).take (i * 1)), (nkeys.length, strs nkeys), (keys.length - (i + n - 1), (strs keys).drop (i + n - 1))], ∀ u ∈ r.2, u.oneCell' = true := by
    intro r hr
    simp only [List.mem_cons, List.not_mem_nil, or_false] at hr
    rcases hr with rfl | rfl | rfl
    · exact fun u hu => strs_one keys u (List.mem_of_mem_take hu)
    · exact strs_one nkeys
    · exact fun u hu => strs_one keys u (List.mem_of_mem_drop hu)
  have t3 : total [(i, vals.take (i * 3)), (nkids.length, nvals), (kids.length - (i + n), vals.drop ((i + n) * 3))] ≤ 1000000000 := by simp only [total]; omega
  have t2 : total [(i, (strs keys).take (i * 1)), (nkeys.length, strs nkeys), (keys.length - (i + n - 1), (strs keys).drop (i + n - 1))] ≤ 1000000000 := by simp only [total]; omega
  have O3 := hide o3
  have O2 := hide o2
  have b1 : (i : Int) + n ≤ kids.length := by omega
  have b2 : (i : Int) + n - 1 ≤ keys.length := by omega
  have b3 : (i : Int) ≤ keys.length := by omega
  have b4 : (i : Int) ≤ kids.length := by omega
  have b5 : (i : Int) ≤ c2 := by omega
  have b6 : (i : Int) ≤ c3 := by omega
  have b7 : (0 : Int) ≤ (i : Int) := by omega
  have b8 : (0 : Int) ≤ (i : Int) + n := by omega
  have b9 : (0 : Int) ≤ (i : Int) + n - 1 := by omega
  have b10 : (i : Int) + n ≤ c3 := by omega
  have b11 : (i : Int) + n - 1 ≤ c2 := by omega
  have b12 : (kids.length : Int) ≤ c3 := by omega
  have b13 : (keys.length : Int) ≤ c2 := by omega
  have b14 : (1 : Int) ≤ (i : Int) + n := by omega
  have b15 : (i : Int) + n ≤ (keys.length : Int) + 1 := by omega
  have b16 : (i : Int) + n ≤ (c2 : Int) + 1 := by omega
  have y1 : ((i : Int) + n).toNat = i + n := by omega
  have y2 : ((i : Int) + n - 1).toNat = i + n - 1 := by omega
  have x1 : IntKind.i64.wrap ((i : Int) + n) = (i : Int) + n := IntWalk.i64_in _ (by omega)
  have x2 : IntKind.i64.wrap ((i : Int) + n - 1) = (i : Int) + n - 1 := IntWalk.i64_in _ (by omega)
  clear h2 h3 hk g1 g2 gk o2 o3
  go_enter Tryz.func47, Tryz.ntmps47
  go_wp2_with fail
  generalize w.alloc (.cells #[v1, .slice A2 keys.length c2, .slice A3 kids.length c3] 29) = wA at *
  go_region_held3 (fun w' => w'.cell? ⟨w.heap.size, 1, none⟩ = some (.slice A2 keys.length c2) ∧ w'.cell? ⟨w.heap.size, 2, none⟩ = some (.slice A3 kids.length c3))
    (first | go_keep | exact keep2 (by assumption) hbS | exact keep2 (by assumption) hbK)
    (first
      | (go_at_call 86; refine (concat_K _ 3 3 [.slice A3 i c3, .slice B1 nkids.length d1, .slice D3 (kids.length - (i + n)) (c3 - (i + n))] [(i, vals.take (i * 3)), (nkids.length, nvals), (kids.length - (i + n), vals.drop ((i + n) * 3))] (fun _ => True) _ ?_ ?_ (by decide) t3 O3.out).mono ?_; (refine sl3 ?_ ?_ ?_ <;> go_simp); (refine rws3 hT3 g1' hD3 ?_; (repeat' (first | exact Below.refl _ _ | refine bdr ?_ | refine bal ?_ _))); rintro e wK ⟨vK, rfl, hoK, hbK⟩; have hAK : Below wA.heap.size wA wK := (by refine btr ?_ hbK; (repeat' (first | exact Below.refl _ _ | refine bdr ?_ | refine bal ?_ _))))
      | (go_at_call 87; refine (concat_S _ 3 3 [.slice A2 i c2, .slice B2 nkeys.length d2, .slice D2 (keys.length - (i + n - 1)) (c2 - (i + n - 1))] [(i, (strs keys).take (i * 1)), (nkeys.length, strs nkeys), (keys.length - (i + n - 1), (strs keys).drop (i + n - 1))] (fun _ => True) _ ?_ ?_ (by decide) t2 O2.out).mono ?_; (refine sl3 ?_ ?_ ?_ <;> first | (go_simp; done) | (refine cell_next ?_ hbK; go_simp)); (refine rws3 hT2 g2' hD2 ?_; (repeat' (first | exact hAK | exact Below.refl _ _ | refine bdr ?_ | refine bal ?_ _))); rintro e wS ⟨vS, rfl, hoS, hbS⟩; have hKS : Below wK.heap.size wK wS := (by refine btr ?_ hbS; (repeat' (first | exact Below.refl _ _ | refine bdr ?_ | refine bal ?_ _)))))
  all_goals go_wp2_with fail
  all_goals go_ret2
  all_goals have hAS := btr hAK hKS
  all_goals exact ⟨swap_end ((SlV.own hoK (fun b hb' => hV b (Nat.le_trans (Nat.le_trans hbA.size (bsz (a := wA) (by repeat' (first | exact Below.refl _ _ | refine bdr ?_ | refine bal ?_ _)))) hb'))).below hKS) (SlV.own hoS (fun b hb' => hV b (Nat.le_trans (Nat.le_trans hbA.size (Nat.le_trans hAK.size (bsz (a := wK) (by repeat' (first | exact Below.refl _ _ | refine bdr ?_ | refine bal ?_ _))))) hb'))) (kT.below hAS) (gk'.below hAS) (kD.below hAS) hi hl hn, hbA.trans (hAS.mono hbA.size)⟩
end Go.Proofs.YtojincohnjophaaGreatDoor
