/- A tree that comes in, opened. -/
import Derived.Test.YtkkddnmpehoeoaaTreeMem
import Derived.ProofKit
import Derived.OpenShut
import Derived.ShutString
import Derived.ChangeOld
import Derived.SliceStrings
import Derived.Deep.Strs
namespace Go.Proofs.Ytkkddnmpehoeoaa
open Go.ChangeShapes Go.WideShapes Go.ChangeAt Go.RowKit
open Go.ChangeMaps (open_string shut_string)
open TreeP (Kt Cell)
set_option linter.unusedVariables false

theorem own : ownKnob Try.prog.godebug = none := by kernel_rfl
theorem laidOut : laidOutB Try.prog = true := by kernel_rfl
theorem Try.cells9 : Try.prog.cellsOf 9 = 1 := by kernel_rfl
theorem Try.cellsC : Try.prog.cellsOf 44 = 2 := by kernel_rfl
theorem Try.cellsK : Try.prog.cellsOf 26 = 3 := by kernel_rfl
theorem Try.cellsSl1 : Try.prog.cellsOf 22 = 1 := by kernel_rfl
theorem Try.cellsSl2 : Try.prog.cellsOf 23 = 1 := by kernel_rfl
theorem Try.cellsSl3 : Try.prog.cellsOf 24 = 1 := by kernel_rfl

/-- a list out of its members -/
theorem list_of {α : Type} {P : Nat → α → Prop} : ∀ (n : Nat), (∀ i, i < n → ∃ c, P i c) → ∃ l : List α, l.length = n ∧ ∀ i c, l[i]? = some c → P i c
  | 0, _ => ⟨[], rfl, fun i c h => by simp at h⟩
  | n + 1, h => by
    obtain ⟨l, hl, hp⟩ := list_of n fun i hi => h i (by omega)
    obtain ⟨c, hc⟩ := h n (by omega)
    refine ⟨l ++ [c], by simp [hl], fun i x hx => ?_⟩
    rcases Nat.lt_or_ge i n with h1 | h1
    · rw [List.getElem?_append_left (by omega)] at hx
      exact hp i x hx
    · rw [List.getElem?_append_right (by omega)] at hx
      have : i - l.length = 0 := by
        rcases Nat.eq_zero_or_pos (i - l.length) with h2 | h2
        · exact h2
        · rw [List.getElem?_eq_none (by simp; omega)] at hx; cases hx
      rw [this] at hx
      obtain rfl : i = n := by omega
      simp at hx; subst hx; exact hc
theorem two_of {l : List Value} (h : l.length = 2) : ∃ a b, l = [a, b] := by
  match l, h with
  | [a, b], _ => exact ⟨a, b, rfl⟩
theorem three_of {l : List Value} (h : l.length = 3) : ∃ a b c, l = [a, b, c] := by
  match l, h with
  | [a, b, c], _ => exact ⟨a, b, c, rfl⟩

section
variable {H : Type} {enc : TypeId × Value → H} {W : World}
/-- a cell's two strings -/
theorem cell_cells {fuel : Nat} {cs : List Value} {x : DataW H × List MemPlace} (h : DataW.trod enc Try.prog W 0 (fun _ => true) true fuel 44 cs = some x) : ∃ c : Cell, cs = [.string c.1, .string c.2] := by
  obtain ⟨y0, y1, n, rfl, hl, h0, h1⟩ := trod_struct2 Try.underlying44 h
  rw [Try.cellsC] at hl
  obtain ⟨a, b, rfl⟩ := two_of hl
  rw [Try.cells9] at h0 h1
  obtain ⟨s0, e0, _⟩ := DataW.trod_string Try.underlying9 h0
  obtain ⟨s1, e1, _⟩ := DataW.trod_string Try.underlying9 h1
  simp at e0 e1
  subst e0 e1
  exact ⟨(s0, s1), rfl⟩
theorem cells_at {a : Addr} {n : Nat} {cs : List Value} {b i : Nat} {v : Value} (h : W.cells? b a n = some cs) (hi : cs[i]? = some v) : W.cell? (a.add i) = some v := by
  obtain ⟨_, hl, hc⟩ := World.cells?_some h
  rw [hc i (by have := (List.getElem?_eq_some_iff.1 hi).1; omega)]; exact hi
theorem opened {α : Type} {o : Option α} {β : Type} {f : α → Option β} {y : β} (h : o.bind f = some y) : ∃ c, o = some c ∧ f c = some y := by
  cases o with
  | none => cases h
  | some c => exact ⟨c, rfl, h⟩

theorem cells_list {fuel : Nat} {v : Value} {x : DataW H × List MemPlace} (h : DataW.trod enc Try.prog W 0 (fun _ => true) true fuel 22 [v] = some x) :
    ∃ A c, ∃ l : List Cell, v = .slice A l.length c ∧ l.length ≤ c ∧ l.length ≤ 9223372036854775807 ∧ Sl W (fun _ => True) 2 A l.length (cellsV l) := by
  rcases DataW.trod_slice Try.underlying22 h with ⟨e, _⟩ | ⟨a, len, cap, elems, rest, n, _, e, _, _, hl, hm, hlen, hel, _⟩
  · injection e with e _
    subst e
    exact ⟨none, 0, [], rfl, Nat.le_refl _, Nat.zero_le _, Sl.nil⟩
  · injection e with e _
    subst e
    rw [Try.cellsC] at hel
    obtain ⟨l, hll, hlp⟩ := list_of (P := fun i (c : Cell) => W.cell? ((a.add (i * 2)).add 0) = some (.string c.1) ∧ W.cell? ((a.add (i * 2)).add 1) = some (.string c.2)) len (fun i hi => by
      have h1 := hel i hi
      rw [List.getElem?_eq_getElem (by omega)] at h1
      obtain ⟨cs, hcs, hx⟩ := opened h1
      obtain ⟨c, rfl⟩ := cell_cells hx
      exact ⟨c, cells_at hcs (i := 0) rfl, cells_at hcs (i := 1) rfl⟩)
    subst hll
    refine ⟨some a, cap, l, rfl, hl, by unfold maxLen at hm; omega, by rw [cellsV_length], fun hp => ⟨a, rfl, trivial, ?_, fun j u hu => ?_⟩⟩
    · have := (hlp 0 _ (List.getElem?_eq_getElem hp)).1
      have := World.block_lt_of_cell? W _ this
      rwa [blk_add, blk_add] at this
    · have hj : j < l.length * 2 := by have := (List.getElem?_eq_some_iff.1 hu).1; rw [cellsV_length] at this; exact this
      have hi : j / 2 < l.length := by omega
      have hc := hlp (j / 2) _ (List.getElem?_eq_getElem hi)
      have hg := cellsV_get (List.getElem?_eq_getElem hi)
      rw [add_add', add_add'] at hc
      rcases Nat.mod_two_eq_zero_or_one j with h0 | h0
      · have e : j = j / 2 * 2 := by omega
        rw [e] at hu ⊢
        rw [hg.1] at hu; injection hu with hu
        rw [← hu]; exact hc.1
      · have e : j = j / 2 * 2 + 1 := by omega
        rw [e] at hu ⊢
        rw [hg.2] at hu; injection hu with hu
        rw [← hu]; exact hc.2
theorem strs_list {fuel : Nat} {v : Value} {x : DataW H × List MemPlace} (h : DataW.trod enc Try.prog W 0 (fun _ => true) true fuel 23 [v] = some x) :
    ∃ A c, ∃ l : List ByteArray, v = .slice A l.length c ∧ l.length ≤ c ∧ l.length ≤ 9223372036854775807 ∧ Sl W (fun _ => True) 1 A l.length (strs l) := by
  rcases DataW.trod_slice Try.underlying23 h with ⟨e, _⟩ | ⟨a, len, cap, elems, rest, n, _, e, _, _, hl, hm, hlen, hel, _⟩
  · injection e with e _
    subst e
    exact ⟨none, 0, [], rfl, Nat.le_refl _, Nat.zero_le _, Sl.nil⟩
  · injection e with e _
    subst e
    rw [Try.cells9] at hel
    obtain ⟨l, hll, hlp⟩ := list_of (P := fun i (s : ByteArray) => W.cell? (a.add i) = some (.string s)) len (fun i hi => by
      have h1 := hel i hi
      rw [List.getElem?_eq_getElem (by omega)] at h1
      obtain ⟨cs, hcs, hx⟩ := opened h1
      obtain ⟨s, e, _⟩ := DataW.trod_string Try.underlying9 hx
      subst e
      have := cells_at hcs (i := 0) rfl
      rw [add_add', Nat.mul_one, Nat.add_zero] at this
      exact ⟨s, this⟩)
    subst hll
    refine ⟨some a, cap, l, rfl, hl, by unfold maxLen at hm; omega, by simp [strs], fun hp => ⟨a, rfl, trivial, ?_, fun j u hu => ?_⟩⟩
    · have := hlp 0 _ (List.getElem?_eq_getElem hp)
      have := World.block_lt_of_cell? W _ this
      rwa [blk_add] at this
    · rw [strs, List.getElem?_map] at hu
      cases hs : l[j]? with
      | none => rw [hs] at hu; cases hu
      | some s =>
        rw [hs] at hu
        simp only [Option.map_some, Option.some.injEq] at hu
        rw [← hu]; exact hlp j s hs

/-- the kids, out of their members -/
def kidsV : List (Value × Value × Value) → List Value
  | [] => []
  | x :: l => x.1 :: x.2.1 :: x.2.2 :: kidsV l
theorem kidsV_length (l : List (Value × Value × Value)) : (kidsV l).length = l.length * 3 := by
  induction l with
  | nil => rfl
  | cons x l ih => simp [kidsV, ih]; omega
theorem kidsV_get {l : List (Value × Value × Value)} {k : Nat} {x : Value × Value × Value} (h : l[k]? = some x) : (kidsV l)[k * 3]? = some x.1 ∧ (kidsV l)[k * 3 + 1]? = some x.2.1 ∧ (kidsV l)[k * 3 + 2]? = some x.2.2 := by
  induction l generalizing k with
  | nil => simp at h
  | cons d l ih =>
    cases k with
    | zero => simp at h; subst h; exact ⟨rfl, rfl, rfl⟩
    | succ k =>
      have := ih (k := k) (by simpa using h)
      rw [show (k + 1) * 3 = k * 3 + 3 by omega]
      simpa [kidsV] using this
theorem knL_of {V : Nat → Prop} {B : Nat} : ∀ (l : List (Value × Value × Value)), (∀ x ∈ l, ∃ t, Kn W V B x.1 x.2.1 x.2.2 t) → ∃ ks : List Kt, ks.length = l.length ∧ KnL W V B (kidsV l) ks
  | [], _ => ⟨[], rfl, by rw [KnL]; rfl⟩
  | x :: l, h => by
    obtain ⟨t, ht⟩ := h x List.mem_cons_self
    obtain ⟨ks, hk, hl⟩ := knL_of l fun y hy => h y (List.mem_cons_of_mem _ hy)
    exact ⟨t :: ks, by simp [hk], knL_cons.2 ⟨_, _, _, _, rfl, ht, hl⟩⟩

theorem knot_cells : ∀ (fuel : Nat) (cs : List Value) (x : DataW H × List MemPlace), DataW.trod enc Try.prog W 0 (fun _ => true) true fuel 26 cs = some x →
    ∃ v1 v2 v3 t, cs = [v1, v2, v3] ∧ Kn W (fun _ => True) 9223372036854775807 v1 v2 v3 t := by
  intro fuel
  induction fuel using Nat.strongRecOn with
  | _ fuel ih =>
    intro cs x h
    obtain ⟨xs, n, hfu, rfl, hl, hlen, hf⟩ := DataW.trod_struct Try.underlying26 h
    rw [Try.cellsK] at hl
    obtain ⟨a, b, c, rfl⟩ := three_of hl
    match xs, hlen with
    | [y0, y1, y2], _ =>
      have h0 := hf 0 _ rfl
      have h1 := hf 1 _ rfl
      have h2 := hf 2 _ rfl
      simp only [List.getElem?_cons_zero, List.getElem?_cons_succ] at h0 h1 h2
      obtain ⟨A0, c0, l0, rfl, p0, b0, s0⟩ := cells_list h0
      obtain ⟨A1, c1, l1, rfl, p1, b1, s1⟩ := strs_list h1
      rcases DataW.trod_slice Try.underlying24 h2 with ⟨e, _⟩ | ⟨ad, len, cap, elems, rest, n2, hfu2, e, _, _, hl2, hm, hlen2, hel, _⟩
      · injection e with e _
        subst e
        exact ⟨_, _, _, .mk l0 l1 [], rfl, kn_mk.2 ⟨⟨_, _, rfl, p0, b0, s0⟩, ⟨_, _, rfl, p1, b1, s1⟩, none, 0, [], rfl, Nat.le_refl _, Nat.zero_le _, Sl.nil, by rw [KnL]⟩⟩
      · injection e with e _
        subst e
        rw [Try.cellsK] at hel
        obtain ⟨l, hll, hlp⟩ := list_of (P := fun i (x : Value × Value × Value) => W.cell? ((ad.add (i * 3)).add 0) = some x.1 ∧ W.cell? ((ad.add (i * 3)).add 1) = some x.2.1 ∧ W.cell? ((ad.add (i * 3)).add 2) = some x.2.2 ∧ ∃ t, Kn W (fun _ => True) 9223372036854775807 x.1 x.2.1 x.2.2 t) len (fun i hi => by
          have h3 := hel i hi
          rw [List.getElem?_eq_getElem (by omega)] at h3
          obtain ⟨cs, hcs, hx⟩ := opened h3
          obtain ⟨v1, v2, v3, t, rfl, hk⟩ := ih n2 (by omega) _ _ hx
          exact ⟨(v1, v2, v3), cells_at hcs (i := 0) rfl, cells_at hcs (i := 1) rfl, cells_at hcs (i := 2) rfl, t, hk⟩)
        obtain ⟨ks, hkl, hK⟩ := knL_of (W := W) l fun x hx => by
          obtain ⟨i, hi, rfl⟩ := List.getElem_of_mem hx
          exact (hlp i _ (List.getElem?_eq_getElem hi)).2.2.2
        subst hll
        refine ⟨_, _, _, .mk l0 l1 ks, rfl, kn_mk.2 ⟨⟨_, _, rfl, p0, b0, s0⟩, ⟨_, _, rfl, p1, b1, s1⟩, some ad, cap, kidsV l, by rw [hkl], by omega, by unfold maxLen at hm; omega, ?_, hK⟩⟩
        rw [hkl]
        refine ⟨by rw [kidsV_length], fun hp => ⟨ad, rfl, trivial, ?_, fun j u hu => ?_⟩⟩
        · have := (hlp 0 _ (List.getElem?_eq_getElem hp)).1
          have := World.block_lt_of_cell? W _ this
          rwa [blk_add, blk_add] at this
        · have hj : j < l.length * 3 := by have := (List.getElem?_eq_some_iff.1 hu).1; rw [kidsV_length] at this; exact this
          have hi : j / 3 < l.length := by omega
          have hc := hlp (j / 3) _ (List.getElem?_eq_getElem hi)
          have hg := kidsV_get (List.getElem?_eq_getElem hi)
          rw [add_add', add_add', add_add'] at hc
          have hm3 : j % 3 = 0 ∨ j % 3 = 1 ∨ j % 3 = 2 := by omega
          rcases hm3 with h0 | h0 | h0
          · have e : j = j / 3 * 3 := by omega
            rw [e] at hu ⊢
            rw [hg.1] at hu; injection hu with hu
            rw [← hu]; exact hc.1
          · have e : j = j / 3 * 3 + 1 := by omega
            rw [e] at hu ⊢
            rw [hg.2.1] at hu; injection hu with hu
            rw [← hu]; exact hc.2.1
          · have e : j = j / 3 * 3 + 2 := by omega
            rw [e] at hu ⊢
            rw [hg.2.2] at hu; injection hu with hu
            rw [← hu]; exact hc.2.2.1

theorem open_knot {v : Value} {d : DataW H} {p : List MemPlace} (h : DataW.Trod enc Try.prog W 0 (fun _ => true) true 26 v d p) :
    ∃ v1 v2 v3 t, v.cells.toList = [v1, v2, v3] ∧ Kn W (fun _ => True) 9223372036854775807 v1 v2 v3 t := by
  obtain ⟨fuel, hf⟩ := h
  exact knot_cells fuel _ _ hf
theorem agg3 {v a b c : Value} (h : v.cells.toList = [a, b, c]) : v = .agg #[a, b, c] := by
  cases v with
  | agg cs =>
    simp only [Value.cells] at h
    cases cs; simp at h; rw [h]
  | _ => simp [Value.cells] at h
theorem open_knot_arg {v : Value} {d : DataW H} {p : List MemPlace} (h : DataW.Trod enc Try.prog W 0 (fun _ => true) true 26 v d p) :
    ∃ v1 v2 v3 t, v = .agg #[v1, v2, v3] ∧ Kn W (fun _ => True) 9223372036854775807 v1 v2 v3 t := by
  obtain ⟨v1, v2, v3, t, h1, h2⟩ := open_knot h
  exact ⟨v1, v2, v3, t, agg3 h1, h2⟩
end
end Go.Proofs.Ytkkddnmpehoeoaa
