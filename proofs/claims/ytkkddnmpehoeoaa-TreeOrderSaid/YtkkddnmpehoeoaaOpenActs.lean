/- A list of acts that comes in, opened. -/
import Derived.Test.YtkkddnmpehoeoaaOpenKnot
import Derived.Test.YtkkddnmpehoeoaaTreeActs
namespace Go.Proofs.Ytkkddnmpehoeoaa
open Go.ChangeShapes Go.WideShapes Go.ChangeAt Go.RowKit
open Go.ChangeMaps (open_string shut_string)
set_option linter.unusedVariables false

theorem Try.cellsB : Try.prog.cellsOf 4 = 1 := by kernel_rfl
theorem Try.cellsA : Try.prog.cellsOf 52 = 3 := by kernel_rfl
section
variable {H : Type} {enc : TypeId × Value → H} {W : World}
theorem act_cells {fuel : Nat} {cs : List Value} {x : DataW H × List MemPlace} (h : DataW.trod enc Try.prog W 0 (fun _ => true) true fuel 52 cs = some x) : ∃ a : ActT, cs = [.string a.1, .string a.2.1, .bool a.2.2] := by
  obtain ⟨y0, y1, y2, n, rfl, hl, h0, h1, h2⟩ := Go.Deep.trod_struct3 Try.underlying52 h
  rw [Try.cellsA] at hl
  obtain ⟨a, b, c, rfl⟩ := three_of hl
  rw [Try.cells9] at h0 h1
  rw [Try.cellsB] at h2
  obtain ⟨s0, e0, _⟩ := DataW.trod_string Try.underlying9 h0
  obtain ⟨s1, e1, _⟩ := DataW.trod_string Try.underlying9 h1
  obtain ⟨b2, e2, _⟩ := DataW.trod_bool Try.underlying4 h2
  simp at e0 e1 e2
  subst e0 e1 e2
  exact ⟨(s0, s1, b2), rfl⟩
theorem acts_list {fuel : Nat} {v : Value} {x : DataW H × List MemPlace} (h : DataW.trod enc Try.prog W 0 (fun _ => true) true fuel 50 [v] = some x) :
    ∃ A c, ∃ l : List ActT, v = .slice A l.length c ∧ l.length ≤ 9223372036854775807 ∧ Sl W (fun _ => True) 3 A l.length (actsV l) := by
  rcases DataW.trod_slice Try.underlying50 h with ⟨e, _⟩ | ⟨a, len, cap, elems, rest, n, _, e, _, _, hl, hm, hlen, hel, _⟩
  · injection e with e _
    subst e
    exact ⟨none, 0, [], rfl, Nat.zero_le _, Sl.nil⟩
  · injection e with e _
    subst e
    rw [Try.cellsA] at hel
    obtain ⟨l, hll, hlp⟩ := list_of (P := fun i (x : ActT) => W.cell? ((a.add (i * 3)).add 0) = some (.string x.1) ∧ W.cell? ((a.add (i * 3)).add 1) = some (.string x.2.1) ∧ W.cell? ((a.add (i * 3)).add 2) = some (.bool x.2.2)) len (fun i hi => by
      have h1 := hel i hi
      rw [List.getElem?_eq_getElem (by omega)] at h1
      obtain ⟨cs, hcs, hx⟩ := opened h1
      obtain ⟨y, rfl⟩ := act_cells hx
      exact ⟨y, cells_at hcs (i := 0) rfl, cells_at hcs (i := 1) rfl, cells_at hcs (i := 2) rfl⟩)
    subst hll
    refine ⟨some a, cap, l, rfl, by unfold maxLen at hm; omega, by rw [actsV_length], fun hp => ⟨a, rfl, trivial, ?_, fun j u hu => ?_⟩⟩
    · have := (hlp 0 _ (List.getElem?_eq_getElem hp)).1
      have := World.block_lt_of_cell? W _ this
      rwa [blk_add, blk_add] at this
    · have hj : j < l.length * 3 := by have := (List.getElem?_eq_some_iff.1 hu).1; rw [actsV_length] at this; exact this
      have hi : j / 3 < l.length := by omega
      have hc := hlp (j / 3) _ (List.getElem?_eq_getElem hi)
      have hg := actsV_get (List.getElem?_eq_getElem hi)
      rw [add_add', add_add', add_add'] at hc
      have hm3 : j % 3 = 0 ∨ j % 3 = 1 ∨ j % 3 = 2 := by omega
      rcases hm3 with h0 | h0 | h0
      · have e : j = j / 3 * 3 := by omega
        rw [e] at hu ⊢
        rw [hg.1] at hu; injection hu with hu
        rw [← hu]; exact hc.1
      · have e : j = j / 3 * 3 + 1 := by omega
        rw [e] at hu ⊢
        rw [hg.2.1] at hu; injection hu with hu
        rw [← hu]; exact hc.2.1
      · have e : j = j / 3 * 3 + 2 := by omega
        rw [e] at hu ⊢
        rw [hg.2.2] at hu; injection hu with hu
        rw [← hu]; exact hc.2.2
theorem slice_one {v : Value} {x : Value} (h : v.cells.toList = [x]) : v = x ∨ v = .agg #[x] := by
  cases v with
  | agg cs => simp only [Value.cells] at h; cases cs; simp at h; exact .inr (by rw [h])
  | _ => simp [Value.cells] at h; exact .inl h
theorem open_acts_arg {base : Nat} {v : Value} {d : DataW H} {p : List MemPlace} (hv : Value.okWide Try.prog W .any base 50 v) (h : DataW.Trod enc Try.prog W 0 (fun _ => true) true 50 v d p) :
    ∃ A n c, ∃ l : List ActT, v = .slice A n c ∧ n ≤ 9223372036854775807 ∧ Sl W (fun _ => True) 3 A n (actsV l) := by
  obtain ⟨A, n, c, rfl⟩ := okWide_slice Try.underlying50 hv
  obtain ⟨fuel, hf⟩ := h
  obtain ⟨A', c', l, e, h1, h2⟩ := acts_list (v := .slice A n c) (by simpa [Value.cells] using hf)
  injection e with e1 e2 e3
  subst e1 e2
  exact ⟨_, _, c, l, rfl, h1, h2⟩
theorem open_strs20 {base : Nat} {v : Value} {d : DataW H} {p : List MemPlace} (hv : Value.okWide Try.prog W .any base 23 v) (h : DataW.Trod enc Try.prog W 0 (fun _ => true) true 23 v d p) :
    ∃ A n c, ∃ l : List ByteArray, v = .slice A n c ∧ n ≤ 9223372036854775807 ∧ Sl W (fun _ => True) 1 A n (strs l) := by
  obtain ⟨A, n, c, rfl⟩ := okWide_slice Try.underlying23 hv
  obtain ⟨fuel, hf⟩ := h
  obtain ⟨A', c', l, e, h0, h1, h2⟩ := strs_list (v := .slice A n c) (by simpa [Value.cells] using hf)
  injection e with e1 e2 e3
  subst e1 e2
  exact ⟨_, _, c, l, rfl, h1, h2⟩
end
end Go.Proofs.Ytkkddnmpehoeoaa
