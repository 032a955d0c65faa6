/- A []string that comes in, opened. -/
import Derived.Test.YteoiadfcchalfaaBase
import Derived.ProofKit
import Derived.OpenShut
import Derived.ShutString
import Derived.ChangeOld
import Derived.SliceStrings
namespace Go.Proofs.Yteoiadfcchalfaa
open Go.ChangeShapes Go.WideShapes Go.ChangeAt Go.RowKit
open Go.ChangeMaps (open_string shut_string)
set_option linter.unusedVariables false

theorem own : ownKnob Try.prog.godebug = none := by kernel_rfl
theorem laidOut : laidOutB Try.prog = true := by kernel_rfl
theorem Try.cells9 : Try.prog.cellsOf 9 = 1 := by kernel_rfl

set_option maxRecDepth 100000 in
theorem open_strs_arg {H : Type} {enc : TypeId × Value → H} {W : World} {base : Nat} {v : Value} {d : DataW H} {p : List MemPlace}
    (hv : Value.okWide Try.prog W .any base 22 v) (h : DataW.Trod enc Try.prog W 0 (fun _ => true) true 22 v d p) :
    ∃ A n c ss, v = .slice A n c ∧ Sl W (fun _ => True) 1 A n (strs ss) ∧ n ≤ 9223372036854775807 := by
  obtain ⟨A, n, c, rfl⟩ := okWide_slice Try.underlying22 hv
  obtain ⟨fuel, hf⟩ := h
  rcases open_strings Try.underlying22 Try.underlying9 Try.cells9 hf with ⟨hcs, _⟩ | ⟨a, len, cap, ss, hcs, _, hl, hm, hz, _, hcell, _⟩
  · simp [Value.cells] at hcs
    obtain ⟨rfl, rfl, rfl⟩ := hcs
    exact ⟨_, _, _, [], rfl, Sl.nil, Nat.zero_le _⟩
  · simp [Value.cells] at hcs
    obtain ⟨rfl, rfl, rfl⟩ := hcs
    simp only [if_true] at hz
    refine ⟨_, _, _, ss.take n, rfl, ⟨by rw [strs_length, List.length_take]; omega, fun hn => ⟨a, rfl, trivial, ?_, fun j u hu => ?_⟩⟩, by unfold maxLen at hm; omega⟩
    · have h0 := hcell 0 (by omega)
      have := World.block_lt_of_cell? W _ h0
      rwa [blk_add] at this
    · rw [strs, List.getElem?_map, List.getElem?_take] at hu
      split at hu
      · rename_i hj
        have hjl : j < ss.length := by omega
        rw [List.getElem?_eq_getElem hjl] at hu
        simp only [Option.map_some, Option.some.injEq] at hu
        rw [hcell j hjl, List.getD_eq_getElem?_getD, List.getElem?_eq_getElem hjl, ← hu]
        rfl
      · cases hu
end Go.Proofs.Yteoiadfcchalfaa
