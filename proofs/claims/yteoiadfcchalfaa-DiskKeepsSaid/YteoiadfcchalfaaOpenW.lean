/- Writes, acts, cuts and disks that come in, opened. -/
import Derived.Test.YteoiadfcchalfaaOpenB
import Derived.ChangeSame
namespace Go.Proofs.Yteoiadfcchalfaa
open Go.ChangeShapes Go.WideShapes Go.ChangeAt Go.RowKit
open Go.ChangeMaps (open_string shut_string)
open DiskP (Bytes Disk Wr Fate)
set_option linter.unusedVariables false

/-- a write that comes in -/
def WrIn (x : Wr) : Prop := -9223372036854775808 ≤ x.at_ ∧ x.at_ ≤ 9223372036854775807 ∧ x.s.length ≤ 9223372036854775807

theorem Try.cellsWr : Try.prog.cellsOf 55 = 2 := by kernel_rfl
theorem Try.cellsAct : Try.prog.cellsOf 93 = 2 := by kernel_rfl
theorem Try.cellsSt : Try.prog.cellsOf 9 = 1 := by kernel_rfl
theorem Try.cellsCut : Try.prog.cellsOf 85 = 2 := by kernel_rfl
theorem Try.cellsDisk : Try.prog.cellsOf 50 = 4 := by kernel_rfl
theorem Try.cellsSs : Try.prog.cellsOf 22 = 1 := by kernel_rfl
theorem Try.cellsWs : Try.prog.cellsOf 44 = 1 := by kernel_rfl

theorem flatMap_wrs (l : List Wr) : l.flatMap (fun x => [Value.int .i64 x.at_, Value.string (mkB x.s)]) = wrV l := by
  induction l with
  | nil => rfl
  | cons b l ih => rw [List.flatMap_cons, ih]; rfl
theorem i64_wf {n : Int} (h : (Lit.int .i64 n).wf = true) : -9223372036854775808 ≤ n ∧ n ≤ 9223372036854775807 := by
  simpa [Lit.wf, IntKind.min, IntKind.max, IntKind.signed, IntKind.bits] using h
section
variable {H : Type} {enc : TypeId × Value → H} {W : World}
theorem wr_cells {fuel : Nat} {cs : List Value} {x : DataW H × List MemPlace} (h : DataW.trod enc Try.prog W 0 (fun _ => true) true fuel 55 cs = some x) : ∃ y : Wr, cs = [.int .i64 y.at_, .string (mkB y.s)] ∧ WrIn y := by
  obtain ⟨y0, y1, n, rfl, hl, h0, h1⟩ := trod_struct2 Try.underlying55 h
  rw [Try.cellsWr] at hl
  obtain ⟨a, b, rfl⟩ := two_ofB hl
  rw [Try.cellsIn] at h0
  rw [Try.cellsSt] at h1
  obtain ⟨n1, e0, _, hw⟩ := DataW.trod_int Try.underlying3 h0
  obtain ⟨s, e1, _, hz⟩ := DataW.trod_string Try.underlying9 h1
  simp at e0 e1
  subst e0 e1
  have := i64_wf hw
  exact ⟨⟨n1, oct s⟩, by rw [mkB_oct], this.1, this.2, by show (oct s).length ≤ _; rw [oct_length]; unfold maxLen at hz; omega⟩
theorem wrs_list {fuel : Nat} {v : Value} {x : DataW H × List MemPlace} (h : DataW.trod enc Try.prog W 0 (fun _ => true) true fuel 44 [v] = some x) :
    ∃ A c, ∃ l : List Wr, v = .slice A l.length c ∧ l.length ≤ c ∧ c ≤ 9223372036854775807 ∧ Sl W (fun _ => True) 2 A l.length (wrV l) ∧ ∀ y ∈ l, WrIn y := by
  obtain ⟨A, c, l, h1, h2, h3, h4, h5⟩ := slice_list (f := fun x : Wr => [.int .i64 x.at_, .string (mkB x.s)]) (Q := WrIn) (sz := 2) (by decide) (fun _ => rfl) Try.underlying44 Try.cellsWr (fun fuel cs x h => wr_cells h) h
  rw [flatMap_wrs] at h4
  exact ⟨A, c, l, h1, h2, h3, h4, h5⟩
set_option maxRecDepth 100000 in
theorem open_wrs_arg {base : Nat} {v : Value} {d : DataW H} {p : List MemPlace} (hv : Value.okWide Try.prog W .any base 44 v) (h : DataW.Trod enc Try.prog W 0 (fun _ => true) true 44 v d p) :
    ∃ A n c, ∃ l : List Wr, v = .slice A n c ∧ n ≤ 9223372036854775807 ∧ Sl W (fun _ => True) 2 A n (wrV l) ∧ ∀ y ∈ l, WrIn y := by
  obtain ⟨A, n, c, rfl⟩ := okWide_slice Try.underlying44 hv
  obtain ⟨fuel, hf⟩ := h
  obtain ⟨A', c', l, e, h1, h2, h3, h4⟩ := wrs_list (v := .slice A n c) (by simpa [Value.cells] using hf)
  injection e with e1 e2 e3
  subst e1 e2
  exact ⟨_, _, c, l, rfl, by omega, h3, h4⟩

/-- an act's cells -/
def actV (y : ByteArray × Bool) : List Value := [.string y.1, .bool y.2]
theorem act21_cells {fuel : Nat} {cs : List Value} {x : DataW H × List MemPlace} (h : DataW.trod enc Try.prog W 0 (fun _ => true) true fuel 93 cs = some x) : ∃ y : ByteArray × Bool, cs = actV y ∧ y.1.size ≤ 9223372036854775807 := by
  obtain ⟨y0, y1, n, rfl, hl, h0, h1⟩ := trod_struct2 Try.underlying93 h
  rw [Try.cellsAct] at hl
  obtain ⟨a, b, rfl⟩ := two_ofB hl
  rw [Try.cellsSt] at h0
  rw [Try.cellsBo] at h1
  obtain ⟨s, e0, _, hz⟩ := DataW.trod_string Try.underlying9 h0
  obtain ⟨b1, e1, _⟩ := DataW.trod_bool Try.underlying4 h1
  simp at e0 e1
  subst e0 e1
  exact ⟨(s, b1), rfl, by unfold maxLen at hz; show s.size ≤ _; omega⟩
set_option maxRecDepth 100000 in
theorem open_acts21_arg {base : Nat} {v : Value} {d : DataW H} {p : List MemPlace} (hv : Value.okWide Try.prog W .any base 83 v) (h : DataW.Trod enc Try.prog W 0 (fun _ => true) true 83 v d p) :
    ∃ A n c, ∃ l : List (ByteArray × Bool), v = .slice A n c ∧ n ≤ 9223372036854775807 ∧ Sl W (fun _ => True) 2 A n (l.flatMap actV) ∧ ∀ y ∈ l, y.1.size ≤ 9223372036854775807 := by
  obtain ⟨A, n, c, rfl⟩ := okWide_slice Try.underlying83 hv
  obtain ⟨fuel, hf⟩ := h
  obtain ⟨A', c', l, e, h1, h2, h3, h4⟩ := slice_list (f := actV) (Q := fun y : ByteArray × Bool => y.1.size ≤ 9223372036854775807) (sz := 2) (v := .slice A n c) (by decide) (fun _ => rfl) Try.underlying83 Try.cellsAct (fun fuel cs x h => act21_cells h) (by simpa [Value.cells] using hf)
  injection e with e1 e2 e3
  subst e1 e2
  exact ⟨_, _, c, l, rfl, by omega, h3, h4⟩
/-- a cut that comes in -/
theorem open_cut_arg {v : Value} {d : DataW H} {p : List MemPlace} (h : DataW.Trod enc Try.prog W 0 (fun _ => true) true 85 v d p) :
    ∃ l g, v = .agg #[.int .i64 l, .int .i64 g] ∧ -9223372036854775808 ≤ l ∧ l ≤ 9223372036854775807 ∧ -9223372036854775808 ≤ g ∧ g ≤ 9223372036854775807 := by
  obtain ⟨fuel, hf⟩ := h
  obtain ⟨y0, y1, n, _, hl, h0, h1⟩ := trod_struct2 Try.underlying85 hf
  rw [Try.cellsCut] at hl
  obtain ⟨a, b, hab⟩ := two_ofB hl
  rw [hab, Try.cellsIn] at h0 h1
  obtain ⟨n0, e0, _, hw0⟩ := DataW.trod_int Try.underlying3 h0
  obtain ⟨n1, e1, _, hw1⟩ := DataW.trod_int Try.underlying3 h1
  simp at e0 e1
  subst e0 e1
  have k0 := i64_wf hw0
  have k1 := i64_wf hw1
  exact ⟨n0, n1, aggB hab (by simp), k0.1, k0.2, k1.1, k1.2⟩
end
end Go.Proofs.Yteoiadfcchalfaa
