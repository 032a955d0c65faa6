/- Writes, acts, cuts and disks that come in, opened. (merged: Open OpenB OpenW) -/
import Derived.Test.YteoiadfcchalfaaBase
import Derived.ProofKit
import Derived.OpenShut
import Derived.ShutString
import Derived.ChangeOld
import Derived.SliceStrings
import Derived.Test.YteoiadfcchalfaaDiskG
import Derived.Deep.Strs
import Derived.ChangeSame
/-! A []string that comes in, opened. -/
namespace Go.Proofs.Yteoiadfcchalfaa
open Go.ChangeShapes Go.WideShapes Go.ChangeAt Go.RowKit
open Go.ChangeMaps (open_string shut_string)
set_option linter.unusedVariables false

theorem own : ownKnob Try.prog.godebug = none := by kernel_rfl
theorem laidOut : laidOutB Try.prog = true := by kernel_rfl
theorem Try.cells9 : Try.prog.cellsOf 9 = 1 := by kernel_rfl

set_option maxRecDepth 100000 in
theorem open_strs_arg {H : Type} {enc : TypeId × Value → H} {W : World} {base : Nat} {v : Value} {d : DataW H} {p : List MemPlace}
    (hv : Value.okWide Try.prog W .any base 22 v) (h : DataW.Trod enc Try.prog W 0 (fun _ => true) true 22 v d p) :
    ∃ A n c ss, v = .slice A n c ∧ Sl W (fun _ => True) 1 A n (strs ss) ∧ n ≤ 9223372036854775807 := by
  obtain ⟨A, n, c, rfl⟩ := okWide_slice Try.underlying22 hv
  obtain ⟨fuel, hf⟩ := h
  rcases open_strings Try.underlying22 Try.underlying9 Try.cells9 hf with ⟨hcs, _⟩ | ⟨a, len, cap, ss, hcs, _, hl, hm, hz, _, hcell, _⟩
  · simp [Value.cells] at hcs
    obtain ⟨rfl, rfl, rfl⟩ := hcs
    exact ⟨_, _, _, [], rfl, Sl.nil, Nat.zero_le _⟩
  · simp [Value.cells] at hcs
    obtain ⟨rfl, rfl, rfl⟩ := hcs
    simp only [if_true] at hz
    refine ⟨_, _, _, ss.take n, rfl, ⟨by rw [strs_length, List.length_take]; omega, fun hn => ⟨a, rfl, trivial, ?_, fun j u hu => ?_⟩⟩, by unfold maxLen at hm; omega⟩
    · have h0 := hcell 0 (by omega)
      have := World.block_lt_of_cell? W _ h0
      rwa [blk_add] at this
    · rw [strs, List.getElem?_map, List.getElem?_take] at hu
      split at hu
      · rename_i hj
        have hjl : j < ss.length := by omega
        rw [List.getElem?_eq_getElem hjl] at hu
        simp only [Option.map_some, Option.some.injEq] at hu
        rw [hcell j hjl, List.getD_eq_getElem?_getD, List.getElem?_eq_getElem hjl, ← hu]
        rfl
      · cases hu
end Go.Proofs.Yteoiadfcchalfaa

/-! A []string that comes in, opened, with its texts' sizes; octets, truths, fates. -/
namespace Go.Proofs.Yteoiadfcchalfaa
open Go.ChangeShapes Go.WideShapes Go.ChangeAt Go.RowKit
open Go.ChangeMaps (open_string shut_string)
set_option linter.unusedVariables false

set_option maxRecDepth 100000 in
theorem open_strs_sz {H : Type} {enc : TypeId × Value → H} {W : World} {base : Nat} {v : Value} {d : DataW H} {p : List MemPlace}
    (hv : Value.okWide Try.prog W .any base 22 v) (h : DataW.Trod enc Try.prog W 0 (fun _ => true) true 22 v d p) :
    ∃ A n c ss, v = .slice A n c ∧ Sl W (fun _ => True) 1 A n (strs ss) ∧ n ≤ 9223372036854775807 ∧ ∀ s ∈ ss, s.size ≤ 9223372036854775807 := by
  obtain ⟨A, n, c, rfl⟩ := okWide_slice Try.underlying22 hv
  obtain ⟨fuel, hf⟩ := h
  rcases open_strings Try.underlying22 Try.underlying9 Try.cells9 hf with ⟨hcs, _⟩ | ⟨a, len, cap, ss, hcs, _, hl, hm, hz, _, hcell, hsz⟩
  · simp [Value.cells] at hcs
    obtain ⟨rfl, rfl, rfl⟩ := hcs
    exact ⟨_, _, _, [], rfl, Sl.nil, Nat.zero_le _, by simp⟩
  · simp [Value.cells] at hcs
    obtain ⟨rfl, rfl, rfl⟩ := hcs
    simp only [if_true] at hz
    refine ⟨_, _, _, ss.take n, rfl, ⟨by rw [strs_length, List.length_take]; omega, fun hn => ⟨a, rfl, trivial, ?_, fun j u hu => ?_⟩⟩, by unfold maxLen at hm; omega, fun s hs => by have := hsz s (List.mem_of_mem_take hs); unfold maxLen at this; omega⟩
    · have h0 := hcell 0 (by omega)
      have := World.block_lt_of_cell? W _ h0
      rwa [blk_add] at this
    · rw [strs, List.getElem?_map, List.getElem?_take] at hu
      split at hu
      · rename_i hj
        have hjl : j < ss.length := by omega
        rw [List.getElem?_eq_getElem hjl] at hu
        simp only [Option.map_some, Option.some.injEq] at hu
        rw [hcell j hjl, List.getD_eq_getElem?_getD, List.getElem?_eq_getElem hjl, ← hu]
        rfl
      · cases hu
/-! ### Lists and structs, opened -/

theorem list_ofB {α : Type} {P : Nat → α → Prop} : ∀ (n : Nat), (∀ i, i < n → ∃ c, P i c) → ∃ l : List α, l.length = n ∧ ∀ i c, l[i]? = some c → P i c
  | 0, _ => ⟨[], rfl, fun i c h => by simp at h⟩
  | n + 1, h => by
    obtain ⟨l, hl, hp⟩ := list_ofB n fun i hi => h i (by omega)
    obtain ⟨c, hc⟩ := h n (by omega)
    refine ⟨l ++ [c], by simp [hl], fun i x hx => ?_⟩
    rcases Nat.lt_or_ge i n with h1 | h1
    · rw [List.getElem?_append_left (by omega)] at hx
      exact hp i x hx
    · rw [List.getElem?_append_right (by omega)] at hx
      have : i - l.length = 0 := by
        rcases Nat.eq_zero_or_pos (i - l.length) with h2 | h2
        · exact h2
        · rw [List.getElem?_eq_none (by simp; omega)] at hx; cases hx
      rw [this] at hx
      simp only [List.getElem?_cons_zero, Option.some.injEq] at hx
      have e : i = n := by omega
      subst hx e; exact hc
theorem flatMap_at {α : Type} {f : α → List Value} {sz : Nat} (hf : ∀ x, (f x).length = sz) : ∀ {l : List α} {j : Nat} {u : Value}, (l.flatMap f)[j]? = some u → ∃ i k y, j = i * sz + k ∧ l[i]? = some y ∧ (f y)[k]? = some u
  | [], j, u, h => by simp at h
  | x :: l, j, u, h => by
    rw [List.flatMap_cons] at h
    rcases Nat.lt_or_ge j sz with h1 | h1
    · rw [List.getElem?_append_left (by rw [hf]; exact h1)] at h
      exact ⟨0, j, x, by omega, rfl, h⟩
    · rw [List.getElem?_append_right (by rw [hf]; exact h1), hf] at h
      obtain ⟨i, k, y, e1, e2, e3⟩ := flatMap_at hf h
      exact ⟨i + 1, k, y, by rw [Nat.add_mul]; omega, by simpa using e2, e3⟩
theorem flatMap_lenB {α : Type} {f : α → List Value} {sz : Nat} (hf : ∀ x, (f x).length = sz) (l : List α) : (l.flatMap f).length = l.length * sz := by
  induction l with
  | nil => simp
  | cons x l ih => rw [List.flatMap_cons, List.length_append, hf, ih, List.length_cons, Nat.add_mul]; omega
theorem opened_B {α : Type} {o : Option α} {β : Type} {f : α → Option β} {y : β} (h : o.bind f = some y) : ∃ c, o = some c ∧ f c = some y := by
  cases o with
  | none => cases h
  | some c => exact ⟨c, rfl, h⟩
theorem cells_atB {W : World} {a : Addr} {n : Nat} {cs : List Value} {b i : Nat} {v : Value} (h : W.cells? b a n = some cs) (hi : cs[i]? = some v) : W.cell? (a.add i) = some v := by
  obtain ⟨_, hl, hc⟩ := World.cells?_some h
  rw [hc i (by have := (List.getElem?_eq_some_iff.1 hi).1; omega)]; exact hi
theorem two_ofB {l : List Value} (h : l.length = 2) : ∃ a b, l = [a, b] := by
  match l, h with
  | [a, b], _ => exact ⟨a, b, rfl⟩
theorem three_ofB {l : List Value} (h : l.length = 3) : ∃ a b c, l = [a, b, c] := by
  match l, h with
  | [a, b, c], _ => exact ⟨a, b, c, rfl⟩
theorem aggB {v : Value} {vs : List Value} (h : v.cells.toList = vs) (hl : vs.length ≠ 1) : v = .agg vs.toArray := by
  cases v with
  | agg cs => simp only [Value.cells] at h; subst h; simp
  | _ => simp [Value.cells] at h; subst h; simp at hl

section
variable {H : Type} {enc : TypeId × Value → H} {W : World}
/-- a slice whose elements have so many cells -/
theorem slice_list {α : Type} {t e : TypeId} {f : α → List Value} {Q : α → Prop} {sz : Nat} (hsz : 0 < sz) (hf : ∀ x, (f x).length = sz) (ht : Try.prog.underlying t = some (.slice e)) (hce : Try.prog.cellsOf e = sz)
    (hel : ∀ fuel cs x, DataW.trod enc Try.prog W 0 (fun _ => true) true fuel e cs = some x → ∃ y : α, cs = f y ∧ Q y)
    {fuel : Nat} {v : Value} {x : DataW H × List MemPlace} (h : DataW.trod enc Try.prog W 0 (fun _ => true) true fuel t [v] = some x) :
    ∃ A c, ∃ l : List α, v = .slice A l.length c ∧ l.length ≤ c ∧ c ≤ 9223372036854775807 ∧ Sl W (fun _ => True) sz A l.length (l.flatMap f) ∧ ∀ y ∈ l, Q y := by
  rcases DataW.trod_slice ht h with ⟨e0, _⟩ | ⟨a, len, cap, elems, rest, n, _, e0, _, _, hl, hm, hlen, hel', _⟩
  · injection e0 with e0 _
    subst e0
    exact ⟨none, 0, [], rfl, Nat.le_refl _, by omega, Sl.nil, by simp⟩
  · injection e0 with e0 _
    subst e0
    rw [hce] at hel'
    obtain ⟨l, hll, hlp⟩ := list_ofB (P := fun i (y : α) => (∀ k u, (f y)[k]? = some u → W.cell? ((a.add (i * sz)).add k) = some u) ∧ Q y) len (fun i hi => by
      have h1 := hel' i hi
      rw [List.getElem?_eq_getElem (by omega)] at h1
      obtain ⟨cs, hcs, hx⟩ := opened_B h1
      obtain ⟨y, rfl, hq⟩ := hel _ _ _ hx
      exact ⟨y, fun k u hu => cells_atB hcs hu, hq⟩)
    subst hll
    refine ⟨some a, cap, l, rfl, hl, by unfold maxLen at hm; omega, ⟨flatMap_lenB hf l, fun hp => ⟨a, rfl, trivial, ?_, fun j u hu => ?_⟩⟩, fun y hy => ?_⟩
    · have h0 := (hlp 0 _ (List.getElem?_eq_getElem hp)).1
      have hfl : 0 < (f l[0]).length := by rw [hf]; exact hsz
      have := World.block_lt_of_cell? W _ (h0 0 _ (List.getElem?_eq_getElem hfl))
      rwa [blk_add, blk_add] at this
    · obtain ⟨i, k, y, rfl, hi, hk⟩ := flatMap_at hf hu
      rw [← add_add']
      exact (hlp i y hi).1 k u hk
    · obtain ⟨i, hi⟩ := List.getElem?_of_mem hy
      exact (hlp i y hi).2

theorem Try.cellsBo : Try.prog.cellsOf 4 = 1 := by kernel_rfl
theorem Try.cellsU8 : Try.prog.cellsOf 5 = 1 := by kernel_rfl
theorem Try.cellsIn : Try.prog.cellsOf 3 = 1 := by kernel_rfl
theorem Try.cellsBs : Try.prog.cellsOf 45 = 1 := by kernel_rfl
theorem Try.cellsFt : Try.prog.cellsOf 47 = 3 := by kernel_rfl

theorem flatMap_bools (l : List Bool) : l.flatMap (fun b => [Value.bool b]) = boolV l := by
  induction l with
  | nil => rfl
  | cons b l ih => rw [List.flatMap_cons, ih]; rfl
theorem bools_list {fuel : Nat} {v : Value} {x : DataW H × List MemPlace} (h : DataW.trod enc Try.prog W 0 (fun _ => true) true fuel 45 [v] = some x) :
    ∃ A c, ∃ l : List Bool, v = .slice A l.length c ∧ l.length ≤ c ∧ c ≤ 9223372036854775807 ∧ Sl W (fun _ => True) 1 A l.length (boolV l) := by
  obtain ⟨A, c, l, h1, h2, h3, h4, _⟩ := slice_list (f := fun b : Bool => [.bool b]) (Q := fun _ => True) (sz := 1) (by decide) (fun _ => rfl) Try.underlying45 Try.cellsBo (fun fuel cs x h => by
    obtain ⟨b, rfl, _⟩ := DataW.trod_bool Try.underlying4 h
    exact ⟨b, rfl, trivial⟩) h
  rw [flatMap_bools] at h4
  exact ⟨A, c, l, h1, h2, h3, h4⟩
theorem flatMap_octets (l : List UInt8) : l.flatMap (fun b => [Value.int .u8 (b.toNat : Int)]) = bytesV l := by
  induction l with
  | nil => rfl
  | cons b l ih => rw [List.flatMap_cons, ih]; rfl
theorem u8s_list {fuel : Nat} {v : Value} {x : DataW H × List MemPlace} (h : DataW.trod enc Try.prog W 0 (fun _ => true) true fuel 62 [v] = some x) :
    ∃ A c, ∃ l : List UInt8, v = .slice A l.length c ∧ l.length ≤ c ∧ c ≤ 9223372036854775807 ∧ Sl W (fun _ => True) 1 A l.length (bytesV l) := by
  obtain ⟨A, c, l, h1, h2, h3, h4, _⟩ := slice_list (f := fun b : UInt8 => [.int .u8 (b.toNat : Int)]) (Q := fun _ => True) (sz := 1) (by decide) (fun _ => rfl) Try.underlying62 Try.cellsU8 (fun fuel cs x h => by
    obtain ⟨n, rfl, _, hw⟩ := DataW.trod_int Try.underlying5 h
    have hb : 0 ≤ n ∧ n ≤ 255 := by simpa [Lit.wf, IntKind.min, IntKind.max, IntKind.signed, IntKind.bits] using hw
    refine ⟨UInt8.ofNat n.toNat, ?_, trivial⟩
    have : ((UInt8.ofNat n.toNat).toNat : Int) = n := by simp; omega
    rw [this]) h
  rw [flatMap_octets] at h4
  exact ⟨A, c, l, h1, h2, h3, h4⟩
set_option maxRecDepth 100000 in
theorem open_u8s_arg {base : Nat} {v : Value} {d : DataW H} {p : List MemPlace} (hv : Value.okWide Try.prog W .any base 62 v) (h : DataW.Trod enc Try.prog W 0 (fun _ => true) true 62 v d p) :
    ∃ A n c, ∃ l : List UInt8, v = .slice A n c ∧ n ≤ 9223372036854775807 ∧ Sl W (fun _ => True) 1 A n (bytesV l) := by
  obtain ⟨A, n, c, rfl⟩ := okWide_slice Try.underlying62 hv
  obtain ⟨fuel, hf⟩ := h
  obtain ⟨A', c', l, e, h1, h2, h3⟩ := u8s_list (v := .slice A n c) (by simpa [Value.cells] using hf)
  injection e with e1 e2 e3
  subst e1 e2
  exact ⟨_, _, c, l, rfl, by omega, h3⟩

/-- a fate's cells -/
abbrev FtT : Type := Option Addr × Nat × Nat × DiskP.Fate
def ftCells (y : FtT) : List Value := [.slice y.1 y.2.1 y.2.2.1, .int .i64 y.2.2.2.torn, .int .i64 y.2.2.2.cut]
def FtOk (W : World) (y : FtT) : Prop := Ft W (fun _ => True) y.1 y.2.1 y.2.2.1 y.2.2.2 ∧ y.2.1 ≤ y.2.2.1 ∧ y.2.2.1 ≤ 9223372036854775807
theorem fate_cells {fuel : Nat} {cs : List Value} {x : DataW H × List MemPlace} (h : DataW.trod enc Try.prog W 0 (fun _ => true) true fuel 47 cs = some x) : ∃ y : FtT, cs = ftCells y ∧ FtOk W y := by
  obtain ⟨y0, y1, y2, n, rfl, hl, h0, h1, h2⟩ := Go.Deep.trod_struct3 Try.underlying47 h
  rw [Try.cellsFt] at hl
  obtain ⟨a, b, c, rfl⟩ := three_ofB hl
  rw [Try.cellsBs] at h0
  rw [Try.cellsIn] at h1 h2
  obtain ⟨FA, fc, l, e0, k1, k2, k3⟩ := bools_list (v := a) h0
  obtain ⟨n1, e1, _⟩ := DataW.trod_int Try.underlying3 h1
  obtain ⟨n2, e2, _⟩ := DataW.trod_int Try.underlying3 h2
  simp at e1 e2
  subst e0 e1 e2
  exact ⟨(FA, l.length, fc, ⟨l, n1, n2⟩), rfl, ⟨k3, by show l.length ≤ 9223372036854775807; omega⟩, k1, k2⟩
theorem open_fate_arg {v : Value} {d : DataW H} {p : List MemPlace} (h : DataW.Trod enc Try.prog W 0 (fun _ => true) true 47 v d p) :
    ∃ FA fn fc f, v = ftv FA fn fc f ∧ Ft W (fun _ => True) FA fn fc f ∧ fn ≤ fc ∧ fc ≤ 9223372036854775807 := by
  obtain ⟨fuel, hf⟩ := h
  obtain ⟨y, h1, h2, h3, h4⟩ := fate_cells hf
  exact ⟨y.1, y.2.1, y.2.2.1, y.2.2.2, aggB h1 (by simp), h2, h3, h4⟩
set_option maxRecDepth 100000 in
theorem open_fates_arg {base : Nat} {v : Value} {d : DataW H} {p : List MemPlace} (hv : Value.okWide Try.prog W .any base 81 v) (h : DataW.Trod enc Try.prog W 0 (fun _ => true) true 81 v d p) :
    ∃ A n c, ∃ l : List FtT, v = .slice A n c ∧ n ≤ 9223372036854775807 ∧ Sl W (fun _ => True) 3 A n (l.flatMap ftCells) ∧ ∀ y ∈ l, FtOk W y := by
  obtain ⟨A, n, c, rfl⟩ := okWide_slice Try.underlying81 hv
  obtain ⟨fuel, hf⟩ := h
  obtain ⟨A', c', l, e, h1, h2, h3, h4⟩ := slice_list (f := ftCells) (Q := FtOk W) (sz := 3) (v := .slice A n c) (by decide) (fun _ => rfl) Try.underlying81 Try.cellsFt (fun fuel cs x h => fate_cells h) (by simpa [Value.cells] using hf)
  injection e with e1 e2 e3
  subst e1 e2
  exact ⟨_, _, c, l, rfl, by omega, h3, h4⟩
end
end Go.Proofs.Yteoiadfcchalfaa

/-! Writes, acts, cuts and disks that come in, opened. -/
namespace Go.Proofs.Yteoiadfcchalfaa
open Go.ChangeShapes Go.WideShapes Go.ChangeAt Go.RowKit
open Go.ChangeMaps (open_string shut_string)
open DiskP (Bytes Disk Wr Fate)
set_option linter.unusedVariables false

/-- a write that comes in -/
def WrIn (x : Wr) : Prop := -9223372036854775808 ≤ x.at_ ∧ x.at_ ≤ 9223372036854775807 ∧ x.s.length ≤ 9223372036854775807

theorem Try.cellsWr : Try.prog.cellsOf 55 = 2 := by kernel_rfl
theorem Try.cellsAct : Try.prog.cellsOf 93 = 2 := by kernel_rfl
theorem Try.cellsSt : Try.prog.cellsOf 9 = 1 := by kernel_rfl
theorem Try.cellsCut : Try.prog.cellsOf 85 = 2 := by kernel_rfl
theorem Try.cellsDisk : Try.prog.cellsOf 50 = 4 := by kernel_rfl
theorem Try.cellsSs : Try.prog.cellsOf 22 = 1 := by kernel_rfl
theorem Try.cellsWs : Try.prog.cellsOf 44 = 1 := by kernel_rfl

theorem flatMap_wrs (l : List Wr) : l.flatMap (fun x => [Value.int .i64 x.at_, Value.string (mkB x.s)]) = wrV l := by
  induction l with
  | nil => rfl
  | cons b l ih => rw [List.flatMap_cons, ih]; rfl
theorem i64_wf {n : Int} (h : (Lit.int .i64 n).wf = true) : -9223372036854775808 ≤ n ∧ n ≤ 9223372036854775807 := by
  simpa [Lit.wf, IntKind.min, IntKind.max, IntKind.signed, IntKind.bits] using h
section
variable {H : Type} {enc : TypeId × Value → H} {W : World}
theorem wr_cells {fuel : Nat} {cs : List Value} {x : DataW H × List MemPlace} (h : DataW.trod enc Try.prog W 0 (fun _ => true) true fuel 55 cs = some x) : ∃ y : Wr, cs = [.int .i64 y.at_, .string (mkB y.s)] ∧ WrIn y := by
  obtain ⟨y0, y1, n, rfl, hl, h0, h1⟩ := trod_struct2 Try.underlying55 h
  rw [Try.cellsWr] at hl
  obtain ⟨a, b, rfl⟩ := two_ofB hl
  rw [Try.cellsIn] at h0
  rw [Try.cellsSt] at h1
  obtain ⟨n1, e0, _, hw⟩ := DataW.trod_int Try.underlying3 h0
  obtain ⟨s, e1, _, hz⟩ := DataW.trod_string Try.underlying9 h1
  simp at e0 e1
  subst e0 e1
  have := i64_wf hw
  exact ⟨⟨n1, oct s⟩, by rw [mkB_oct], this.1, this.2, by show (oct s).length ≤ _; rw [oct_length]; unfold maxLen at hz; omega⟩
theorem wrs_list {fuel : Nat} {v : Value} {x : DataW H × List MemPlace} (h : DataW.trod enc Try.prog W 0 (fun _ => true) true fuel 44 [v] = some x) :
    ∃ A c, ∃ l : List Wr, v = .slice A l.length c ∧ l.length ≤ c ∧ c ≤ 9223372036854775807 ∧ Sl W (fun _ => True) 2 A l.length (wrV l) ∧ ∀ y ∈ l, WrIn y := by
  obtain ⟨A, c, l, h1, h2, h3, h4, h5⟩ := slice_list (f := fun x : Wr => [.int .i64 x.at_, .string (mkB x.s)]) (Q := WrIn) (sz := 2) (by decide) (fun _ => rfl) Try.underlying44 Try.cellsWr (fun fuel cs x h => wr_cells h) h
  rw [flatMap_wrs] at h4
  exact ⟨A, c, l, h1, h2, h3, h4, h5⟩
set_option maxRecDepth 100000 in
theorem open_wrs_arg {base : Nat} {v : Value} {d : DataW H} {p : List MemPlace} (hv : Value.okWide Try.prog W .any base 44 v) (h : DataW.Trod enc Try.prog W 0 (fun _ => true) true 44 v d p) :
    ∃ A n c, ∃ l : List Wr, v = .slice A n c ∧ n ≤ 9223372036854775807 ∧ Sl W (fun _ => True) 2 A n (wrV l) ∧ ∀ y ∈ l, WrIn y := by
  obtain ⟨A, n, c, rfl⟩ := okWide_slice Try.underlying44 hv
  obtain ⟨fuel, hf⟩ := h
  obtain ⟨A', c', l, e, h1, h2, h3, h4⟩ := wrs_list (v := .slice A n c) (by simpa [Value.cells] using hf)
  injection e with e1 e2 e3
  subst e1 e2
  exact ⟨_, _, c, l, rfl, by omega, h3, h4⟩

/-- an act's cells -/
def actV (y : ByteArray × Bool) : List Value := [.string y.1, .bool y.2]
theorem act21_cells {fuel : Nat} {cs : List Value} {x : DataW H × List MemPlace} (h : DataW.trod enc Try.prog W 0 (fun _ => true) true fuel 93 cs = some x) : ∃ y : ByteArray × Bool, cs = actV y ∧ y.1.size ≤ 9223372036854775807 := by
  obtain ⟨y0, y1, n, rfl, hl, h0, h1⟩ := trod_struct2 Try.underlying93 h
  rw [Try.cellsAct] at hl
  obtain ⟨a, b, rfl⟩ := two_ofB hl
  rw [Try.cellsSt] at h0
  rw [Try.cellsBo] at h1
  obtain ⟨s, e0, _, hz⟩ := DataW.trod_string Try.underlying9 h0
  obtain ⟨b1, e1, _⟩ := DataW.trod_bool Try.underlying4 h1
  simp at e0 e1
  subst e0 e1
  exact ⟨(s, b1), rfl, by unfold maxLen at hz; show s.size ≤ _; omega⟩
set_option maxRecDepth 100000 in
theorem open_acts21_arg {base : Nat} {v : Value} {d : DataW H} {p : List MemPlace} (hv : Value.okWide Try.prog W .any base 83 v) (h : DataW.Trod enc Try.prog W 0 (fun _ => true) true 83 v d p) :
    ∃ A n c, ∃ l : List (ByteArray × Bool), v = .slice A n c ∧ n ≤ 9223372036854775807 ∧ Sl W (fun _ => True) 2 A n (l.flatMap actV) ∧ ∀ y ∈ l, y.1.size ≤ 9223372036854775807 := by
  obtain ⟨A, n, c, rfl⟩ := okWide_slice Try.underlying83 hv
  obtain ⟨fuel, hf⟩ := h
  obtain ⟨A', c', l, e, h1, h2, h3, h4⟩ := slice_list (f := actV) (Q := fun y : ByteArray × Bool => y.1.size ≤ 9223372036854775807) (sz := 2) (v := .slice A n c) (by decide) (fun _ => rfl) Try.underlying83 Try.cellsAct (fun fuel cs x h => act21_cells h) (by simpa [Value.cells] using hf)
  injection e with e1 e2 e3
  subst e1 e2
  exact ⟨_, _, c, l, rfl, by omega, h3, h4⟩
/-- a cut that comes in -/
theorem open_cut_arg {v : Value} {d : DataW H} {p : List MemPlace} (h : DataW.Trod enc Try.prog W 0 (fun _ => true) true 85 v d p) :
    ∃ l g, v = .agg #[.int .i64 l, .int .i64 g] ∧ -9223372036854775808 ≤ l ∧ l ≤ 9223372036854775807 ∧ -9223372036854775808 ≤ g ∧ g ≤ 9223372036854775807 := by
  obtain ⟨fuel, hf⟩ := h
  obtain ⟨y0, y1, n, _, hl, h0, h1⟩ := trod_struct2 Try.underlying85 hf
  rw [Try.cellsCut] at hl
  obtain ⟨a, b, hab⟩ := two_ofB hl
  rw [hab, Try.cellsIn] at h0 h1
  obtain ⟨n0, e0, _, hw0⟩ := DataW.trod_int Try.underlying3 h0
  obtain ⟨n1, e1, _, hw1⟩ := DataW.trod_int Try.underlying3 h1
  simp at e0 e1
  subst e0 e1
  have k0 := i64_wf hw0
  have k1 := i64_wf hw1
  exact ⟨n0, n1, aggB hab (by simp), k0.1, k0.2, k1.1, k1.2⟩
end
end Go.Proofs.Yteoiadfcchalfaa
