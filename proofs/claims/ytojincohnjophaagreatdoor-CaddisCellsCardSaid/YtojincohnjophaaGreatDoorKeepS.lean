/- What Add and Save do to what is kept, in every case: the contracts by which the laws of layer 21 walk. -/
import Derived.Test.YtojincohnjophaaGreatDoorTreePure
import Derived.ProofKit
import Derived.OpenShut
import Derived.ShutString
import Derived.ChangeOld
import Derived.SliceStrings
import Derived.Test.YtojincohnjophaaGreatDoorDiskG
import Derived.Deep.Strs
import Derived.ChangeSame
import Derived.Test.YtojincohnjophaaGreatDoorLexA
import Derived.Test.YtojincohnjophaaGreatDoorStJ
import Derived.Test.YtojincohnjophaaGreatDoorKeepR
import Derived.Test.YtojincohnjophaaGreatDoorSlotC
import Derived.Test.YtojincohnjophaaGreatDoorKeepE
import Derived.Test.YtojincohnjophaaGreatDoorShelfB
import Derived.Deep.DeepCutAuto
import Derived.Deep.CutBlock
/-! Writes, acts, cuts and disks that come in, opened. (merged: Open OpenB OpenW) -/
/-! A []string that comes in, opened. -/
namespace Go.Proofs.YtojincohnjophaaGreatDoor
open Go.ChangeShapes Go.WideShapes Go.ChangeAt Go.RowKit
open Go.ChangeMaps (open_string shut_string)
set_option linter.unusedVariables false

theorem own : ownKnob Tryz.prog.godebug = none := by kernel_rfl
theorem laidOut : laidOutB Tryz.prog = true := by kernel_rfl
theorem Tryz.cells9 : Tryz.prog.cellsOf 9 = 1 := by kernel_rfl

end Go.Proofs.YtojincohnjophaaGreatDoor

/-! A []string that comes in, opened, with its texts' sizes; octets, truths, fates. -/
namespace Go.Proofs.YtojincohnjophaaGreatDoor
open Go.ChangeShapes Go.WideShapes Go.ChangeAt Go.RowKit
open Go.ChangeMaps (open_string shut_string)
set_option linter.unusedVariables false

set_option maxRecDepth 100000 in
theorem open_strs_sz {H : Type} {enc : TypeId × Value → H} {W : World} {base : Nat} {v : Value} {d : DataW H} {p : List MemPlace}
    (hv : Value.okWide Tryz.prog W .any base 22 v) (h : DataW.Trod enc Tryz.prog W 0 (fun _ => true) true 22 v d p) :
    ∃ A n c ss, v = .slice A n c ∧ Sl W (fun _ => True) 1 A n (strs ss) ∧ n ≤ 9223372036854775807 ∧ ∀ s ∈ ss, s.size ≤ 9223372036854775807 := by
  obtain ⟨A, n, c, rfl⟩ := okWide_slice Tryz.underlying22 hv
  obtain ⟨fuel, hf⟩ := h
  rcases open_strings Tryz.underlying22 Tryz.underlying9 Tryz.cells9 hf with ⟨hcs, _⟩ | ⟨a, len, cap, ss, hcs, _, hl, hm, hz, _, hcell, hsz⟩
  · simp [Value.cells] at hcs
    obtain ⟨rfl, rfl, rfl⟩ := hcs
    exact ⟨_, _, _, [], rfl, Sl.nil, Nat.zero_le _, by simp⟩
  · simp [Value.cells] at hcs
    obtain ⟨rfl, rfl, rfl⟩ := hcs
    simp only [if_true] at hz
    refine ⟨_, _, _, ss.take n, rfl, ⟨by rw [strs_length, List.length_take]; omega, fun hn => ⟨a, rfl, trivial, ?_, fun j u hu => ?_⟩⟩, by unfold maxLen at hm; omega, fun s hs => by have := hsz s (List.mem_of_mem_take hs); unfold maxLen at this; omega⟩
    · have h0 := hcell 0 (by omega)
      have := World.block_lt_of_cell? W _ h0
      rwa [blk_add] at this
    · rw [strs, List.getElem?_map, List.getElem?_take] at hu
      split at hu
      · rename_i hj
        have hjl : j < ss.length := by omega
        rw [List.getElem?_eq_getElem hjl] at hu
        simp only [Option.map_some, Option.some.injEq] at hu
        rw [hcell j hjl, List.getD_eq_getElem?_getD, List.getElem?_eq_getElem hjl, ← hu]
        rfl
      · cases hu
/-! ### Lists and structs, opened -/

theorem list_ofB {α : Type} {P : Nat → α → Prop} : ∀ (n : Nat), (∀ i, i < n → ∃ c, P i c) → ∃ l : List α, l.length = n ∧ ∀ i c, l[i]? = some c → P i c
  | 0, _ => ⟨[], rfl, fun i c h => by simp at h⟩
  | n + 1, h => by
    obtain ⟨l, hl, hp⟩ := list_ofB n fun i hi => h i (by omega)
    obtain ⟨c, hc⟩ := h n (by omega)
    refine ⟨l ++ [c], by simp [hl], fun i x hx => ?_⟩
    rcases Nat.lt_or_ge i n with h1 | h1
    · rw [List.getElem?_append_left (by omega)] at hx
      exact hp i x hx
    · rw [List.getElem?_append_right (by omega)] at hx
      have : i - l.length = 0 := by
        rcases Nat.eq_zero_or_pos (i - l.length) with h2 | h2
        · exact h2
        · rw [List.getElem?_eq_none (by simp; omega)] at hx; cases hx
      rw [this] at hx
      simp only [List.getElem?_cons_zero, Option.some.injEq] at hx
      have e : i = n := by omega
      subst hx e; exact hc
theorem flatMap_at {α : Type} {f : α → List Value} {sz : Nat} (hf : ∀ x, (f x).length = sz) : ∀ {l : List α} {j : Nat} {u : Value}, (l.flatMap f)[j]? = some u → ∃ i k y, j = i * sz + k ∧ l[i]? = some y ∧ (f y)[k]? = some u
  | [], j, u, h => by simp at h
  | x :: l, j, u, h => by
    rw [List.flatMap_cons] at h
    rcases Nat.lt_or_ge j sz with h1 | h1
    · rw [List.getElem?_append_left (by rw [hf]; exact h1)] at h
      exact ⟨0, j, x, by omega, rfl, h⟩
    · rw [List.getElem?_append_right (by rw [hf]; exact h1), hf] at h
      obtain ⟨i, k, y, e1, e2, e3⟩ := flatMap_at hf h
      exact ⟨i + 1, k, y, by rw [Nat.add_mul]; omega, by simpa using e2, e3⟩
theorem flatMap_lenB {α : Type} {f : α → List Value} {sz : Nat} (hf : ∀ x, (f x).length = sz) (l : List α) : (l.flatMap f).length = l.length * sz := by
  induction l with
  | nil => simp
  | cons x l ih => rw [List.flatMap_cons, List.length_append, hf, ih, List.length_cons, Nat.add_mul]; omega
theorem opened_B {α : Type} {o : Option α} {β : Type} {f : α → Option β} {y : β} (h : o.bind f = some y) : ∃ c, o = some c ∧ f c = some y := by
  cases o with
  | none => cases h
  | some c => exact ⟨c, rfl, h⟩
theorem cells_atB {W : World} {a : Addr} {n : Nat} {cs : List Value} {b i : Nat} {v : Value} (h : W.cells? b a n = some cs) (hi : cs[i]? = some v) : W.cell? (a.add i) = some v := by
  obtain ⟨_, hl, hc⟩ := World.cells?_some h
  rw [hc i (by have := (List.getElem?_eq_some_iff.1 hi).1; omega)]; exact hi
theorem three_ofB {l : List Value} (h : l.length = 3) : ∃ a b c, l = [a, b, c] := by
  match l, h with
  | [a, b, c], _ => exact ⟨a, b, c, rfl⟩
theorem aggB {v : Value} {vs : List Value} (h : v.cells.toList = vs) (hl : vs.length ≠ 1) : v = .agg vs.toArray := by
  cases v with
  | agg cs => simp only [Value.cells] at h; subst h; simp
  | _ => simp [Value.cells] at h; subst h; simp at hl

section
variable {H : Type} {enc : TypeId × Value → H} {W : World}
/-- a slice whose elements have so many cells -/
theorem slice_list {α : Type} {t e : TypeId} {f : α → List Value} {Q : α → Prop} {sz : Nat} (hsz : 0 < sz) (hf : ∀ x, (f x).length = sz) (ht : Tryz.prog.underlying t = some (.slice e)) (hce : Tryz.prog.cellsOf e = sz)
    (hel : ∀ fuel cs x, DataW.trod enc Tryz.prog W 0 (fun _ => true) true fuel e cs = some x → ∃ y : α, cs = f y ∧ Q y)
    {fuel : Nat} {v : Value} {x : DataW H × List MemPlace} (h : DataW.trod enc Tryz.prog W 0 (fun _ => true) true fuel t [v] = some x) :
    ∃ A c, ∃ l : List α, v = .slice A l.length c ∧ l.length ≤ c ∧ c ≤ 9223372036854775807 ∧ Sl W (fun _ => True) sz A l.length (l.flatMap f) ∧ ∀ y ∈ l, Q y := by
  rcases DataW.trod_slice ht h with ⟨e0, _⟩ | ⟨a, len, cap, elems, rest, n, _, e0, _, _, hl, hm, hlen, hel', _⟩
  · injection e0 with e0 _
    subst e0
    exact ⟨none, 0, [], rfl, Nat.le_refl _, by omega, Sl.nil, by simp⟩
  · injection e0 with e0 _
    subst e0
    rw [hce] at hel'
    obtain ⟨l, hll, hlp⟩ := list_ofB (P := fun i (y : α) => (∀ k u, (f y)[k]? = some u → W.cell? ((a.add (i * sz)).add k) = some u) ∧ Q y) len (fun i hi => by
      have h1 := hel' i hi
      rw [List.getElem?_eq_getElem (by omega)] at h1
      obtain ⟨cs, hcs, hx⟩ := opened_B h1
      obtain ⟨y, rfl, hq⟩ := hel _ _ _ hx
      exact ⟨y, fun k u hu => cells_atB hcs hu, hq⟩)
    subst hll
    refine ⟨some a, cap, l, rfl, hl, by unfold maxLen at hm; omega, ⟨flatMap_lenB hf l, fun hp => ⟨a, rfl, trivial, ?_, fun j u hu => ?_⟩⟩, fun y hy => ?_⟩
    · have h0 := (hlp 0 _ (List.getElem?_eq_getElem hp)).1
      have hfl : 0 < (f l[0]).length := by rw [hf]; exact hsz
      have := World.block_lt_of_cell? W _ (h0 0 _ (List.getElem?_eq_getElem hfl))
      rwa [blk_add, blk_add] at this
    · obtain ⟨i, k, y, rfl, hi, hk⟩ := flatMap_at hf hu
      rw [← add_add']
      exact (hlp i y hi).1 k u hk
    · obtain ⟨i, hi⟩ := List.getElem?_of_mem hy
      exact (hlp i y hi).2

theorem Tryz.cellsBo : Tryz.prog.cellsOf 4 = 1 := by kernel_rfl
theorem Tryz.cellsIn : Tryz.prog.cellsOf 3 = 1 := by kernel_rfl
theorem Tryz.cellsBs : Tryz.prog.cellsOf 23 = 1 := by kernel_rfl
theorem Tryz.cellsFt : Tryz.prog.cellsOf 25 = 3 := by kernel_rfl

theorem flatMap_bools (l : List Bool) : l.flatMap (fun b => [Value.bool b]) = boolV l := by
  induction l with
  | nil => rfl
  | cons b l ih => rw [List.flatMap_cons, ih]; rfl
theorem bools_list {fuel : Nat} {v : Value} {x : DataW H × List MemPlace} (h : DataW.trod enc Tryz.prog W 0 (fun _ => true) true fuel 23 [v] = some x) :
    ∃ A c, ∃ l : List Bool, v = .slice A l.length c ∧ l.length ≤ c ∧ c ≤ 9223372036854775807 ∧ Sl W (fun _ => True) 1 A l.length (boolV l) := by
  obtain ⟨A, c, l, h1, h2, h3, h4, _⟩ := slice_list (f := fun b : Bool => [.bool b]) (Q := fun _ => True) (sz := 1) (by decide) (fun _ => rfl) Tryz.underlying23 Tryz.cellsBo (fun fuel cs x h => by
    obtain ⟨b, rfl, _⟩ := DataW.trod_bool Tryz.underlying4 h
    exact ⟨b, rfl, trivial⟩) h
  rw [flatMap_bools] at h4
  exact ⟨A, c, l, h1, h2, h3, h4⟩
/-- a fate's cells -/
abbrev FtT : Type := Option Addr × Nat × Nat × DiskP.Fate
def ftCells (y : FtT) : List Value := [.slice y.1 y.2.1 y.2.2.1, .int .i64 y.2.2.2.torn, .int .i64 y.2.2.2.cut]
def FtOk (W : World) (y : FtT) : Prop := Ft W (fun _ => True) y.1 y.2.1 y.2.2.1 y.2.2.2 ∧ y.2.1 ≤ y.2.2.1 ∧ y.2.2.1 ≤ 9223372036854775807
theorem fate_cells {fuel : Nat} {cs : List Value} {x : DataW H × List MemPlace} (h : DataW.trod enc Tryz.prog W 0 (fun _ => true) true fuel 25 cs = some x) : ∃ y : FtT, cs = ftCells y ∧ FtOk W y := by
  obtain ⟨y0, y1, y2, n, rfl, hl, h0, h1, h2⟩ := Go.Deep.trod_struct3 Tryz.underlying25 h
  rw [Tryz.cellsFt] at hl
  obtain ⟨a, b, c, rfl⟩ := three_ofB hl
  rw [Tryz.cellsBs] at h0
  rw [Tryz.cellsIn] at h1 h2
  obtain ⟨FA, fc, l, e0, k1, k2, k3⟩ := bools_list (v := a) h0
  obtain ⟨n1, e1, _⟩ := DataW.trod_int Tryz.underlying3 h1
  obtain ⟨n2, e2, _⟩ := DataW.trod_int Tryz.underlying3 h2
  simp at e1 e2
  subst e0 e1 e2
  exact ⟨(FA, l.length, fc, ⟨l, n1, n2⟩), rfl, ⟨k3, by show l.length ≤ 9223372036854775807; omega⟩, k1, k2⟩
theorem open_fate_arg {v : Value} {d : DataW H} {p : List MemPlace} (h : DataW.Trod enc Tryz.prog W 0 (fun _ => true) true 25 v d p) :
    ∃ FA fn fc f, v = ftv FA fn fc f ∧ Ft W (fun _ => True) FA fn fc f ∧ fn ≤ fc ∧ fc ≤ 9223372036854775807 := by
  obtain ⟨fuel, hf⟩ := h
  obtain ⟨y, h1, h2, h3, h4⟩ := fate_cells hf
  exact ⟨y.1, y.2.1, y.2.2.1, y.2.2.2, aggB h1 (by simp), h2, h3, h4⟩
end
end Go.Proofs.YtojincohnjophaaGreatDoor

/-! Writes, acts, cuts and disks that come in, opened. -/
namespace Go.Proofs.YtojincohnjophaaGreatDoor
open Go.ChangeShapes Go.WideShapes Go.ChangeAt Go.RowKit
open Go.ChangeMaps (open_string shut_string)
open DiskP (Bytes Disk Wr Fate)
set_option linter.unusedVariables false

section
variable {H : Type} {enc : TypeId × Value → H} {W : World}
end
end Go.Proofs.YtojincohnjophaaGreatDoor

/-! CaddisCells: the tree and the cells that the first loop makes, plain (seat c). -/
namespace Go.Proofs.YtojincohnjophaaGreatDoor
open Go.RowKit
open TreeP (Kt Cell kl flat flatL Inv)
open DiskP (Bytes)
open KeepP (pagesP)
set_option linter.unusedVariables false

theorem inv_0 : Inv 0 2 1 none none (.mk [] [] []) := TreeP.inv_mk_leaf (by simp) (by simp) (by simp [TreeP.Rise]) (by simp)
theorem chk_ok {t : Kt} {h : Nat} (H : Inv 0 2 h none none t) (hc : (flat t).length ≤ 100000000) : chkP t = 0 := chkP_ok.2 ⟨h, H, by have := TreeP.inv_64 H hc; omega⟩
theorem putR_in {t : Kt} {h : Nat} (c : Cell) (H : Inv 0 2 h none none t) (hc : (flat t).length ≤ 100000000) : ∃ h', Inv 0 2 h' none none (putR c t) ∧ flat (putR c t) = TreeP.withC (flat t) c := by
  rw [putR, if_pos (chk_ok H hc)]
  obtain ⟨h1 | h1, h2⟩ := TreeP.putT_ok (c := c) H
  · exact ⟨h, h1, h2⟩
  · exact ⟨h + 1, h1, h2⟩
/-- A text, cut. -/
def cutS (s : ByteArray) : ByteArray := if 100 < s.size then s.extract 0 100 else s
theorem cutS_size (s : ByteArray) : (cutS s).size ≤ 100 := by
  unfold cutS
  split
  · simp [ByteArray.size_extract]; omega
  · omega
def keyOf (k : Nat) : ByteArray := ⟨#[UInt8.ofNat k]⟩
theorem key_conv (w : World) (k : Nat) (hk : k < 256) : (convert 33 9 (.slice (some ⟨w.heap.size, 0, none⟩) 1 1)).run Tryz.prog (w.alloc (.cells #[.int .u8 (k : Nat)] 5)) = .ok (.string (keyOf k)) (w.alloc (.cells #[.int .u8 (k : Nat)] 5)) := by
  have e : bytesV [UInt8.ofNat k] = [.int .u8 (k : Nat)] := by
    simp [bytesV, UInt8.toNat_ofNat', Nat.mod_eq_of_lt hk]
  have h : Sl (w.alloc (.cells #[.int .u8 (k : Nat)] 5)) (fun _ => True) 1 (some ⟨w.heap.size, 0, none⟩) 1 (bytesV [UInt8.ofNat k]) := by
    rw [e]
    refine ⟨rfl, fun _ => ⟨_, rfl, trivial, by simp, fun j u hu => ?_⟩⟩
    match j, hu with
    | 0, hu => obtain rfl := Option.some.inj hu; exact (Box.new w 5 #[.int .u8 (k : Nat)]).cellAt (i := 0) rfl
    | j + 1, hu => simp at hu
  exact conv_str h _ _ 5 Tryz.underlying33 Tryz.underlying5 Tryz.underlying9
/-- The tree's cells: the texts by their numbers. -/
def cellsK (l : List ByteArray) : List Cell := l.zipIdx.map fun x => (keyOf x.2, x.1)
theorem cellsK_snoc (l : List ByteArray) (s : ByteArray) : cellsK (l ++ [s]) = cellsK l ++ [(keyOf l.length, s)] := by
  simp [cellsK, List.zipIdx_append]
theorem cellsK_length (l : List ByteArray) : (cellsK l).length = l.length := by simp [cellsK]
theorem cellsK_get (l : List ByteArray) (i : Nat) (h : i < l.length) : (cellsK l)[i]? = some (keyOf i, l[i]) := by
  simp [cellsK, h]
theorem kl_key (i j : Nat) (hi : i < 256) (hj : j < 256) : kl (keyOf i) (keyOf j) = decide (i < j) := by
  unfold kl keyOf
  rw [ByteArray.toList_eq, ByteArray.toList_eq]
  have h1 : (UInt8.ofNat i < UInt8.ofNat j) ↔ i < j := by
    rw [UInt8.lt_iff_toNat_lt]
    simp [UInt8.toNat_ofNat', Nat.mod_eq_of_lt hi, Nat.mod_eq_of_lt hj]
  by_cases h : i < j
  · simp [Op.bytesLess, h1, h]
  · simp [Op.bytesLess, h1, h]
theorem withC_next (l : List ByteArray) (s : ByteArray) (hl : l.length < 256) : TreeP.withC (cellsK l) (keyOf l.length, s) = cellsK (l ++ [s]) := by
  have hm : ∀ d ∈ cellsK l, ∃ i, i < l.length ∧ d.1 = keyOf i := by
    intro d hd
    obtain ⟨i, hi⟩ := List.mem_iff_getElem?.1 hd
    have hlt : i < l.length := by have := (List.getElem?_eq_some_iff.1 hi).1; rw [cellsK_length] at this; exact this
    rw [cellsK_get l i hlt] at hi
    exact ⟨i, hlt, by rw [← Option.some.inj hi]⟩
  have h1 : (cellsK l).filter (fun d => kl d.1 (keyOf l.length)) = cellsK l := List.filter_eq_self.2 fun d hd => by
    obtain ⟨i, hi, e⟩ := hm d hd
    rw [e, kl_key _ _ (by omega) hl]; simpa using hi
  have h2 : (cellsK l).filter (fun d => kl (keyOf l.length) d.1) = [] := List.filter_eq_nil_iff.2 fun d hd => by
    obtain ⟨i, hi, e⟩ := hm d hd
    rw [e, kl_key _ _ hl (by omega)]; simp; omega
  unfold TreeP.withC
  rw [h1, h2, cellsK_snoc]
/-- What the first loop has made: the tree in its box, and the cells in their row. -/
def TreeIn (w0 : World) (p : Nat) (cs : List ByteArray) (vl : Value) (w : World) : Prop :=
  ∃ T h t1 t2 t3, Inv 0 2 h none none T ∧ flat T = cellsK cs ∧ Kn w (fun i => i ≠ p ∧ some i ≠ vl.ownBlock) 1000 t1 t2 t3 T ∧ BoxK w p t1 t2 t3 ∧ w.ownsRow (p + 1) 9 1 vl cs.length (strs cs) ∧ Below p w0 w ∧ p + 1 ≤ w.heap.size
theorem tree_start (w : World) : TreeIn w w.heap.size [] (.slice none 0 0) (w.alloc (.cells #[.slice none 0 0, .slice none 0 0, .slice none 0 0] 29)) :=
  ⟨.mk [] [] [], 1, _, _, _, inv_0, by simp [flat, flatL, cellsK], kn_none _, blk_top rfl, World.ownsRow_nil _ _ _ _, (Below.refl _ w).alloc (Nat.le_refl _) _, Nat.le_of_eq (World.size_alloc w _).symm⟩
theorem tree_step {wf w2 w3 : World} {p h : Nat} {cs : List ByteArray} {s : ByteArray} {T : Kt} {t1 t2 t3 vl vl' : Value} (HI : Inv 0 2 h none none T) (hfl : flat T = cellsK (cs ++ [s])) (hk : Kn w2 (fun i => i ≠ p ∧ some i ≠ vl.ownBlock) 1000 t1 t2 t3 T) (hbx : BoxK w2 p t1 t2 t3)
    (hown : w2.ownsRow (p + 1) 9 1 vl cs.length (strs cs)) (hb : Below p wf w2) (hs : p + 1 ≤ w2.heap.size) (hA : Apd w2 w3 (p + 1) 9 1 vl vl' (cs.length + 1) (strs (cs ++ [s]))) : TreeIn wf p (cs ++ [s]) vl' w3 := by
  refine ⟨T, h, t1, t2, t3, HI, hfl, ?_, ?_, ?_, hA.below hown hb (Nat.le_succ _) (by omega), Nat.le_trans hs hA.grown.size⟩
  · refine kn_keep (Nat.le_refl _) hA.grown.size (fun b hv hl => hA.grown.block b hl hv.2) (fun b hv hl => ⟨hv.1, ?_⟩) hk
    rcases hA.at_ with e | ⟨g, e, hg⟩
    · rw [e]; exact hv.2
    · rw [e]; intro e2; have := Option.some.inj e2; omega
  · exact hbx.grownO hA.grown fun e => by have := (hown.lt p e).1; omega
  · have := hA.own; rw [List.length_append]; exact this
/-- What a put left, stored into the tree's box. -/
theorem tree_put {wf wc w0 w1 w2 : World} {p k : Nat} {cs : List ByteArray} {T : Kt} {t1 t2 t3 u1 u2 u3 vl : Value} {o : Obj} (hb : Below p wf wc) (hs : p + 1 ≤ wc.heap.size) (hbx : BoxK wc p u1 u2 u3) (hown : wc.ownsRow (p + 1) 9 1 vl k (strs cs))
    (h0 : wc.heap.size ≤ w0.heap.size) (h1 : Below wc.heap.size wc w1) (hk : Kn w1 (VV w0 (fun i => (i ≠ p ∧ some i ≠ vl.ownBlock) ∧ i < wc.heap.size)) 1000 t1 t2 t3 T)
    (hw2 : w2 = ((((w1.alloc o).setCell ⟨p, 0, none⟩ t1).setCell ⟨p, 1, none⟩ t2).setCell ⟨p, 2, none⟩ t3)) :
    Kn w2 (fun i => i ≠ p ∧ some i ≠ vl.ownBlock) 1000 t1 t2 t3 T ∧ BoxK w2 p t1 t2 t3 ∧ w2.ownsRow (p + 1) 9 1 vl k (strs cs) ∧ Below p wf w2 ∧ p + 1 ≤ w2.heap.size := by
  subst hw2
  have hb1 := (Below.refl w1.heap.size w1).alloc (Nat.le_refl _) o
  have hbc := h1.trans (hb1.mono h1.size)
  have hkn : Kn (w1.alloc o) (fun i => i ≠ p ∧ some i ≠ vl.ownBlock) 1000 t1 t2 t3 T := kn_keep (Nat.le_refl _) hb1.size (fun b _ hl => hb1.block b hl) (fun b hv hl => by
    rcases hv with hv | hv
    · exact hv.1.1
    · refine ⟨by omega, fun e => ?_⟩
      have := (hown.lt b e.symm).2
      omega) hk
  have hown2 : (w1.alloc o).ownsRow (p + 1) 9 1 vl k (strs cs) := own_below hown hbc
  have hfar : ∀ (w : World) (j : Nat) (u : Value), w.ownsRow (p + 1) 9 1 vl k (strs cs) → (w.setCell ⟨p, j, none⟩ u).ownsRow (p + 1) 9 1 vl k (strs cs) := fun w j u h =>
    own_keep h fun b hb _ => Below.heap_setCell _ _ _ _ (by show b ≠ p; omega)
  refine ⟨kn_set3 hkn fun i hi => hi.1, (hbx.below hbc).set, hfar _ _ _ (hfar _ _ _ (hfar _ _ _ hown2)), ?_, ?_⟩
  · exact (((hb.trans (hbc.mono (by omega))).setCell (p := ⟨p, 0, none⟩) (Nat.le_refl _) t1).setCell (p := ⟨p, 1, none⟩) (Nat.le_refl _) t2).setCell (p := ⟨p, 2, none⟩) (Nat.le_refl _) t3
  · have := hbc.size
    simp [World.setCell] at this ⊢
    omega
/-- How many octets texts have. -/
def tot (l : List ByteArray) : Nat := (l.map ByteArray.size).sum
theorem tot_append (a b : List ByteArray) : tot (a ++ b) = tot a + tot b := by simp [tot]
theorem tot_cons (a : ByteArray) (b : List ByteArray) : tot (a :: b) = a.size + tot b := by simp [tot]
theorem tot_le : ∀ (l : List ByteArray), (∀ s ∈ l, s.size ≤ 100) → tot l ≤ 100 * l.length
  | [], _ => by simp [tot]
  | x :: l, h => by
    have h1 := h x (by simp)
    have h2 := tot_le l fun s hs => h s (by simp [hs])
    rw [tot_cons, List.length_cons]
    omega
theorem octs_flatten (ll : List (List ByteArray)) : (ll.map octs).flatten = octs ll.flatten := by
  induction ll with
  | nil => rfl
  | cons a l ih => simp [octs_append, ih]
theorem flatten_ge : ∀ (ll : List (List ByteArray)), (∀ l ∈ ll, l ≠ []) → ll.length ≤ ll.flatten.length
  | [], _ => by simp
  | x :: ll, h => by
    have h1 : x.length ≠ 0 := fun e => h x (by simp) (List.eq_nil_of_length_eq_zero e)
    have h2 := flatten_ge ll fun l hl => h l (by simp [hl])
    simp only [List.length_cons, List.flatten_cons, List.length_append]
    omega
/-- What slot.Fill gives. -/
theorem fill_lists {cs : List ByteArray} {ll : List (List ByteArray)} (h : ll.map octs = SlotP.fill (octs cs)) (hs : ∀ s ∈ cs, s.size ≤ 100) : (∀ l ∈ ll, SlotP.fits (octs l) = true) ∧ ll.flatten = cs ∧ ll.length ≤ cs.length := by
  have hf := SlotP.fill_ok (octs cs) (fun c hc => by
    obtain ⟨s, h1, rfl⟩ := mem_octs.1 hc
    have := hs s h1
    have e : (oct s).length = s.size := size_list s
    omega)
  rw [← h] at hf
  have e : ll.flatten = cs := octs_inj (by rw [← octs_flatten]; exact hf.2)
  refine ⟨fun l hl => (hf.1 (octs l) (List.mem_map.2 ⟨l, hl, rfl⟩)).1, e, ?_⟩
  rw [← e]
  exact flatten_ge ll fun l hl he => (hf.1 (octs l) (List.mem_map.2 ⟨l, hl, rfl⟩)).2 (by rw [he]; rfl)
theorem same_self {A B : Option Addr} {n m c d : Nat} {ss : List ByteArray} {V U : Nat → Prop} {w : World} (h : Sl w V 1 A n (strs ss)) (g : Sl w U 1 B m (strs ss)) (hn : n ≤ 9223372036854775807) :
    Calls Tryz.prog 7 #[.slice A n c, .slice B m d] w fun e w' => e = .returned (.bool true) ∧ Below w.heap.size w w' :=
  (same_any A B n m c d ss ss V U w h g hn).mono fun e w' ⟨h1, q, h2⟩ => ⟨by rw [h1]; simp, by rw [h2]; exact below_drewN (Below.refl _ _) q⟩
theorem tot_drop {ll : List (List ByteArray)} {k : Nat} {l : List ByteArray} (h : ll[k]? = some l) : tot (ll.drop k).flatten = tot l + tot (ll.drop (k + 1)).flatten := by
  obtain ⟨h1, h2⟩ := List.getElem?_eq_some_iff.1 h
  rw [List.drop_eq_getElem_cons h1, h2, List.flatten_cons, tot_append]
theorem tot_drop1 {l : List ByteArray} {k : Nat} {s : ByteArray} (h : l[k]? = some s) : tot (l.drop k) = s.size + tot (l.drop (k + 1)) := by
  obtain ⟨h1, h2⟩ := List.getElem?_eq_some_iff.1 h
  rw [List.drop_eq_getElem_cons h1, h2, tot_cons]
/-- A page that was laid is read. -/
theorem read_page {l : List ByteArray} (h : SlotP.fits (octs l) = true) : SlotP.read (oct ⟨(SlotP.lay (octs l)).toArray⟩) = (octs l, 0) := by
  have e : oct ⟨(SlotP.lay (octs l)).toArray⟩ = SlotP.lay (octs l) := oct_mk _
  rw [e]
  exact SlotP.read_lay _ h
theorem fits_40 {l : List ByteArray} (h : SlotP.fits (octs l) = true) : l.length ≤ 40 := by
  have := ((SlotP.fits_iff _).1 h).1
  rwa [octs_length] at this
theorem read_pg {l : List ByteArray} (h : SlotP.fits (octs l) = true) (w : World) :
    Calls Tryz.prog 9 #[.string ⟨(SlotP.lay (octs l)).toArray⟩] w fun e w' => ∃ M mc, e = .returned (.tuple #[.slice M l.length mc, .int .i64 0]) ∧ Sl w' (fun _ => True) 1 M l.length (strs l) ∧ Below w.heap.size w w' := by
  have hz : (⟨(SlotP.lay (octs l)).toArray⟩ : ByteArray).size = 1024 := by
    have := SlotP.lay_length _ h
    rw [← size_list]
    show (oct ⟨(SlotP.lay (octs l)).toArray⟩).length = 1024
    rw [show oct ⟨(SlotP.lay (octs l)).toArray⟩ = SlotP.lay (octs l) from oct_mk _]
    exact this
  refine (read_any _ w (by omega)).mono ?_
  rintro e w' ⟨v, ts, h1, h2, h3, h4⟩
  rw [read_page h] at h1 h3
  obtain rfl := octs_inj h3
  obtain ⟨M, mc, rfl⟩ := own_shape h2
  exact ⟨M, mc, h1, (Sl.of_own h2).any, h4⟩
/-- The records: keys and texts. -/
def recK (cs : List ByteArray) : List Bytes := (cellsK cs).map fun c => oct (c.1 ++ c.2)
theorem recK_length (cs : List ByteArray) : (recK cs).length = cs.length := by simp [recK, cellsK_length]
theorem recK_get (cs : List ByteArray) (i : Nat) (h : i < cs.length) : (recK cs)[i]? = some (oct (keyOf i ++ cs[i])) := by
  simp [recK, cellsK_get cs i h]
theorem recK_small {cs : List ByteArray} (hs : ∀ s ∈ cs, s.size ≤ 100) : ∀ r ∈ recK cs, r.length ≤ 117 := by
  intro r hr
  obtain ⟨i, hi⟩ := List.mem_iff_getElem?.1 hr
  have hl : i < cs.length := by have := (List.getElem?_eq_some_iff.1 hi).1; rw [recK_length] at this; exact this
  rw [recK_get cs i hl] at hi
  rw [← Option.some.inj hi]
  have h1 := hs cs[i] (List.getElem_mem hl)
  have h2 : (oct (keyOf i ++ cs[i])).length = (keyOf i ++ cs[i]).size := size_list _
  have h3 : (keyOf i).size = 1 := rfl
  rw [h2, ByteArray.size_append]
  omega
theorem secs_one {n : Nat} (h : n ≤ 117) : LogP.secs n = 1 := by
  unfold LogP.secs
  rw [if_neg (by omega), if_pos h]
theorem sum_small : ∀ (l : List Bytes), (∀ r ∈ l, r.length ≤ 117) → LogP.sum l = l.length
  | [], _ => rfl
  | x :: l, h => by
    rw [LogP.sum_cons, secs_one (h x (by simp)), sum_small l fun r hr => h r (by simp [hr]), List.length_cons]
    omega
theorem recK_take (cs : List ByteArray) (j : Nat) (h : j < cs.length) : (recK cs).take (j + 1) = (recK cs).take j ++ [oct (keyOf j ++ cs[j])] := by
  have hl : j < (recK cs).length := by rw [recK_length]; exact h
  have e := recK_get cs j h
  rw [List.getElem?_eq_getElem hl] at e
  rw [← Option.some.inj e]
  exact (List.take_append_getElem hl).symm
theorem pages_6 {s : ByteArray} (h : s.size ≤ 2000) : (pagesP (oct s)).length ≤ 6 := by
  refine pages_fit ?_
  rw [oct_length]
  unfold KeepP.cells
  omega
end Go.Proofs.YtojincohnjophaaGreatDoor

/-! What Add and Save do to what is kept, in every case: the contracts by which the laws of layer 21 walk. -/
namespace Go.Proofs.YtojincohnjophaaGreatDoor
open Go.RowKit
open DiskP (Bytes Disk Wr Fate noughts)
open KeepP (Cut Head K Kept okC okH pagesP saveP beginP openP)
open LogP (Log zeroL Live okL Holds)
set_option linter.unusedVariables false

/-! ### What is kept, crashed and opened -/
theorem reo_disk {w : World} {S : Nat → Prop} {b : Nat} {k : K} (hM : KM w S b k) : ∀ ww, Below w.heap.size w ww → Calls Tryz.prog 14 #[.pointer (some ⟨b, 0, none⟩)] ww fun q w' => ∃ A n c B m e, q = .returned (.agg #[.slice A n c, .slice B m e, .int .i64 k.drive.left, .bool k.drive.dead]) ∧ Dk w' (fun _ => True) A n c B m e k.drive ∧ Below ww.heap.size ww w' :=
  fun ww hb => (km_disk (hM.below hb)).mono fun q w' ⟨A, n, c, B, m, e, h1, h2, h3⟩ => ⟨A, n, c, B, m, e, h1, h2.mono fun _ _ => trivial, h3⟩
theorem reo_crash {d d5 : Disk} {f : Fate} (hm : DiskP.may d = true) (hd : d5 = DiskP.crash d f) : ∀ (FA : Option Addr) (fc : Nat) ww A n c B m e g, Dk ww (fun _ => True) A n c B m e d → Ft ww (fun _ => True) FA g fc f → Calls Tryz.prog 13 #[.agg #[.slice A n c, .slice B m e, .int .i64 d.left, .bool d.dead], .agg #[.slice FA g fc, .int .i64 f.torn, .int .i64 f.cut]] ww fun q w' => ∃ A n c B m e, q = .returned (.agg #[.slice A n c, .slice B m e, .int .i64 d5.left, .bool d5.dead]) ∧ Dk w' (fun x => ww.heap.size ≤ x) A n c B m e d5 ∧ Below ww.heap.size ww w' := by
  intro FA fc ww A n c B m e g hD hG
  rw [hd]
  exact km_crash hD hm hG
theorem reo_open {k5 : K} {cl cp : Int} (h5 : Kept k5) (hl : (k5.cut.log : Int) = cl) (hp : (k5.cut.pages : Int) = cp) : ∀ (V : Nat → Prop) A n c' B m e ww, Dk ww V A n c' B m e k5.drive → Calls Tryz.prog 12 #[.agg #[.slice A n c', .slice B m e, .int .i64 k5.drive.left, .bool k5.drive.dead], .agg #[.int .i64 cl, .int .i64 cp]] ww fun q w' => ∃ b, q = .returned (.tuple #[.pointer (some ⟨b, 0, none⟩), .int .i64 0]) ∧ KM w' (fun x => V x ∨ ww.heap.size ≤ x) b k5 ∧ ww.heap.size ≤ b ∧ Below ww.heap.size ww w' := by
  intro V A n c' B m e ww hD
  rw [← hl, ← hp]
  exact km_open h5 hD
theorem reo_text {w : World} {S : Nat → Prop} {b : Nat} {k : K} (hM : KM w S b k) {s : ByteArray} (hs : k.text = oct s) : ∀ ww, Below w.heap.size w ww → Calls Tryz.prog 16 #[.pointer (some ⟨b, 0, none⟩)] ww fun q w' => q = .returned (.string s) ∧ w' = ww :=
  fun ww hb => (km_text (hM.below hb)).mono fun q w' ⟨h1, h2⟩ => ⟨by rw [h1, hs, mkB_oct], h2.symm⟩
theorem reo_records {w : World} {S : Nat → Prop} {b : Nat} {k : K} (hM : KM w S b k) (hr : k.records.length ≤ 1000000) {l : List Bytes} {n : Nat} (hl : k.records = l) (hn : n = l.length) : ∀ ww, Below w.heap.size w ww → Calls Tryz.prog 17 #[.pointer (some ⟨b, 0, none⟩)] ww fun q w' => ∃ X xc, q = .returned (.slice X n xc) ∧ Sl w' (fun x => x < w'.heap.size) 1 X n (secV l) ∧ Below ww.heap.size ww w' :=
  fun ww hb => (km_records (hM.below hb) hr).mono fun q w' ⟨v, h1, h2, h3⟩ => by
    rw [hl, ← hn] at h2
    obtain ⟨X, xc, rfl⟩ := own_shape h2
    exact ⟨X, xc, h1, (Sl.of_own h2).lt, h3⟩
end Go.Proofs.YtojincohnjophaaGreatDoor
