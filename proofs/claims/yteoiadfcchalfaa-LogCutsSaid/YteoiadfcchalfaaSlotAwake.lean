/- The walk of layer 19's awake: the chapter's examples. -/
import Derived.Test.YteoiadfcchalfaaSlotFill
import Derived.Test.YteoiadfcchalfaaSlotRRead
namespace Go.Proofs.Yteoiadfcchalfaa
open Go.RowKit
set_option linter.unusedVariables false

def exA : List ByteArray := [⟨#[97, 98]⟩, ⟨#[99]⟩]
theorem exA_fits : SlotP.fits (octs exA) = true := by decide +kernel
theorem exA_lay : (SlotP.lay (octs exA)).length = 1024 ∧ (SlotP.lay (octs exA)).take 6 = [0, 2, 0, 2, 0, 1] ∧ (SlotP.lay (octs exA)).drop 1021 = [99, 97, 98] := by decide +kernel
theorem ex_read : SlotP.read (List.replicate 1024 0) = ([], 0) := by decide +kernel
theorem ex_fill : SlotP.fill [List.replicate 500 97, List.replicate 500 98, List.replicate 500 99] = [[List.replicate 500 97, List.replicate 500 98], [List.replicate 500 99]] := by decide +kernel

/-- so many octets -/
def repB (c : UInt8) (n : Nat) : ByteArray := ⟨(List.replicate n c).toArray⟩
theorem oct_repB (c : UInt8) (n : Nat) : oct (repB c n) = List.replicate n c := oct_mk _
theorem size_repB (c : UInt8) (n : Nat) : (repB c n).size = n := by rw [← oct_length, oct_repB, List.length_replicate]
theorem many_at (x y : Int) (c : UInt8) (n : Nat) (hx : x = c.toNat) (hy : y = n) (hn : n ≤ 100000) (w : World) :
    Calls Try.prog 28 #[.int .u8 x, .int .i64 y] w fun e w' => e = .returned (.string (repB c n)) ∧ Below w.heap.size w w' := by
  subst hx; subst hy
  exact many_any c n w hn
def exB : List ByteArray := [repB 97 500, repB 98 500, repB 99 500]
theorem ex_shape {ll : List (List ByteArray)} (h : ll.map octs = SlotP.fill (octs exB)) : ∃ l0 l1, ll = [l0, l1] ∧ l0.length = 2 := by
  have e : octs exB = [List.replicate 500 97, List.replicate 500 98, List.replicate 500 99] := by
    simp only [exB, octs_cons, octs_nil, oct_repB]
  rw [e, ex_fill] at h
  have hlen := congrArg List.length h
  rw [List.length_map] at hlen
  have h0 := congrArg (fun l => (l.getD 0 []).length) h
  match ll, hlen, h0 with
  | [l0, l1], _, h0 =>
    refine ⟨l0, l1, rfl, ?_⟩
    have h1 : (octs l0).length = 2 := h0
    rw [octs_length] at h1
    exact h1
theorem fill_exB (w : World) :
    Calls Try.prog 26 #[.slice (some ⟨w.heap.size, 0, none⟩) 3 3] (w.alloc (.cells #[.string (repB 97 500), .string (repB 98 500), .string (repB 99 500)] 9)) fun e w' =>
      ∃ g cap A c, e = .returned (.tuple #[.slice (some ⟨g, 0, none⟩) 2 cap, .int .i64 0]) ∧ w'.cell? ⟨g, 0, none⟩ = some (.slice A 2 c) ∧ Below (w.heap.size + 1) (w.alloc (.cells #[.string (repB 97 500), .string (repB 98 500), .string (repB 99 500)] 9)) w' := by
  have hA := World.ownsRow_lit (base := w.heap.size) (e := 9) (size := 1) w #[.string (repB 97 500), .string (repB 98 500), .string (repB 99 500)] 3 (Nat.le_refl _) (by simp [maxLen]) rfl
  refine (fill_yes _ 3 3 exB _ _ (Sl.of_own hA) (by omega) (by
    intro s hs
    simp only [exB, List.mem_cons, List.not_mem_nil, or_false] at hs
    rcases hs with rfl | rfl | rfl <;> rw [size_repB] <;> omega)).mono ?_
  rintro e w' ⟨v, vals, ll, rfl, how, hrw, hfill, hb⟩
  obtain ⟨l0, l1, rfl, hl0⟩ := ex_shape hfill
  obtain ⟨g, cap, hv, _, _⟩ := how.form (by simp)
  subst hv
  obtain ⟨A, c, h1, _⟩ := hrw.2 0 l0 rfl
  refine ⟨g, cap, A, c, rfl, ?_, by rw [World.size_alloc] at hb; exact hb⟩
  have := how.cellAt 0 (by simp)
  rw [this, h1, hl0]
theorem read_zero (w : World) : Calls Try.prog 19 #[.string (repB 0 1024)] w fun e w' => ∃ A c, e = .returned (.tuple #[.slice A 0 c, .int .i64 0]) ∧ Below w.heap.size w w' := by
  refine (read_any (repB 0 1024) w (by rw [size_repB]; omega)).mono ?_
  rintro e w' ⟨v, ts, rfl, how, h1, hb⟩
  rw [oct_repB, ex_read] at *
  have h0 : ts = [] := by cases ts with
    | nil => rfl
    | cons x l => simp [octs] at h1
  subst h0
  obtain ⟨A, c, hv⟩ := own_shape how
  subst hv
  exact ⟨A, c, rfl, hb⟩

set_option maxRecDepth 100000 in
set_option maxHeartbeats 4000000 in
theorem awake19_any (w : World) :
    Calls Try.prog 23 #[] w fun e w' => e = .returned (.bool true) ∧ Below w.heap.size w w' := by
  have hA := World.ownsRow_lit (base := w.heap.size) (e := 9) (size := 1) w #[.string ⟨#[97, 98]⟩, .string ⟨#[99]⟩] 2 (Nat.le_refl _) (by simp [maxLen]) rfl
  have hly := lay_yes _ 2 2 exA _ (Sl.of_own hA).any exA_fits
  have hb0 : Below w.heap.size w (w.alloc (.cells #[.string ⟨#[97, 98]⟩, .string ⟨#[99]⟩] 9)) := (Below.refl _ w).alloc (Nat.le_refl _) _
  have hpo : oct ⟨(SlotP.lay (octs exA)).toArray⟩ = SlotP.lay (octs exA) := oct_mk _
  generalize (⟨(SlotP.lay (octs exA)).toArray⟩ : ByteArray) = pg at hly hpo
  obtain ⟨q1, q2, q3⟩ := exA_lay
  rw [← hpo] at q1 q2 q3
  rw [oct_length] at q1
  have q1' : ((pg.size : Int) == 1024) = true := by simp [q1]
  have Q1 := hide q1
  have Q2 := hide q2
  have Q3 := hide q3
  have hge : (1021 : Int) ≤ pg.size := by omega
  have hx1 : (pg.extract 0 6).toList = [0, 2, 0, 2, 0, 1] := by rw [ByteArray.toList_eq, show (pg.extract 0 6).data.toList = oct (pg.extract 0 6) from rfl, oct_extract, List.drop_zero]; exact q2
  have hx2 : (pg.extract 1021 pg.size).toList = [99, 97, 98] := by rw [ByteArray.toList_eq, show (pg.extract 1021 pg.size).data.toList = oct (pg.extract 1021 pg.size) from rfl, oct_extract, List.take_of_length_le (by rw [List.length_drop, oct_length]; omega)]; exact q3
  clear q1 q2 q3 hpo hA
  go_enter Try.func23, Try.ntmps23
  go_wp2_with (go_at_call 22; refine hly.mono ?_; rintro e w1 ⟨rfl, hb1⟩)
  refine (many_at _ _ 97 500 rfl rfl (by omega) _).mono ?_
  rintro e w2 ⟨rfl, hb2⟩
  go_wp2_with fail
  refine (many_at _ _ 98 500 rfl rfl (by omega) _).mono ?_
  rintro e w3 ⟨rfl, hb3⟩
  go_wp2_with fail
  refine (many_at _ _ 99 500 rfl rfl (by omega) _).mono ?_
  rintro e w4 ⟨rfl, hb4⟩
  go_wp2_with fail
  refine (fill_exB _).mono ?_
  rintro e w5 ⟨g, cap, A, c, rfl, hcell, hb5⟩
  go_wp2_with fail
  refine (many_at _ _ 0 1024 rfl rfl (by omega) _).mono ?_
  rintro e w6 ⟨rfl, hb6⟩
  go_wp2_with fail
  refine (read_zero _).mono ?_
  rintro e w7 ⟨A7, c7, rfl, hb7⟩
  have hcell7 : w7.cell? ⟨g, 0, none⟩ = some (.slice A 2 c) := by
    have hlt := World.block_lt_of_cell? w5 _ hcell
    exact (hb7.cell (p := ⟨g, 0, none⟩) (by have := hb6.size; simp at *; omega)).trans ((hb6.cell (p := ⟨g, 0, none⟩) hlt).trans hcell)
  go_wp2_with fail
  go_ret
  refine ⟨rfl, ?_⟩
  have c1 := hb0.trans (hb1.mono hb0.size)
  have c2 := c1.trans (hb2.mono c1.size)
  have c3 := c2.trans (hb3.mono c2.size)
  have c4 := c3.trans (hb4.mono c3.size)
  have c5 := (c4.alloc c4.size (.cells #[.string (repB 97 500), .string (repB 98 500), .string (repB 99 500)] 9)).trans (hb5.mono (by have := c4.size; omega))
  have c6 := c5.trans (hb6.mono c5.size)
  exact c6.trans (hb7.mono c6.size)

end Go.Proofs.Yteoiadfcchalfaa
