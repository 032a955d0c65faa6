/- The first token (seat c). -/
import Derived.Test.YtojincohnjophaaGreatDoorLexC
import Derived.LoopN
namespace Go.Proofs.YtojincohnjophaaGreatDoor
open Go.RowKit
set_option linter.unusedVariables false

theorem runLen_le (P Q : Nat → Bool) : ∀ l : List UInt8, runLen P Q l ≤ l.length
  | [] => Nat.le_refl _
  | c :: r => by
    have := moreN_le Q r
    show (if P c.toNat then moreN Q r + 1 else 0) ≤ r.length + 1
    split <;> omega
theorem size_list (s : ByteArray) : s.data.toList.length = s.size := Array.length_toList

theorem idx_run0 (w : World) : (Instr.index 230 (.agg #[.int .i64 1, .int .i64 16, .func (Fn.func 177) #[] #[], .func (Fn.func 176) #[] #[], .int .i64 2, .int .i64 19, .func (Fn.func 178) #[] #[], .func (Fn.func 178) #[] #[]]) (.int .i64 0)).run Tryz.prog w = .ok (.agg #[.int .i64 1, .int .i64 16, .func (Fn.func 177) #[] #[], .func (Fn.func 176) #[] #[]]) w := by
  kernel_rfl
theorem idx_run1 (w : World) : (Instr.index 230 (.agg #[.int .i64 1, .int .i64 16, .func (Fn.func 177) #[] #[], .func (Fn.func 176) #[] #[], .int .i64 2, .int .i64 19, .func (Fn.func 178) #[] #[], .func (Fn.func 178) #[] #[]]) (.int .i64 1)).run Tryz.prog w = .ok (.agg #[.int .i64 2, .int .i64 19, .func (Fn.func 178) #[] #[], .func (Fn.func 178) #[] #[]]) w := by
  kernel_rfl

set_option maxRecDepth 100000 in
theorem first_word (s : ByteArray) (c : UInt8) (r : List UInt8) (hs : s.data.toList = c :: r) (hz : s.size ≤ 1000) (n : Nat) (hn : runLen letterB partB s.data.toList = n) (h1 : 1 ≤ n) (w : World) :
    Calls Tryz.prog 107 #[.string s] w fun q w' => q = .returned (.tuple #[.agg #[.int .i64 1, .string (s.extract 0 n)], .int .i64 (n : Nat)]) ∧ Below w.heap.size w w' := by
  have hle : n ≤ s.size := by rw [← hn, ← size_list]; exact runLen_le _ _ _
  have HL := hide (fun ww => wlen_any s c r hs hz ww)
  rw [hn] at HL
  have HR := hide runs_any
  have hx0 := idx_run0
  have hx1 := idx_run1
  clear hs hn
  have hp1 : (0 : Int) < (n : Int) := by omega
  have hp2 : (0 : Int) ≤ (n : Int) := by omega
  have hp3 : (n : Int) ≤ (s.size : Int) := by omega
  have kT := Box.new w 202 #[.int .i64 0, .string .empty]
  go_enter Tryz.func107, Tryz.ntmps107
  go_wp2_with fail
  refine (HR.out _).mono ?_
  rintro q wA ⟨rfl, hbA⟩
  unfold bothRuns
  have kT := kT.belowS hbA
  have hlw := kT.lt
  go_wp2_with fail
  refine wp_loop_rounds 2 ?_
  rw [rounds_succ]
  go_wp2_with fail
  refine (HL.out _).mono ?_
  rintro q wB ⟨rfl, hbB⟩
  have kR := (Box.new wA 229 #[.int .i64 1, .int .i64 16, .func (Fn.func 177) #[] #[], .func (Fn.func 176) #[] #[]]).belowS hbB
  have kT := (kT.up _).belowS hbB
  go_upto_region 6 with (fail)
  have hbx : Below wB.heap.size wB wB.drew := (Below.refl _ _).drew
  have z0 : wB.cell? ⟨w.heap.size, 0, none⟩ = some (.int .i64 0) := kT.cellAt rfl
  have z1 : wB.cell? ⟨w.heap.size, 1, none⟩ = some (.string .empty) := kT.cellAt rfl
  have y0 : wB.frozen? ⟨w.heap.size, 0, none⟩ = false := kT.frozen 0
  have y1 : wB.frozen? ⟨w.heap.size, 1, none⟩ = false := kT.frozen 1
  have p0 : wB.drew.cell? ⟨w.heap.size, 0, none⟩ = some (.int .i64 0) := (kT.drew).cellAt rfl
  have p1 : wB.drew.cell? ⟨w.heap.size, 1, none⟩ = some (.string .empty) := (kT.drew).cellAt rfl
  have f0 : wB.drew.frozen? ⟨w.heap.size, 0, none⟩ = false := (kT.drew).frozen 0
  have f1 : wB.drew.frozen? ⟨w.heap.size, 1, none⟩ = false := (kT.drew).frozen 1
  have HS2 : Hid (∀ ww u0 u1, Below wB.heap.size wB ww → ((ww.setCell ⟨w.heap.size, 0, none⟩ u0).setCell ⟨w.heap.size, 1, none⟩ u1).cell? ⟨wA.heap.size, 0, none⟩ = some (.int .i64 1)) :=
    fun ww u0 u1 hb => (((kR.belowS hb).other (by simp; omega) u0).other (by simp; omega) u1).cellAt rfl
  go_region_held3 (fun ww => ww.cell? ⟨wA.heap.size, 0, none⟩ = some (.int .i64 1)) (first | (with_reducible exact (kR.belowS hbx).cellAt rfl) | (exact HS2.out wB _ _ (Below.refl _ _))) (fail)
  have kF := (kT.set 0 (.int .i64 1)).set 1 (.string (s.extract 0 n))
  have s0 := kF.drew.cellAt (i := 0) rfl
  have s1 := kF.drew.cellAt (i := 1) rfl
  have hb0 := ((Below.refl w.heap.size w).alloc (Nat.le_refl _) (.cells #[.int .i64 0, .string .empty] 202)).trans (hbA.mono (by simp))
  have HF := hide ((((hb0.alloc hb0.size (.cells #[.int .i64 1, .int .i64 16, .func (Fn.func 177) #[] #[], .func (Fn.func 176) #[] #[]] 229)).trans (hbB.mono (by simp; omega))).setCell (p := ⟨w.heap.size, 0, none⟩) (Nat.le_refl _) (.int .i64 1)).setCell (p := ⟨w.heap.size, 1, none⟩) (Nat.le_refl _) (.string (s.extract 0 n))).drew
  go_wp2_with fail
  exact bodyPost_ret (v := .tuple #[.agg #[.int .i64 1, .string (s.extract 0 n)], .int .i64 (n : Nat)]) (by simp [results, Tryz.results107, go_sem, s0, s1]) rfl ⟨rfl, HF.out⟩
set_option maxRecDepth 100000 in
theorem first_num (s : ByteArray) (c : UInt8) (r : List UInt8) (hs : s.data.toList = c :: r) (hz : s.size ≤ 1000) (hw : runLen letterB partB s.data.toList = 0) (n : Nat) (hn : runLen digitB digitB s.data.toList = n) (h1 : 1 ≤ n) (w : World) :
    Calls Tryz.prog 107 #[.string s] w fun q w' => q = .returned (.tuple #[.agg #[.int .i64 2, .string (s.extract 0 n)], .int .i64 (n : Nat)]) ∧ Below w.heap.size w w' := by
  have hle : n ≤ s.size := by rw [← hn, ← size_list]; exact runLen_le _ _ _
  have HW := hide (fun ww => wlen_any s c r hs hz ww)
  rw [hw] at HW
  have HL := hide (fun ww => dlen_any s c r hs hz ww)
  rw [hn] at HL
  have HR := hide runs_any
  have hx0 := idx_run0
  have hx1 := idx_run1
  clear hs hn hw
  have hp1 : (0 : Int) < (n : Int) := by omega
  have hp2 : (0 : Int) ≤ (n : Int) := by omega
  have hp3 : (n : Int) ≤ (s.size : Int) := by omega
  have kT := Box.new w 202 #[.int .i64 0, .string .empty]
  go_enter Tryz.func107, Tryz.ntmps107
  go_wp2_with fail
  refine (HR.out _).mono ?_
  rintro q wA ⟨rfl, hbA⟩
  unfold bothRuns
  have kT := kT.belowS hbA
  have hlw := kT.lt
  go_wp2_with fail
  refine wp_loop_rounds 2 ?_
  rw [rounds_succ]
  go_wp2_with fail
  refine (HW.out _).mono ?_
  rintro q wC ⟨rfl, hbC⟩
  have hb0 := (((Below.refl w.heap.size w).alloc (Nat.le_refl _) (.cells #[.int .i64 0, .string .empty] 202)).trans (hbA.mono (by simp)))
  have hbc := (hb0.alloc hb0.size (.cells #[.int .i64 1, .int .i64 16, .func (Fn.func 177) #[] #[], .func (Fn.func 176) #[] #[]] 229)).trans (hbC.mono (by simp; omega))
  have kT := (kT.up _).belowS hbC
  have hlC := kT.lt
  have HBC := hide hbc
  clear hb0 hbc hbA hbC
  go_wp2_with fail
  rw [rounds_succ]
  go_wp2_with fail
  refine (HL.out _).mono ?_
  rintro q wB ⟨rfl, hbB⟩
  have kR := (Box.new wC 229 #[.int .i64 2, .int .i64 19, .func (Fn.func 178) #[] #[], .func (Fn.func 178) #[] #[]]).belowS hbB
  have kT := (kT.up _).belowS hbB
  go_upto_region 6 with (fail)
  have hbx : Below wB.heap.size wB wB.drew := (Below.refl _ _).drew
  have z0 : wB.cell? ⟨w.heap.size, 0, none⟩ = some (.int .i64 0) := kT.cellAt rfl
  have z1 : wB.cell? ⟨w.heap.size, 1, none⟩ = some (.string .empty) := kT.cellAt rfl
  have y0 : wB.frozen? ⟨w.heap.size, 0, none⟩ = false := kT.frozen 0
  have y1 : wB.frozen? ⟨w.heap.size, 1, none⟩ = false := kT.frozen 1
  have p0 : wB.drew.cell? ⟨w.heap.size, 0, none⟩ = some (.int .i64 0) := (kT.drew).cellAt rfl
  have p1 : wB.drew.cell? ⟨w.heap.size, 1, none⟩ = some (.string .empty) := (kT.drew).cellAt rfl
  have f0 : wB.drew.frozen? ⟨w.heap.size, 0, none⟩ = false := (kT.drew).frozen 0
  have f1 : wB.drew.frozen? ⟨w.heap.size, 1, none⟩ = false := (kT.drew).frozen 1
  have HS2 : Hid (∀ ww u0 u1, Below wB.heap.size wB ww → ((ww.setCell ⟨w.heap.size, 0, none⟩ u0).setCell ⟨w.heap.size, 1, none⟩ u1).cell? ⟨wC.heap.size, 0, none⟩ = some (.int .i64 2)) :=
    fun ww u0 u1 hb => (((kR.belowS hb).other (by simp; omega) u0).other (by simp; omega) u1).cellAt rfl
  go_region_held3 (fun ww => ww.cell? ⟨wC.heap.size, 0, none⟩ = some (.int .i64 2)) (first | (with_reducible exact (kR.belowS hbx).cellAt rfl) | (exact HS2.out wB _ _ (Below.refl _ _))) (fail)
  have kF := (kT.set 0 (.int .i64 2)).set 1 (.string (s.extract 0 n))
  have s0 := kF.drew.cellAt (i := 0) rfl
  have s1 := kF.drew.cellAt (i := 1) rfl
  have HF := hide ((((HBC.out.alloc HBC.out.size (.cells #[.int .i64 2, .int .i64 19, .func (Fn.func 178) #[] #[], .func (Fn.func 178) #[] #[]] 229)).trans (hbB.mono (by simp; omega))).setCell (p := ⟨w.heap.size, 0, none⟩) (Nat.le_refl _) (.int .i64 2)).setCell (p := ⟨w.heap.size, 1, none⟩) (Nat.le_refl _) (.string (s.extract 0 n))).drew
  go_wp2_with fail
  exact bodyPost_ret (v := .tuple #[.agg #[.int .i64 2, .string (s.extract 0 n)], .int .i64 (n : Nat)]) (by simp [results, Tryz.results107, go_sem, s0, s1]) rfl ⟨rfl, HF.out⟩
set_option maxRecDepth 100000 in
theorem first_sign (s : ByteArray) (c : UInt8) (r : List UInt8) (hs : s.data.toList = c :: r) (hz : s.size ≤ 1000) (hw : runLen letterB partB s.data.toList = 0) (hn : runLen digitB digitB s.data.toList = 0) (hc : c.toNat ≠ 39) (w : World) :
    Calls Tryz.prog 107 #[.string s] w fun q w' => q = .returned (.tuple #[.agg #[.int .i64 4, .string (s.extract 0 1)], .int .i64 1]) ∧ Below w.heap.size w w' := by
  have hpos : 0 < s.size := by rw [← size_list, hs]; simp
  have h0 : s[0]'hpos = c := by
    have h1 : s.data.toList[0]? = some c := by rw [hs]; rfl
    have h2 : s.data.toList[0]? = some (s.data[0]'hpos) := by simp
    exact Option.some.inj (h2.symm.trans h1)
  have hq1 : ((((s[0]'hpos).toNat : Nat) : Int) == 39) = false := by rw [h0]; simp; omega
  have hq2 : ¬ (((s[0]'hpos).toNat : Nat) : Int) = 39 := by rw [h0]; omega
  have hq3 : ¬ (s[0]'hpos).toNat = 39 := by rw [h0]; omega
  have HW := hide (fun ww => wlen_any s c r hs hz ww)
  rw [hw] at HW
  have HL := hide (fun ww => dlen_any s c r hs hz ww)
  rw [hn] at HL
  have HR := hide runs_any
  have hx0 := idx_run0
  have hx1 := idx_run1
  clear hs hn hw
  have hp3 : (1 : Int) ≤ (s.size : Int) := by omega
  clear hc h0
  have kT := Box.new w 202 #[.int .i64 0, .string .empty]
  go_enter Tryz.func107, Tryz.ntmps107
  go_wp2_with fail
  refine (HR.out _).mono ?_
  rintro q wA ⟨rfl, hbA⟩
  unfold bothRuns
  have kT := kT.belowS hbA
  have hlw := kT.lt
  go_wp2_with fail
  refine wp_loop_rounds 3 ?_
  rw [rounds_succ]
  go_wp2_with fail
  refine (HW.out _).mono ?_
  rintro q wC ⟨rfl, hbC⟩
  have hb0 := (((Below.refl w.heap.size w).alloc (Nat.le_refl _) (.cells #[.int .i64 0, .string .empty] 202)).trans (hbA.mono (by simp)))
  have hbc := (hb0.alloc hb0.size (.cells #[.int .i64 1, .int .i64 16, .func (Fn.func 177) #[] #[], .func (Fn.func 176) #[] #[]] 229)).trans (hbC.mono (by simp; omega))
  have kT := (kT.up _).belowS hbC
  have hlC := kT.lt
  have HBC := hide hbc
  clear hb0 hbc hbA hbC
  go_wp2_with fail
  rw [rounds_succ]
  go_wp2_with fail
  refine (HL.out _).mono ?_
  rintro q wB ⟨rfl, hbB⟩
  have hb1 := (HBC.out.alloc HBC.out.size (.cells #[.int .i64 2, .int .i64 19, .func (Fn.func 178) #[] #[], .func (Fn.func 178) #[] #[]] 229)).trans (hbB.mono (by simp; omega))
  have kT := (kT.up _).belowS hbB
  have z0 : wB.cell? ⟨w.heap.size, 0, none⟩ = some (.int .i64 0) := kT.cellAt rfl
  have z1 : wB.cell? ⟨w.heap.size, 1, none⟩ = some (.string .empty) := kT.cellAt rfl
  have y0 : wB.frozen? ⟨w.heap.size, 0, none⟩ = false := kT.frozen 0
  have y1 : wB.frozen? ⟨w.heap.size, 1, none⟩ = false := kT.frozen 1
  have kF := (kT.set 0 (.int .i64 4)).set 1 (.string (s.extract 0 1))
  have s0 := kF.cellAt (i := 0) rfl
  have s1 := kF.cellAt (i := 1) rfl
  have HF := hide ((hb1.setCell (p := ⟨w.heap.size, 0, none⟩) (Nat.le_refl _) (.int .i64 4)).setCell (p := ⟨w.heap.size, 1, none⟩) (Nat.le_refl _) (.string (s.extract 0 1)))
  have S0 := hide s0
  have S1 := hide s1
  clear s0 s1 kF hb1 hbB
  go_wp2_with fail
  rw [rounds_succ]
  go_wp2_with fail
  have s0 := S0.out
  have s1 := S1.out
  exact bodyPost_ret (v := .tuple #[.agg #[.int .i64 4, .string (s.extract 0 1)], .int .i64 1]) (by simp [results, Tryz.results107, go_sem, s0, s1]) rfl ⟨rfl, HF.out⟩

end Go.Proofs.YtojincohnjophaaGreatDoor
