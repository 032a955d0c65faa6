/- Values at given texts: may, text, parse (seat c). -/
import Derived.Test.YtojincohnjophaaGreatDoorStE
import Derived.Test.YtojincohnjophaaGreatDoorExG
import Derived.Laws.ResultCell
import Derived.Laws.Rows
/-! Statements: may the parts of SELECT * FROM t WHERE k = 1 be (seat c). -/
namespace Go.Proofs.YtojincohnjophaaGreatDoor
open Go.RowKit
set_option linter.unusedVariables false

set_option maxRecDepth 100000 in
set_option maxHeartbeats 1600000 in
theorem none_eq (g : Nat) (w : World) : Calls Tryz.prog 227 #[.agg #[.string ⟨#[61]⟩, .int .i64 0, .int .i64 0, .string .empty, .string .empty, .slice (some ⟨g, 0, none⟩) 2 2]] w fun q w' => q = .returned (.bool false) ∧ Below w.heap.size w w' := by
  have HB := hide ((Below.refl w.heap.size w).alloc (Nat.le_refl _) (.cells #[.string ⟨#[61]⟩, .int .i64 0, .int .i64 0, .string .empty, .string .empty, .slice (some ⟨g, 0, none⟩) 2 2] 107))
  go_enter Tryz.func227, Tryz.ntmps227
  go_wp2_with fail
  go_ret
  exact ⟨rfl, HB.out⟩
set_option maxRecDepth 100000 in
set_option maxHeartbeats 1600000 in
theorem none_zero (w : World) : Calls Tryz.prog 227 #[.agg #[.string .empty, .int .i64 0, .int .i64 0, .string .empty, .string .empty, .slice none 0 0]] w fun q w' => q = .returned (.bool true) ∧ Below w.heap.size w w' := by
  have HB := hide ((Below.refl w.heap.size w).alloc (Nat.le_refl _) (.cells #[.string .empty, .int .i64 0, .int .i64 0, .string .empty, .string .empty, .slice none 0 0] 107))
  go_enter Tryz.func227, Tryz.ntmps227
  go_wp2_with fail
  go_ret
  exact ⟨rfl, HB.out⟩
set_option maxRecDepth 100000 in
set_option maxHeartbeats 1600000 in
theorem perhaps_eq (g : Nat) (w : World) (hG : Box w g 107 twoCells) : Calls Tryz.prog 192 #[.agg #[.string ⟨#[61]⟩, .int .i64 0, .int .i64 0, .string .empty, .string .empty, .slice (some ⟨g, 0, none⟩) 2 2]] w fun q w' => q = .returned (.bool true) ∧ Below w.heap.size w w' := by
  have HB := hide ((Below.refl w.heap.size w).alloc (Nat.le_refl _) (.cells #[.string ⟨#[61]⟩, .int .i64 0, .int .i64 0, .string .empty, .string .empty, .slice (some ⟨g, 0, none⟩) 2 2] 107))
  have kE := Box.new w 107 #[.string ⟨#[61]⟩, .int .i64 0, .int .i64 0, .string .empty, .string .empty, .slice (some ⟨g, 0, none⟩) 2 2]
  have kG := hG.up (.cells #[.string ⟨#[61]⟩, .int .i64 0, .int .i64 0, .string .empty, .string .empty, .slice (some ⟨g, 0, none⟩) 2 2] 107)
  clear hG
  go_enter Tryz.func192, Tryz.ntmps192
  go_wp2_with fail
  refine (none_eq g _).mono ?_
  rintro q w1 ⟨rfl, hb⟩
  have kE := kE.belowS hb
  have kG := kG.belowS hb
  have HB1 := hide (HB.out.trans (hb.mono (by simp)))
  have e0 : w1.cell? ⟨w.heap.size, 0, none⟩ = some (.string ⟨#[61]⟩) := kE.cellAt rfl
  have e1 : w1.cell? ⟨w.heap.size, 1, none⟩ = some (.int .i64 0) := kE.cellAt rfl
  have e2 : w1.cell? ⟨w.heap.size, 2, none⟩ = some (.int .i64 0) := kE.cellAt rfl
  have e3 : w1.cell? ⟨w.heap.size, 3, none⟩ = some (.string .empty) := kE.cellAt rfl
  have e4 : w1.cell? ⟨w.heap.size, 4, none⟩ = some (.string .empty) := kE.cellAt rfl
  have e5 : w1.cell? ⟨w.heap.size, 5, none⟩ = some (.slice (some ⟨g, 0, none⟩) 2 2) := kE.cellAt rfl
  have HM := hide (emay_eq g w1 kG)
  clear hb kE kG
  go_wp2_with fail
  refine HM.out.mono ?_
  rintro q w2 ⟨rfl, hb⟩
  have HB2 := hide (HB1.out.trans (hb.mono HB1.out.size))
  clear hb
  go_wp2_with fail
  go_ret
  exact ⟨rfl, HB2.out⟩
set_option maxRecDepth 100000 in
set_option maxHeartbeats 1600000 in
theorem empty_bare (w : World) : Calls Tryz.prog 194 #[.agg #[.string ⟨#[115, 101, 108, 101, 99, 116]⟩, .string .empty, .string .empty, .slice none 0 0, .slice none 0 0, .string .empty, .slice none 0 0, .slice none 0 0, .string .empty, .int .i64 0, .int .i64 0, .string .empty, .string .empty, .slice none 0 0, .slice none 0 0, .slice none 0 0, .string .empty, .int .i64 0, .int .i64 0, .string .empty, .string .empty, .slice none 0 0, .string .empty]] w fun q w' => q = .returned (.bool true) ∧ Below w.heap.size w w' := by
  have HB := hide ((Below.refl w.heap.size w).alloc (Nat.le_refl _) (.cells #[.string ⟨#[115, 101, 108, 101, 99, 116]⟩, .string .empty, .string .empty, .slice none 0 0, .slice none 0 0, .string .empty, .slice none 0 0, .slice none 0 0, .string .empty, .int .i64 0, .int .i64 0, .string .empty, .string .empty, .slice none 0 0, .slice none 0 0, .slice none 0 0, .string .empty, .int .i64 0, .int .i64 0, .string .empty, .string .empty, .slice none 0 0, .string .empty] 111))
  have kS := Box.new w 111 #[.string ⟨#[115, 101, 108, 101, 99, 116]⟩, .string .empty, .string .empty, .slice none 0 0, .slice none 0 0, .string .empty, .slice none 0 0, .slice none 0 0, .string .empty, .int .i64 0, .int .i64 0, .string .empty, .string .empty, .slice none 0 0, .slice none 0 0, .slice none 0 0, .string .empty, .int .i64 0, .int .i64 0, .string .empty, .string .empty, .slice none 0 0, .string .empty]
  have HN := hide none_zero
  go_enter Tryz.func194, Tryz.ntmps194
  go_wp2_with fail
  refine (HN.out _).mono ?_
  rintro q w1 ⟨rfl, hb⟩
  have kS := kS.belowS hb
  have HB1 := hide (HB.out.trans (hb.mono (by simp)))
  have e16 : w1.cell? ⟨w.heap.size, 16, none⟩ = some (.string .empty) := kS.cellAt rfl
  have e17 : w1.cell? ⟨w.heap.size, 17, none⟩ = some (.int .i64 0) := kS.cellAt rfl
  have e18 : w1.cell? ⟨w.heap.size, 18, none⟩ = some (.int .i64 0) := kS.cellAt rfl
  have e19 : w1.cell? ⟨w.heap.size, 19, none⟩ = some (.string .empty) := kS.cellAt rfl
  have e20 : w1.cell? ⟨w.heap.size, 20, none⟩ = some (.string .empty) := kS.cellAt rfl
  have e21 : w1.cell? ⟨w.heap.size, 21, none⟩ = some (.slice none 0 0) := kS.cellAt rfl
  clear hb kS
  go_wp2_with fail
  refine (HN.out _).mono ?_
  rintro q w2 ⟨rfl, hb⟩
  have HB2 := hide (HB1.out.trans (hb.mono HB1.out.size))
  clear hb
  go_wp2_with fail
  go_ret
  exact ⟨rfl, HB2.out⟩
/-- A whole statement is loaded. -/
theorem wp_loadS {w : World} {ops : Array Oper} {rest : List Oper} {o : Oper} {a : Act} {Q : Exit → Act → World → Prop} (hgd : o.guard = none) (x : Operand)
    (ho : o.op = .load 111 x) {m : Nat} {cs : Array Value} (h : Box w m 111 cs) (hx : a.eval x = .pointer (some ⟨m, 0, none⟩)) (hc : cs.size = 23)
    (hq : wpList Tryz.prog ops Q rest (a.put o.dst (.agg cs)) w) : wpList Tryz.prog ops Q (o :: rest) a w := by
  refine wpList_plain hgd fun K hK => ?_
  have hl := run_loadVar_row w m 111 111 cs (0, 0) _ h Tryz.underlying111 rfl (by rw [hc]; kernel_rfl)
  have hr : (execOp a.eval o).run Tryz.prog w = .ok (.value (.agg cs)) w := by
    unfold execOp
    rw [ho]
    simp [hx, Instr.loadAt, Instr.sureAddr, hl, Result.andThen]
  unfold Oper.wp
  rw [hr]
  exact hK _ _ hq
/-- A whole statement is loaded, behind a guard. -/
theorem wp_loadSG {w : World} {ops : Array Oper} {rest : List Oper} {o : Oper} {a : Act} {Q : Exit → Act → World → Prop} (x : Operand)
    (ho : o.op = .load 111 x) {m : Nat} {cs : Array Value} (h : Box w m 111 cs) (hx : a.eval x = .pointer (some ⟨m, 0, none⟩)) (hc : cs.size = 23) (hw : Region.wanted o (yielded ops a.tmps) = true)
    (hq : wpList Tryz.prog ops Q rest (a.put o.dst (.agg cs)) w) : wpList Tryz.prog ops Q (o :: rest) a w := by
  refine wpList_step fun K hK => ?_
  rw [if_pos hw]
  have hl := run_loadVar_row w m 111 111 cs (0, 0) _ h Tryz.underlying111 rfl (by rw [hc]; kernel_rfl)
  have hr : (execOp a.eval o).run Tryz.prog w = .ok (.value (.agg cs)) w := by
    unfold execOp
    rw [ho]
    simp [hx, Instr.loadAt, Instr.sureAddr, hl, Result.andThen]
  unfold Oper.wp
  rw [hr]
  exact hK _ _ hq
/-- A whole statement is stored. -/
theorem wp_storeS {w : World} {ops : Array Oper} {rest : List Oper} {o : Oper} {a : Act} {Q : Exit → Act → World → Prop} (hgd : o.guard = none) (x y : Operand)
    (ho : o.op = .store 111 x y) {m : Nat} {old cs : Array Value} (h : Box w m 111 old) (hx : a.eval x = .pointer (some ⟨m, 0, none⟩)) (hy : a.eval y = .agg cs) (h0 : old.size = 23) (hc : cs.size = 23) (h1 : cs.all (·.oneCell') = true)
    (hq : ∀ w', Box w' m 111 cs → Exc m w w' → wpList Tryz.prog ops Q rest (a.put o.dst undef) w') : wpList Tryz.prog ops Q (o :: rest) a w := by
  refine wpList_plain hgd fun K hK => ?_
  have hl := run_storeVar_row w m 111 111 old cs h (by rw [hc]; kernel_rfl) (by rw [h0, hc]) h1 (P := Tryz.prog)
  have hr : (execOp a.eval o).run Tryz.prog w = .ok .skip (w.setRow m cs) := by
    unfold execOp
    rw [ho]
    simp [hx, hy, Instr.storeAt, Instr.sureAddr, hl, Result.andThen]
  unfold Oper.wp
  rw [hr]
  have hlt := h.lt
  have hv : w.heap[m] = .cells old 111 (0, 0) := (Array.getElem?_eq_some_iff.1 h).2
  refine hK _ _ (hq _ ?_ ⟨rfl, rfl, rfl, by simp [World.setRow], fun k hk hne => ?_⟩)
  · unfold Box World.setRow
    show (w.heap.modify m _)[m]? = _
    have h2 : w.heap[m]? = some (.cells old 111 (0, 0)) := h
    rw [Array.getElem?_modify, if_pos rfl, h2]
    rfl
  · show (w.heap.modify m _)[k]? = _
    rw [Array.getElem?_modify, if_neg (fun e => hne e.symm)]
set_option maxRecDepth 100000 in
set_option maxHeartbeats 1600000 in
theorem parts_8 (g : Nat) (w : World) (hG : Box w g 107 twoCells) : Calls Tryz.prog 160 #[.agg #[.string ⟨#[115, 101, 108, 101, 99, 116]⟩, .string ⟨#[116]⟩, .string .empty, .slice none 0 0, .slice none 0 0, .string .empty, .slice none 0 0, .slice none 0 0, .string .empty, .int .i64 0, .int .i64 0, .string .empty, .string .empty, .slice none 0 0, .slice none 0 0, .slice none 0 0, .string ⟨#[61]⟩, .int .i64 0, .int .i64 0, .string .empty, .string .empty, .slice (some ⟨g, 0, none⟩) 2 2, .string .empty]] w fun q w' => q = .returned (.bool true) ∧ Below w.heap.size w w' := by
  have HN := hide sname_t
  have HP := hide (fun ww hh => perhaps_eq g ww hh)
  have HE := hide empty_bare
  have hB0 := ((Below.refl w.heap.size w).alloc (Nat.le_refl _) (.cells #[.string ⟨#[115, 101, 108, 101, 99, 116]⟩, .string ⟨#[116]⟩, .string .empty, .slice none 0 0, .slice none 0 0, .string .empty, .slice none 0 0, .slice none 0 0, .string .empty, .int .i64 0, .int .i64 0, .string .empty, .string .empty, .slice none 0 0, .slice none 0 0, .slice none 0 0, .string ⟨#[61]⟩, .int .i64 0, .int .i64 0, .string .empty, .string .empty, .slice (some ⟨g, 0, none⟩) 2 2, .string .empty] 111)).alloc (by simp) (.cells #[.string ⟨#[]⟩, .string ⟨#[]⟩, .string ⟨#[]⟩, .slice none 0 0, .slice none 0 0, .string ⟨#[]⟩, .slice none 0 0, .slice none 0 0, .string ⟨#[]⟩, .int .i64 0, .int .i64 0, .string ⟨#[]⟩, .string ⟨#[]⟩, .slice none 0 0, .slice none 0 0, .slice none 0 0, .string ⟨#[]⟩, .int .i64 0, .int .i64 0, .string ⟨#[]⟩, .string ⟨#[]⟩, .slice none 0 0, .string ⟨#[]⟩] 111)
  have kS0 := Box.new w 111 #[.string ⟨#[115, 101, 108, 101, 99, 116]⟩, .string ⟨#[116]⟩, .string .empty, .slice none 0 0, .slice none 0 0, .string .empty, .slice none 0 0, .slice none 0 0, .string .empty, .int .i64 0, .int .i64 0, .string .empty, .string .empty, .slice none 0 0, .slice none 0 0, .slice none 0 0, .string ⟨#[61]⟩, .int .i64 0, .int .i64 0, .string .empty, .string .empty, .slice (some ⟨g, 0, none⟩) 2 2, .string .empty]
  have kS := kS0.up (.cells #[.string ⟨#[]⟩, .string ⟨#[]⟩, .string ⟨#[]⟩, .slice none 0 0, .slice none 0 0, .string ⟨#[]⟩, .slice none 0 0, .slice none 0 0, .string ⟨#[]⟩, .int .i64 0, .int .i64 0, .string ⟨#[]⟩, .string ⟨#[]⟩, .slice none 0 0, .slice none 0 0, .slice none 0 0, .string ⟨#[]⟩, .int .i64 0, .int .i64 0, .string ⟨#[]⟩, .string ⟨#[]⟩, .slice none 0 0, .string ⟨#[]⟩] 111)
  have kR := Box.new (w.alloc (.cells #[.string ⟨#[115, 101, 108, 101, 99, 116]⟩, .string ⟨#[116]⟩, .string .empty, .slice none 0 0, .slice none 0 0, .string .empty, .slice none 0 0, .slice none 0 0, .string .empty, .int .i64 0, .int .i64 0, .string .empty, .string .empty, .slice none 0 0, .slice none 0 0, .slice none 0 0, .string ⟨#[61]⟩, .int .i64 0, .int .i64 0, .string .empty, .string .empty, .slice (some ⟨g, 0, none⟩) 2 2, .string .empty] 111)) 111 #[.string ⟨#[]⟩, .string ⟨#[]⟩, .string ⟨#[]⟩, .slice none 0 0, .slice none 0 0, .string ⟨#[]⟩, .slice none 0 0, .slice none 0 0, .string ⟨#[]⟩, .int .i64 0, .int .i64 0, .string ⟨#[]⟩, .string ⟨#[]⟩, .slice none 0 0, .slice none 0 0, .slice none 0 0, .string ⟨#[]⟩, .int .i64 0, .int .i64 0, .string ⟨#[]⟩, .string ⟨#[]⟩, .slice none 0 0, .string ⟨#[]⟩]
  simp only [World.size_alloc] at kR
  have kG := (hG.up (.cells #[.string ⟨#[115, 101, 108, 101, 99, 116]⟩, .string ⟨#[116]⟩, .string .empty, .slice none 0 0, .slice none 0 0, .string .empty, .slice none 0 0, .slice none 0 0, .string .empty, .int .i64 0, .int .i64 0, .string .empty, .string .empty, .slice none 0 0, .slice none 0 0, .slice none 0 0, .string ⟨#[61]⟩, .int .i64 0, .int .i64 0, .string .empty, .string .empty, .slice (some ⟨g, 0, none⟩) 2 2, .string .empty] 111)).up (.cells #[.string ⟨#[]⟩, .string ⟨#[]⟩, .string ⟨#[]⟩, .slice none 0 0, .slice none 0 0, .string ⟨#[]⟩, .slice none 0 0, .slice none 0 0, .string ⟨#[]⟩, .int .i64 0, .int .i64 0, .string ⟨#[]⟩, .string ⟨#[]⟩, .slice none 0 0, .slice none 0 0, .slice none 0 0, .string ⟨#[]⟩, .int .i64 0, .int .i64 0, .string ⟨#[]⟩, .string ⟨#[]⟩, .slice none 0 0, .string ⟨#[]⟩] 111)
  have hgl := hG.lt
  clear hG
  go_enter Tryz.func160, Tryz.ntmps160
  go_upto_region 2 with (first
    | (with_reducible refine wp_loadS rfl (.tmp 1) rfl kS0 rfl (by kernel_rfl) ?_)
    | (with_reducible refine wp_storeS rfl (.tmp 3) (.tmp 6) rfl kR rfl rfl (by kernel_rfl) (by kernel_rfl) (by kernel_rfl) ?_; intro wA kA hxA))
  have kS := kS.exc hxA (by omega)
  have kG := kG.exc hxA (by omega)
  have hB1 := hB0.trans (hxA.bel (by omega) (by simp; omega))
  have p1 : wA.cell? ⟨w.heap.size + 1, 1, none⟩ = some (.string ⟨#[116]⟩) := kA.cellAt rfl
  have f1 := kA.frozen 1
  have kR := kA.set 1 (.string .empty)
  have kS := kS.other (a := ⟨w.heap.size + 1, 1, none⟩) (by simp) (.string .empty)
  have kG := kG.other (a := ⟨w.heap.size + 1, 1, none⟩) (by simp; omega) (.string .empty)
  have hB2 := hB1.setCell (p := ⟨w.heap.size + 1, 1, none⟩) (by simp) (.string .empty)
  clear kA kS0 hB0 hB1 hxA
  go_upto_region 3 with (fail)
  obtain ⟨wB, hwB⟩ : ∃ x, x = wA.setCell ⟨w.heap.size + 1, 1, none⟩ (.string .empty) := ⟨_, rfl⟩
  rw [← hwB] at kR kS kG hB2
  have hwB' : wA.setCell ⟨w.heap.size + 1, 1, none⟩ (.string ⟨#[]⟩) = wB := hwB.symm
  rw [hwB']
  have kR : Box wB (w.heap.size + 1) 111 #[.string ⟨#[115, 101, 108, 101, 99, 116]⟩, .string .empty, .string .empty, .slice none 0 0, .slice none 0 0, .string .empty, .slice none 0 0, .slice none 0 0, .string .empty, .int .i64 0, .int .i64 0, .string .empty, .string .empty, .slice none 0 0, .slice none 0 0, .slice none 0 0, .string ⟨#[61]⟩, .int .i64 0, .int .i64 0, .string .empty, .string .empty, .slice (some ⟨g, 0, none⟩) 2 2, .string .empty] := kR
  have e1 : wB.cell? ⟨w.heap.size, 1, none⟩ = some (.string ⟨#[116]⟩) := kS.cellAt rfl
  have HB := hide hB2
  clear hwB hwB' p1 f1 hB2
  go_wp2_with fail
  refine (HN.out _).mono ?_
  rintro q w1 ⟨rfl, hb⟩
  have kS := kS.belowS hb
  have kR := kR.belowS hb
  have kG := kG.belowS hb
  have HB1 := hide (HB.out.trans (hb.mono HB.out.size))
  have e0 : w1.cell? ⟨w.heap.size, 0, none⟩ = some (.string ⟨#[115, 101, 108, 101, 99, 116]⟩) := kS.cellAt rfl
  have e16 : w1.cell? ⟨w.heap.size, 16, none⟩ = some (.string ⟨#[61]⟩) := kS.cellAt rfl
  have e17 : w1.cell? ⟨w.heap.size, 17, none⟩ = some (.int .i64 0) := kS.cellAt rfl
  have e18 : w1.cell? ⟨w.heap.size, 18, none⟩ = some (.int .i64 0) := kS.cellAt rfl
  have e19 : w1.cell? ⟨w.heap.size, 19, none⟩ = some (.string .empty) := kS.cellAt rfl
  have e20 : w1.cell? ⟨w.heap.size, 20, none⟩ = some (.string .empty) := kS.cellAt rfl
  have e21 : w1.cell? ⟨w.heap.size, 21, none⟩ = some (.slice (some ⟨g, 0, none⟩) 2 2) := kS.cellAt rfl
  clear hb kS
  go_wp2_with fail
  refine (HP.out _ kG).mono ?_
  rintro q w2 ⟨rfl, hb⟩
  have kR := kR.belowS hb
  have HB2 := hide (HB1.out.trans (hb.mono HB1.out.size))
  have p16 : w2.cell? ⟨w.heap.size + 1, 16, none⟩ = some (.string ⟨#[61]⟩) := kR.cellAt rfl
  have f16 := kR.frozen 16
  have p17 : w2.cell? ⟨w.heap.size + 1, 17, none⟩ = some (.int .i64 0) := kR.cellAt rfl
  have f17 := kR.frozen 17
  have p18 : w2.cell? ⟨w.heap.size + 1, 18, none⟩ = some (.int .i64 0) := kR.cellAt rfl
  have f18 := kR.frozen 18
  have p19 : w2.cell? ⟨w.heap.size + 1, 19, none⟩ = some (.string .empty) := kR.cellAt rfl
  have f19 := kR.frozen 19
  have p20 : w2.cell? ⟨w.heap.size + 1, 20, none⟩ = some (.string .empty) := kR.cellAt rfl
  have f20 := kR.frozen 20
  have p21 : w2.cell? ⟨w.heap.size + 1, 21, none⟩ = some (.slice (some ⟨g, 0, none⟩) 2 2) := kR.cellAt rfl
  have f21 := kR.frozen 21
  have kF : Box ((((((w2.setCell ⟨w.heap.size + 1, 16, none⟩ (.string ⟨#[]⟩)).setCell ⟨w.heap.size + 1, 17, none⟩ (.int .i64 0)).setCell ⟨w.heap.size + 1, 18, none⟩ (.int .i64 0)).setCell ⟨w.heap.size + 1, 19, none⟩ (.string ⟨#[]⟩)).setCell ⟨w.heap.size + 1, 20, none⟩ (.string ⟨#[]⟩)).setCell ⟨w.heap.size + 1, 21, none⟩ (.slice none 0 0)) (w.heap.size + 1) 111 #[.string ⟨#[115, 101, 108, 101, 99, 116]⟩, .string .empty, .string .empty, .slice none 0 0, .slice none 0 0, .string .empty, .slice none 0 0, .slice none 0 0, .string .empty, .int .i64 0, .int .i64 0, .string .empty, .string .empty, .slice none 0 0, .slice none 0 0, .slice none 0 0, .string .empty, .int .i64 0, .int .i64 0, .string .empty, .string .empty, .slice none 0 0, .string .empty] := ((((((kR.set 16 (.string .empty)).set 17 (.int .i64 0)).set 18 (.int .i64 0)).set 19 (.string .empty)).set 20 (.string .empty)).set 21 (.slice none 0 0))
  have HB3 : Hid (Below w.heap.size w ((((((w2.setCell ⟨w.heap.size + 1, 16, none⟩ (.string ⟨#[]⟩)).setCell ⟨w.heap.size + 1, 17, none⟩ (.int .i64 0)).setCell ⟨w.heap.size + 1, 18, none⟩ (.int .i64 0)).setCell ⟨w.heap.size + 1, 19, none⟩ (.string ⟨#[]⟩)).setCell ⟨w.heap.size + 1, 20, none⟩ (.string ⟨#[]⟩)).setCell ⟨w.heap.size + 1, 21, none⟩ (.slice none 0 0))) := hide ((((((HB2.out.setCell (p := ⟨w.heap.size + 1, 16, none⟩) (by simp) (.string .empty)).setCell (p := ⟨w.heap.size + 1, 17, none⟩) (by simp) (.int .i64 0)).setCell (p := ⟨w.heap.size + 1, 18, none⟩) (by simp) (.int .i64 0)).setCell (p := ⟨w.heap.size + 1, 19, none⟩) (by simp) (.string .empty)).setCell (p := ⟨w.heap.size + 1, 20, none⟩) (by simp) (.string .empty)).setCell (p := ⟨w.heap.size + 1, 21, none⟩) (by simp) (.slice none 0 0))
  have hW : ∃ x, x = ((((((w2.setCell ⟨w.heap.size + 1, 16, none⟩ (.string ⟨#[]⟩)).setCell ⟨w.heap.size + 1, 17, none⟩ (.int .i64 0)).setCell ⟨w.heap.size + 1, 18, none⟩ (.int .i64 0)).setCell ⟨w.heap.size + 1, 19, none⟩ (.string ⟨#[]⟩)).setCell ⟨w.heap.size + 1, 20, none⟩ (.string ⟨#[]⟩)).setCell ⟨w.heap.size + 1, 21, none⟩ (.slice none 0 0)) := ⟨_, rfl⟩
  obtain ⟨w3, hw3⟩ := hW
  rw [← hw3] at kF HB3
  have HW3 := hide hw3
  clear hb kR kG hw3
  go_upto_region 36 with (fail)
  rw [← HW3.out]
  clear HW3
  go_wp2_with ((with_reducible refine wp_loadSG (.tmp 3) rfl kF rfl (by kernel_rfl) ?_ ?_); (· simp [Region.wanted, yielded]))
  refine (HE.out _).mono ?_
  rintro q w4 ⟨rfl, hb⟩
  have HB4 := hide (HB3.out.trans (hb.mono HB3.out.size))
  clear hb
  go_wp2_with fail
  go_ret
  exact ⟨rfl, HB4.out⟩
end Go.Proofs.YtojincohnjophaaGreatDoor

/-! Values at given texts: may, text, parse (seat c). -/
namespace Go.Proofs.YtojincohnjophaaGreatDoor
open Go.RowKit
set_option linter.unusedVariables false

def oddB (c : Nat) : Bool := decide (c < 32) || decide (126 < c)
set_option maxRecDepth 100000 in
theorem odd_any (c : Nat) (w : World) : Calls Tryz.prog 133 #[.int .i32 (c : Nat)] w fun q w' => q = .returned (.bool (oddB c)) ∧ w = w' := by
  by_cases h1 : c < 32
  · have e : oddB c = true := by simp [oddB, h1]
    have a1 : (c : Int) < 32 := by omega
    go_enter Tryz.func133, Tryz.ntmps133
    go_wp2_with fail
    go_ret
    exact ⟨by first | rfl | (rw [e]; rfl), rfl⟩
  · have a1 : ¬ (c : Int) < 32 := by omega
    by_cases h2 : 126 < c
    · have e : oddB c = true := by simp [oddB, h2]
      have a2 : (126 : Int) < (c : Int) := by omega
      go_enter Tryz.func133, Tryz.ntmps133
      go_wp2_with fail
      go_ret
      exact ⟨by first | rfl | (rw [e]; rfl), rfl⟩
    · have e : oddB c = false := by simp [oddB, h1, h2]
      have a2 : ¬ (126 : Int) < (c : Int) := by omega
      go_enter Tryz.func133, Tryz.ntmps133
      go_wp2_with fail
      go_ret
      exact ⟨by first | rfl | (rw [e]; rfl), rfl⟩
theorem none_odd (w : World) : Calls Tryz.prog 134 #[.string ⟨#[105, 116, 39, 115]⟩, .func (.func 133) #[] #[]] w fun q w' => q = .returned (.int .i64 (-1)) ∧ Below w.heap.size w w' := by
  have h := Tryz.strings_IndexFunc_grows 133 #[] (enters_of Tryz.func133 (by kernel_rfl) rfl) oddB ⟨#[105, 116, 39, 115]⟩ w (fun W x hx hb => (odd_any x W).mono fun e w' ⟨a, b⟩ => ⟨a, b ▸ Below.refl _ _⟩)
  have e : Lib.idxFunc oddB true ⟨#[105, 116, 39, 115]⟩ = -1 := by decide
  rw [e] at h
  exact h
set_option maxRecDepth 100000 in
theorem vmay_its (w : World) : Calls Tryz.prog 104 #[.agg #[.int .i64 2, .int .i64 0, .string ⟨#[105, 116, 39, 115]⟩]] w fun q w' => q = .returned (.bool true) ∧ Below w.heap.size w w' := by
  have HB := hide ((Below.refl w.heap.size w).alloc (Nat.le_refl _) (.cells #[.int .i64 2, .int .i64 0, .string ⟨#[105, 116, 39, 115]⟩] 100))
  have HN := hide none_odd
  go_enter Tryz.func104, Tryz.ntmps104
  go_wp2_with fail
  refine (HN.out _).mono ?_
  rintro q w1 ⟨rfl, hb⟩
  have HB2 := hide (HB.out.trans (hb.mono (by simp)))
  clear hb
  go_wp2_with fail
  go_ret
  exact ⟨rfl, HB2.out⟩
set_option maxRecDepth 100000 in
theorem vtext_one (w : World) : Calls Tryz.prog 74 #[.agg #[.int .i64 1, .int .i64 1, .string .empty]] w fun q w' => q = .returned (.string ⟨#[49]⟩) ∧ Below w.heap.size w w' := by
  have HB := hide ((Below.refl w.heap.size w).alloc (Nat.le_refl _) (.cells #[.int .i64 1, .int .i64 1, .string .empty] 100))
  have kV := Box.new w 100 #[.int .i64 1, .int .i64 1, .string .empty]
  have HM := hide vmay_one
  have HF : Hid (∀ ww, Calls Tryz.prog 105 #[.int .i64 1, .int .i64 10] ww fun e w' => e = .returned (.string ⟨#[49]⟩) ∧ w' = ww) := by
    intro ww
    have h := Tryz.strconv_FormatInt_10_small 1 (by decide) ww
    rw [show Lib.decDigits 1 = [49] by rw [Lib.decDigits]; rfl] at h
    exact h
  go_enter Tryz.func74, Tryz.ntmps74
  go_wp2_with fail
  refine (HM.out _).mono ?_
  rintro q w1 ⟨rfl, hb⟩
  have kV := kV.belowS hb
  have HB2 := hide (HB.out.trans (hb.mono (by simp)))
  have e0 := kV.cellAt (i := 0) rfl
  have e1 := kV.cellAt (i := 1) rfl
  have e2 := kV.cellAt (i := 2) rfl
  clear hb
  go_wp2_with fail
  refine (HF.out _).mono ?_
  rintro q w2 ⟨rfl, rfl⟩
  go_wp2_with fail
  go_ret
  exact ⟨rfl, HB2.out⟩
set_option maxRecDepth 100000 in
theorem vtext_its (m : Int) (w : World) (hm : w.cell? ⟨0, 0, none⟩ = some (.int .i64 m)) : Calls Tryz.prog 74 #[.agg #[.int .i64 2, .int .i64 0, .string ⟨#[105, 116, 39, 115]⟩]] w fun q w' => q = .returned (.string ⟨#[39, 105, 116, 39, 39, 115, 39]⟩) ∧ Below w.heap.size w w' := by
  have HB := hide ((Below.refl w.heap.size w).alloc (Nat.le_refl _) (.cells #[.int .i64 2, .int .i64 0, .string ⟨#[105, 116, 39, 115]⟩] 100))
  have kV := Box.new w 100 #[.int .i64 2, .int .i64 0, .string ⟨#[105, 116, 39, 115]⟩]
  have HM := hide vmay_its
  have er : Lib.replaceAll [105, 116, 39, 115] [39] [39, 39] = [105, 116, 39, 39, 115] := by decide
  have HR : Hid (∀ ww, ww.cell? ⟨0, 0, none⟩ = some (.int .i64 m) → Calls Tryz.prog 72 #[.string ⟨#[105, 116, 39, 115]⟩, .string ⟨#[39]⟩, .string ⟨#[39, 39]⟩] ww fun e w' => e = .returned (.string ⟨#[105, 116, 39, 39, 115]⟩) ∧ Below ww.heap.size ww w') := by
    intro ww hw
    have h := Tryz.strings_ReplaceAll ⟨#[105, 116, 39, 115]⟩ ⟨#[39]⟩ ⟨#[39, 39]⟩ m ww (by decide) hw (by decide) (by decide)
    simp only [er] at h
    exact h
  have HMx := hide hm
  have hlt := World.block_lt_of_cell? _ _ hm
  clear hm er
  go_enter Tryz.func74, Tryz.ntmps74
  go_wp2_with fail
  refine (HM.out _).mono ?_
  rintro q w1 ⟨rfl, hb⟩
  have kV := kV.belowS hb
  have HB2 := hide (HB.out.trans (hb.mono (by simp)))
  have e0 := kV.cellAt (i := 0) rfl
  have e1 := kV.cellAt (i := 1) rfl
  have e2 := kV.cellAt (i := 2) rfl
  clear hb
  go_wp2_with fail
  refine (HR.out _ ((HB2.out.cell hlt).trans HMx.out)).mono ?_
  rintro q w2 ⟨rfl, hb⟩
  have HB3 := hide (HB2.out.trans (hb.mono HB2.out.size))
  clear hb
  go_wp2_with fail
  go_ret
  exact ⟨rfl, HB3.out⟩
/-- A value that is laid in a cell of its own, and a temporary: what a function returns. -/
theorem res_val {fn : Func} {p u : Tmp} (h : fn.results = #[.cell p 100, .tmp u]) (tmps : Array Value) (w : World) (g : Nat) (cs : Array Value) (hc : cs.size = 3)
    (hp : tmps.getD p undef = .pointer (some ⟨g, 0, none⟩)) (hB : Box w g 100 cs) : (results fn tmps).run Tryz.prog w = .ok (.tuple #[.agg cs, tmps.getD u undef]) w := by
  rw [results_cell_tmp h, hp]
  have hl := run_loadVar_row w g 100 100 cs (0, 0) _ hB Tryz.underlying100 rfl (by rw [hc]; kernel_rfl)
  simp [asAddr, hl, Result.andThen]
set_option maxRecDepth 100000 in
theorem vparse_its (m : Int) (w : World) (hm : w.cell? ⟨0, 0, none⟩ = some (.int .i64 m)) : Calls Tryz.prog 39 #[.string ⟨#[39, 105, 116, 39, 39, 115, 39]⟩] w fun q w' => q = .returned (.tuple #[.agg #[.int .i64 2, .int .i64 0, .string ⟨#[105, 116, 39, 115]⟩], .int .i64 0]) ∧ Below w.heap.size w w' := by
  have HMx := hide hm
  have hlt := World.block_lt_of_cell? _ _ hm
  have HR : Hid (∀ ww, ww.cell? ⟨0, 0, none⟩ = some (.int .i64 m) → Calls Tryz.prog 72 #[.string ⟨#[105, 116, 39, 39, 115]⟩, .string ⟨#[39, 39]⟩, .string ⟨#[39]⟩] ww fun e w' => e = .returned (.string ⟨#[105, 116, 39, 115]⟩) ∧ Below ww.heap.size ww w') := by
    intro ww hw
    have h := Tryz.strings_ReplaceAll ⟨#[105, 116, 39, 39, 115]⟩ ⟨#[39, 39]⟩ ⟨#[39]⟩ m ww (by decide) hw (by decide) (by decide)
    have er : Lib.replaceAll [105, 116, 39, 39, 115] [39, 39] [39] = [105, 116, 39, 115] := by decide
    simp only [er] at h
    exact h
  have HT := hide (fun ww hw => vtext_its m ww hw)
  clear hm
  go_enter Tryz.func39, Tryz.ntmps39
  go_wp2_with fail
  have kR := (Box.new w 100 #[.int .i64 0, .int .i64 0, .string .empty]).up (.cells #[.int .i64 0, .int .i64 0, .string .empty] 100)
  have kV := Box.new (w.alloc (.cells #[.int .i64 0, .int .i64 0, .string .empty] 100)) 100 #[.int .i64 0, .int .i64 0, .string .empty]
  have HB := hide (((Below.refl w.heap.size w).alloc (Nat.le_refl _) (.cells #[.int .i64 0, .int .i64 0, .string .empty] 100)).alloc (by simp) (.cells #[.int .i64 0, .int .i64 0, .string .empty] 100))
  refine (HR.out _ ((HB.out.cell hlt).trans HMx.out)).mono ?_
  rintro q w1 ⟨rfl, hb⟩
  have kR := kR.belowS hb
  have kV := kV.belowS hb
  have hs1 := kV.lt
  simp only [World.size_alloc] at kV hs1
  have HB2 := hide (HB.out.trans (hb.mono (by simp; omega)))
  have p0 := kV.cellAt (i := 0) rfl
  have p1 := kV.cellAt (i := 1) rfl
  have p2 := kV.cellAt (i := 2) rfl
  have f0 := kV.frozen 0
  have f1 := kV.frozen 1
  have f2 := kV.frozen 2
  have HB3 := hide (((HB2.out.setCell (p := ⟨w.heap.size + 1, 0, none⟩) (by simp) (.int .i64 2)).setCell (p := ⟨w.heap.size + 1, 1, none⟩) (by simp) (.int .i64 0)).setCell (p := ⟨w.heap.size + 1, 2, none⟩) (by simp) (.string ⟨#[105, 116, 39, 115]⟩))
  have kV := ((kV.set 0 (.int .i64 2)).set 1 (.int .i64 0)).set 2 (.string ⟨#[105, 116, 39, 115]⟩)
  have kR := ((kR.other (a := ⟨w.heap.size + 1, 0, none⟩) (by simp) (.int .i64 2)).other (a := ⟨w.heap.size + 1, 1, none⟩) (by simp) (.int .i64 0)).other (a := ⟨w.heap.size + 1, 2, none⟩) (by simp) (.string ⟨#[105, 116, 39, 115]⟩)
  clear hb
  go_wp2_with fail
  refine (HT.out _ ((HB3.out.cell hlt).trans HMx.out)).mono ?_
  rintro q w2 ⟨rfl, hb⟩
  have hs2 := hb.size
  have kR := kR.belowS hb
  have kV := kV.belowS hb
  have HB4 := hide (HB3.out.trans (hb.mono (by simp [World.setCell]; omega)))
  have e0 := kV.cellAt (i := 0) rfl
  have e1 := kV.cellAt (i := 1) rfl
  have e2 := kV.cellAt (i := 2) rfl
  have p0 := kR.cellAt (i := 0) rfl
  have p1 := kR.cellAt (i := 1) rfl
  have p2 := kR.cellAt (i := 2) rfl
  have f0 := kR.frozen 0
  have f1 := kR.frozen 1
  have f2 := kR.frozen 2
  have HKR := hide (((kR.set 0 (.int .i64 2)).set 1 (.int .i64 0)).set 2 (.string ⟨#[105, 116, 39, 115]⟩))
  have HB5 := hide (((HB4.out.setCell (p := ⟨w.heap.size, 0, none⟩) (by simp) (.int .i64 2)).setCell (p := ⟨w.heap.size, 1, none⟩) (by simp) (.int .i64 0)).setCell (p := ⟨w.heap.size, 2, none⟩) (by simp) (.string ⟨#[105, 116, 39, 115]⟩))
  clear hb kR
  go_wp2_with fail
  refine bodyPost_ret (v := .tuple #[.agg #[.int .i64 2, .int .i64 0, .string ⟨#[105, 116, 39, 115]⟩], .int .i64 0]) ?_ rfl ⟨rfl, HB5.out⟩
  exact res_val (p := 2) (u := 3) rfl _ _ w.heap.size #[.int .i64 2, .int .i64 0, .string ⟨#[105, 116, 39, 115]⟩] rfl rfl HKR.out
end Go.Proofs.YtojincohnjophaaGreatDoor
