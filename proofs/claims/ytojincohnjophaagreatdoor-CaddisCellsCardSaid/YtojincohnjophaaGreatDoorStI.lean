/- Statements: Parse of SELECT * FROM t WHERE k = 1, worksFirst (seat c). -/
import Derived.Test.YtojincohnjophaaGreatDoorVal
/-! Statements: the text of SELECT * FROM t WHERE k = 1 (seat c). -/
namespace Go.Proofs.YtojincohnjophaaGreatDoor
open Go.RowKit
set_option linter.unusedVariables false

set_option maxRecDepth 100000 in
set_option maxHeartbeats 1600000 in
theorem etext_k (w : World) : Calls Tryz.prog 252 #[.agg #[.string ⟨#[99, 111, 108]⟩, .int .i64 0, .int .i64 0, .string .empty, .string ⟨#[107]⟩, .slice none 0 0]] w fun q w' => q = .returned (.string ⟨#[107]⟩) ∧ Below w.heap.size w w' := by
  have HB := hide ((Below.refl w.heap.size w).alloc (Nat.le_refl _) (.cells #[.string ⟨#[99, 111, 108]⟩, .int .i64 0, .int .i64 0, .string .empty, .string ⟨#[107]⟩, .slice none 0 0] 107))
  go_enter Tryz.func252, Tryz.ntmps252
  go_wp2_with fail
  go_ret
  exact ⟨rfl, HB.out⟩
set_option maxRecDepth 100000 in
set_option maxHeartbeats 1600000 in
theorem etext_n (w : World) : Calls Tryz.prog 252 #[.agg #[.string ⟨#[108, 105, 116]⟩, .int .i64 1, .int .i64 1, .string .empty, .string .empty, .slice none 0 0]] w fun q w' => q = .returned (.string ⟨#[49]⟩) ∧ Below w.heap.size w w' := by
  have HB := hide ((Below.refl w.heap.size w).alloc (Nat.le_refl _) (.cells #[.string ⟨#[108, 105, 116]⟩, .int .i64 1, .int .i64 1, .string .empty, .string .empty, .slice none 0 0] 107))
  go_enter Tryz.func252, Tryz.ntmps252
  go_wp2_with fail
  refine (vtext_one _).mono ?_
  rintro q w1 ⟨rfl, hb⟩
  have HB := hide (HB.out.trans (hb.mono HB.out.size))
  clear hb
  go_wp2_with fail
  go_ret
  exact ⟨rfl, HB.out⟩
theorem upper_eq (w : World) : Calls Tryz.prog 196 #[.string ⟨#[61]⟩] w fun e w' => e = .returned (.string ⟨#[61]⟩) ∧ Below w.heap.size w w' :=
  Tryz.strings_ToUpper_ascii ⟨#[61]⟩ w (by decide) (by intro j b h; match j, h with | 0, h => (obtain rfl := Option.some.inj h; decide) | j + 1, h => simp at h)
set_option maxRecDepth 100000 in
set_option maxHeartbeats 1600000 in
theorem etext_eq (g : Nat) (w : World) (hG : Box w g 107 twoCells) : Calls Tryz.prog 252 #[.agg #[.string ⟨#[61]⟩, .int .i64 0, .int .i64 0, .string .empty, .string .empty, .slice (some ⟨g, 0, none⟩) 2 2]] w fun q w' => q = .returned (.string ⟨#[40, 107, 32, 61, 32, 49, 41]⟩) ∧ Below w.heap.size w w' := by
  have hB := (Below.refl w.heap.size w).alloc (Nat.le_refl _) (.cells #[.string ⟨#[61]⟩, .int .i64 0, .int .i64 0, .string .empty, .string .empty, .slice (some ⟨g, 0, none⟩) 2 2] 107)
  have kE := Box.new w 107 #[.string ⟨#[61]⟩, .int .i64 0, .int .i64 0, .string .empty, .string .empty, .slice (some ⟨g, 0, none⟩) 2 2]
  have kG := hG.up (.cells #[.string ⟨#[61]⟩, .int .i64 0, .int .i64 0, .string .empty, .string .empty, .slice (some ⟨g, 0, none⟩) 2 2] 107)
  have HK := hide etext_k
  have HN := hide etext_n
  have HU := hide upper_eq
  clear hG
  go_enter Tryz.func252, Tryz.ntmps252
  go_upto_region 10 with (fail)
  obtain ⟨w0, hw0⟩ : ∃ x, x = w.alloc (.cells #[.string ⟨#[61]⟩, .int .i64 0, .int .i64 0, .string .empty, .string .empty, .slice (some ⟨g, 0, none⟩) 2 2] 107) := ⟨_, rfl⟩
  rw [← hw0] at kE kG hB
  rw [← hw0]
  clear hw0
  have HS : Hid (∀ ww, Below w0.heap.size w0 ww → ww.cell? ⟨w.heap.size, 0, none⟩ = some (.string ⟨#[61]⟩) ∧ ww.cell? ⟨w.heap.size, 5, none⟩ = some (.slice (some ⟨g, 0, none⟩) 2 2) ∧ ww.cell? ⟨g, 0, none⟩ = some (.string ⟨#[99, 111, 108]⟩) ∧ ww.cell? ⟨g, 1, none⟩ = some (.int .i64 0) ∧ ww.cell? ⟨g, 2, none⟩ = some (.int .i64 0) ∧ ww.cell? ⟨g, 3, none⟩ = some (.string .empty) ∧ ww.cell? ⟨g, 4, none⟩ = some (.string ⟨#[107]⟩) ∧ ww.cell? ⟨g, 5, none⟩ = some (.slice none 0 0) ∧ ww.cell? ⟨g, 6, none⟩ = some (.string ⟨#[108, 105, 116]⟩) ∧ ww.cell? ⟨g, 7, none⟩ = some (.int .i64 1) ∧ ww.cell? ⟨g, 8, none⟩ = some (.int .i64 1) ∧ ww.cell? ⟨g, 9, none⟩ = some (.string .empty) ∧ ww.cell? ⟨g, 10, none⟩ = some (.string .empty) ∧ ww.cell? ⟨g, 11, none⟩ = some (.slice none 0 0)) := hide fun ww hb => ⟨(kE.belowS hb).cellAt rfl, (kE.belowS hb).cellAt rfl, (kG.belowS hb).cellAt rfl, (kG.belowS hb).cellAt rfl, (kG.belowS hb).cellAt rfl, (kG.belowS hb).cellAt rfl, (kG.belowS hb).cellAt rfl, (kG.belowS hb).cellAt rfl, (kG.belowS hb).cellAt rfl, (kG.belowS hb).cellAt rfl, (kG.belowS hb).cellAt rfl, (kG.belowS hb).cellAt rfl, (kG.belowS hb).cellAt rfl, (kG.belowS hb).cellAt rfl⟩
  have HB := hide hB
  have hbx : Below w0.heap.size w0 w0.drew := (Below.refl _ _).drew
  clear kE kG hB
  go_region_held3 (fun ww => ww.cell? ⟨w.heap.size, 0, none⟩ = some (.string ⟨#[61]⟩) ∧ ww.cell? ⟨w.heap.size, 5, none⟩ = some (.slice (some ⟨g, 0, none⟩) 2 2) ∧ ww.cell? ⟨g, 0, none⟩ = some (.string ⟨#[99, 111, 108]⟩) ∧ ww.cell? ⟨g, 1, none⟩ = some (.int .i64 0) ∧ ww.cell? ⟨g, 2, none⟩ = some (.int .i64 0) ∧ ww.cell? ⟨g, 3, none⟩ = some (.string .empty) ∧ ww.cell? ⟨g, 4, none⟩ = some (.string ⟨#[107]⟩) ∧ ww.cell? ⟨g, 5, none⟩ = some (.slice none 0 0) ∧ ww.cell? ⟨g, 6, none⟩ = some (.string ⟨#[108, 105, 116]⟩) ∧ ww.cell? ⟨g, 7, none⟩ = some (.int .i64 1) ∧ ww.cell? ⟨g, 8, none⟩ = some (.int .i64 1) ∧ ww.cell? ⟨g, 9, none⟩ = some (.string .empty) ∧ ww.cell? ⟨g, 10, none⟩ = some (.string .empty) ∧ ww.cell? ⟨g, 11, none⟩ = some (.slice none 0 0))
    (first | (with_reducible exact HS.out _ hbx))
    (first
      | ((with_reducible refine (HK.out _).mono ?_); (rintro q wn ⟨rfl, hbn⟩; have hbx := hbx.trans (hbn.mono hbx.size)))
      | ((with_reducible refine (HU.out _).mono ?_); (rintro q wn ⟨rfl, hbn⟩; have hbx := hbx.trans (hbn.mono hbx.size)))
      | ((with_reducible refine (HN.out _).mono ?_); (rintro q wn ⟨rfl, hbn⟩; have hbx := hbx.trans (hbn.mono hbx.size))))
  have HBF := hide (HB.out.trans (hbx.mono HB.out.size))
  clear hbx
  go_wp2_with fail
  go_ret
  exact ⟨rfl, HBF.out⟩
set_option maxRecDepth 100000 in
set_option maxHeartbeats 1600000 in
theorem eText_eq (g : Nat) (w : World) (hG : Box w g 107 twoCells) : Calls Tryz.prog 234 #[.agg #[.string ⟨#[61]⟩, .int .i64 0, .int .i64 0, .string .empty, .string .empty, .slice (some ⟨g, 0, none⟩) 2 2]] w fun q w' => q = .returned (.tuple #[.string ⟨#[40, 107, 32, 61, 32, 49, 41]⟩, .int .i64 0]) ∧ Below w.heap.size w w' := by
  have HB := hide ((Below.refl w.heap.size w).alloc (Nat.le_refl _) (.cells #[.string ⟨#[61]⟩, .int .i64 0, .int .i64 0, .string .empty, .string .empty, .slice (some ⟨g, 0, none⟩) 2 2] 107))
  have kE := Box.new w 107 #[.string ⟨#[61]⟩, .int .i64 0, .int .i64 0, .string .empty, .string .empty, .slice (some ⟨g, 0, none⟩) 2 2]
  have kG := hG.up (.cells #[.string ⟨#[61]⟩, .int .i64 0, .int .i64 0, .string .empty, .string .empty, .slice (some ⟨g, 0, none⟩) 2 2] 107)
  clear hG
  go_enter Tryz.func234, Tryz.ntmps234
  go_wp2_with fail
  refine (emay_eq g _ kG).mono ?_
  rintro q w1 ⟨rfl, hb⟩
  have kE := kE.belowS hb
  have kG := kG.belowS hb
  have HB1 := hide (HB.out.trans (hb.mono HB.out.size))
  have e0 : w1.cell? ⟨w.heap.size, 0, none⟩ = some (.string ⟨#[61]⟩) := kE.cellAt rfl
  have e1 : w1.cell? ⟨w.heap.size, 1, none⟩ = some (.int .i64 0) := kE.cellAt rfl
  have e2 : w1.cell? ⟨w.heap.size, 2, none⟩ = some (.int .i64 0) := kE.cellAt rfl
  have e3 : w1.cell? ⟨w.heap.size, 3, none⟩ = some (.string .empty) := kE.cellAt rfl
  have e4 : w1.cell? ⟨w.heap.size, 4, none⟩ = some (.string .empty) := kE.cellAt rfl
  have e5 : w1.cell? ⟨w.heap.size, 5, none⟩ = some (.slice (some ⟨g, 0, none⟩) 2 2) := kE.cellAt rfl
  clear hb kE
  go_wp2_with fail
  refine (etext_eq g _ kG).mono ?_
  rintro q w2 ⟨rfl, hb⟩
  have HB2 := hide (HB1.out.trans (hb.mono HB1.out.size))
  clear hb
  go_wp2_with fail
  go_ret2
  exact ⟨rfl, HB2.out⟩
set_option maxRecDepth 100000 in
set_option maxHeartbeats 1600000 in
theorem written_eq (g : Nat) (w : World) (hG : Box w g 107 twoCells) : Calls Tryz.prog 200 #[.agg #[.string ⟨#[61]⟩, .int .i64 0, .int .i64 0, .string .empty, .string .empty, .slice (some ⟨g, 0, none⟩) 2 2]] w fun q w' => q = .returned (.string ⟨#[40, 107, 32, 61, 32, 49, 41]⟩) ∧ Below w.heap.size w w' := by
  have HB := hide ((Below.refl w.heap.size w).alloc (Nat.le_refl _) (.cells #[.string ⟨#[61]⟩, .int .i64 0, .int .i64 0, .string .empty, .string .empty, .slice (some ⟨g, 0, none⟩) 2 2] 107))
  have kG := hG.up (.cells #[.string ⟨#[61]⟩, .int .i64 0, .int .i64 0, .string .empty, .string .empty, .slice (some ⟨g, 0, none⟩) 2 2] 107)
  clear hG
  go_enter Tryz.func200, Tryz.ntmps200
  go_wp2_with fail
  refine (eText_eq g _ kG).mono ?_
  rintro q w1 ⟨rfl, hb⟩
  have HB1 := hide (HB.out.trans (hb.mono HB.out.size))
  clear hb kG
  go_wp2_with fail
  go_ret
  exact ⟨rfl, HB1.out⟩
set_option maxRecDepth 100000 in
set_option maxHeartbeats 1600000 in
theorem swhere_eq (g : Nat) (w : World) (hG : Box w g 107 twoCells) : Calls Tryz.prog 202 #[.agg #[.string ⟨#[61]⟩, .int .i64 0, .int .i64 0, .string .empty, .string .empty, .slice (some ⟨g, 0, none⟩) 2 2]] w fun q w' => q = .returned (.string ⟨#[32, 87, 72, 69, 82, 69, 32, 40, 107, 32, 61, 32, 49, 41]⟩) ∧ Below w.heap.size w w' := by
  have HB := hide ((Below.refl w.heap.size w).alloc (Nat.le_refl _) (.cells #[.string ⟨#[61]⟩, .int .i64 0, .int .i64 0, .string .empty, .string .empty, .slice (some ⟨g, 0, none⟩) 2 2] 107))
  have kE := Box.new w 107 #[.string ⟨#[61]⟩, .int .i64 0, .int .i64 0, .string .empty, .string .empty, .slice (some ⟨g, 0, none⟩) 2 2]
  have kG := hG.up (.cells #[.string ⟨#[61]⟩, .int .i64 0, .int .i64 0, .string .empty, .string .empty, .slice (some ⟨g, 0, none⟩) 2 2] 107)
  clear hG
  go_enter Tryz.func202, Tryz.ntmps202
  go_wp2_with fail
  refine (none_eq g _).mono ?_
  rintro q w1 ⟨rfl, hb⟩
  have kE := kE.belowS hb
  have kG := kG.belowS hb
  have HB1 := hide (HB.out.trans (hb.mono HB.out.size))
  have e0 : w1.cell? ⟨w.heap.size, 0, none⟩ = some (.string ⟨#[61]⟩) := kE.cellAt rfl
  have e1 : w1.cell? ⟨w.heap.size, 1, none⟩ = some (.int .i64 0) := kE.cellAt rfl
  have e2 : w1.cell? ⟨w.heap.size, 2, none⟩ = some (.int .i64 0) := kE.cellAt rfl
  have e3 : w1.cell? ⟨w.heap.size, 3, none⟩ = some (.string .empty) := kE.cellAt rfl
  have e4 : w1.cell? ⟨w.heap.size, 4, none⟩ = some (.string .empty) := kE.cellAt rfl
  have e5 : w1.cell? ⟨w.heap.size, 5, none⟩ = some (.slice (some ⟨g, 0, none⟩) 2 2) := kE.cellAt rfl
  clear hb kE
  go_wp2_with fail
  refine (written_eq g _ kG).mono ?_
  rintro q w2 ⟨rfl, hb⟩
  have HB2 := hide (HB1.out.trans (hb.mono HB1.out.size))
  clear hb
  go_wp2_with fail
  go_ret
  exact ⟨rfl, HB2.out⟩
theorem upper_sel (w : World) : Calls Tryz.prog 196 #[.string ⟨#[115, 101, 108, 101, 99, 116]⟩] w fun e w' => e = .returned (.string ⟨#[83, 69, 76, 69, 67, 84]⟩) ∧ Below w.heap.size w w' :=
  Tryz.strings_ToUpper_ascii ⟨#[115, 101, 108, 101, 99, 116]⟩ w (by decide) (by intro j b h; match j, h with | 0, h => (obtain rfl := Option.some.inj h; decide) | 1, h => (obtain rfl := Option.some.inj h; decide) | 2, h => (obtain rfl := Option.some.inj h; decide) | 3, h => (obtain rfl := Option.some.inj h; decide) | 4, h => (obtain rfl := Option.some.inj h; decide) | 5, h => (obtain rfl := Option.some.inj h; decide) | j + 6, h => simp at h)
set_option maxRecDepth 100000 in
set_option maxHeartbeats 1600000 in
theorem stext_8 (g : Nat) (w : World) (hG : Box w g 107 twoCells) : Calls Tryz.prog 161 #[.agg #[.string ⟨#[115, 101, 108, 101, 99, 116]⟩, .string ⟨#[116]⟩, .string .empty, .slice none 0 0, .slice none 0 0, .string .empty, .slice none 0 0, .slice none 0 0, .string .empty, .int .i64 0, .int .i64 0, .string .empty, .string .empty, .slice none 0 0, .slice none 0 0, .slice none 0 0, .string ⟨#[61]⟩, .int .i64 0, .int .i64 0, .string .empty, .string .empty, .slice (some ⟨g, 0, none⟩) 2 2, .string .empty]] w fun q w' => q = .returned (.string ⟨#[83, 69, 76, 69, 67, 84, 32, 42, 32, 70, 82, 79, 77, 32, 116, 32, 87, 72, 69, 82, 69, 32, 40, 107, 32, 61, 32, 49, 41]⟩) ∧ Below w.heap.size w w' := by
  have hB := (Below.refl w.heap.size w).alloc (Nat.le_refl _) (.cells #[.string ⟨#[115, 101, 108, 101, 99, 116]⟩, .string ⟨#[116]⟩, .string .empty, .slice none 0 0, .slice none 0 0, .string .empty, .slice none 0 0, .slice none 0 0, .string .empty, .int .i64 0, .int .i64 0, .string .empty, .string .empty, .slice none 0 0, .slice none 0 0, .slice none 0 0, .string ⟨#[61]⟩, .int .i64 0, .int .i64 0, .string .empty, .string .empty, .slice (some ⟨g, 0, none⟩) 2 2, .string .empty] 111)
  have kS := Box.new w 111 #[.string ⟨#[115, 101, 108, 101, 99, 116]⟩, .string ⟨#[116]⟩, .string .empty, .slice none 0 0, .slice none 0 0, .string .empty, .slice none 0 0, .slice none 0 0, .string .empty, .int .i64 0, .int .i64 0, .string .empty, .string .empty, .slice none 0 0, .slice none 0 0, .slice none 0 0, .string ⟨#[61]⟩, .int .i64 0, .int .i64 0, .string .empty, .string .empty, .slice (some ⟨g, 0, none⟩) 2 2, .string .empty]
  have kG := hG.up (.cells #[.string ⟨#[115, 101, 108, 101, 99, 116]⟩, .string ⟨#[116]⟩, .string .empty, .slice none 0 0, .slice none 0 0, .string .empty, .slice none 0 0, .slice none 0 0, .string .empty, .int .i64 0, .int .i64 0, .string .empty, .string .empty, .slice none 0 0, .slice none 0 0, .slice none 0 0, .string ⟨#[61]⟩, .int .i64 0, .int .i64 0, .string .empty, .string .empty, .slice (some ⟨g, 0, none⟩) 2 2, .string .empty] 111)
  have HU := hide upper_sel
  have HW := hide (fun ww hh => swhere_eq g ww hh)
  clear hG
  go_enter Tryz.func161, Tryz.ntmps161
  go_upto_region 2 with (fail)
  obtain ⟨w0, hw0⟩ : ∃ x, x = w.alloc (.cells #[.string ⟨#[115, 101, 108, 101, 99, 116]⟩, .string ⟨#[116]⟩, .string .empty, .slice none 0 0, .slice none 0 0, .string .empty, .slice none 0 0, .slice none 0 0, .string .empty, .int .i64 0, .int .i64 0, .string .empty, .string .empty, .slice none 0 0, .slice none 0 0, .slice none 0 0, .string ⟨#[61]⟩, .int .i64 0, .int .i64 0, .string .empty, .string .empty, .slice (some ⟨g, 0, none⟩) 2 2, .string .empty] 111) := ⟨_, rfl⟩
  rw [← hw0] at kS kG hB
  rw [← hw0]
  clear hw0
  have HS : Hid (∀ ww, Below w0.heap.size w0 ww → ww.cell? ⟨w.heap.size, 0, none⟩ = some (.string ⟨#[115, 101, 108, 101, 99, 116]⟩) ∧ ww.cell? ⟨w.heap.size, 1, none⟩ = some (.string ⟨#[116]⟩) ∧ ww.cell? ⟨w.heap.size, 2, none⟩ = some (.string .empty) ∧ ww.cell? ⟨w.heap.size, 16, none⟩ = some (.string ⟨#[61]⟩) ∧ ww.cell? ⟨w.heap.size, 17, none⟩ = some (.int .i64 0) ∧ ww.cell? ⟨w.heap.size, 18, none⟩ = some (.int .i64 0) ∧ ww.cell? ⟨w.heap.size, 19, none⟩ = some (.string .empty) ∧ ww.cell? ⟨w.heap.size, 20, none⟩ = some (.string .empty) ∧ ww.cell? ⟨w.heap.size, 21, none⟩ = some (.slice (some ⟨g, 0, none⟩) 2 2)) := hide fun ww hb => ⟨(kS.belowS hb).cellAt rfl, (kS.belowS hb).cellAt rfl, (kS.belowS hb).cellAt rfl, (kS.belowS hb).cellAt rfl, (kS.belowS hb).cellAt rfl, (kS.belowS hb).cellAt rfl, (kS.belowS hb).cellAt rfl, (kS.belowS hb).cellAt rfl, (kS.belowS hb).cellAt rfl⟩
  have HG : Hid (∀ ww, Below w0.heap.size w0 ww → Box ww g 107 twoCells) := hide fun ww hb => kG.belowS hb
  have HB := hide hB
  have hbx : Below w0.heap.size w0 w0.drew := (Below.refl _ _).drew
  clear kS kG hB
  go_region_held3 (fun ww => ww.cell? ⟨w.heap.size, 0, none⟩ = some (.string ⟨#[115, 101, 108, 101, 99, 116]⟩) ∧ ww.cell? ⟨w.heap.size, 1, none⟩ = some (.string ⟨#[116]⟩) ∧ ww.cell? ⟨w.heap.size, 2, none⟩ = some (.string .empty) ∧ ww.cell? ⟨w.heap.size, 16, none⟩ = some (.string ⟨#[61]⟩) ∧ ww.cell? ⟨w.heap.size, 17, none⟩ = some (.int .i64 0) ∧ ww.cell? ⟨w.heap.size, 18, none⟩ = some (.int .i64 0) ∧ ww.cell? ⟨w.heap.size, 19, none⟩ = some (.string .empty) ∧ ww.cell? ⟨w.heap.size, 20, none⟩ = some (.string .empty) ∧ ww.cell? ⟨w.heap.size, 21, none⟩ = some (.slice (some ⟨g, 0, none⟩) 2 2))
    (first | (with_reducible exact HS.out _ hbx))
    (((with_reducible refine (HU.out _).mono ?_); (rintro q wn ⟨rfl, hbn⟩; have hbx := hbx.trans (hbn.mono hbx.size))))
  obtain ⟨c0, c1, c2, c3, c4, c5, c6, c7, c8⟩ := HS.out _ hbx
  have hby := hbx.drew
  go_upto_region 16 with (fail)
  clear c0 c1 c2 c3 c4 c5 c6 c7 c8
  go_region_held3 (fun ww => ww.cell? ⟨w.heap.size, 0, none⟩ = some (.string ⟨#[115, 101, 108, 101, 99, 116]⟩) ∧ ww.cell? ⟨w.heap.size, 1, none⟩ = some (.string ⟨#[116]⟩) ∧ ww.cell? ⟨w.heap.size, 2, none⟩ = some (.string .empty) ∧ ww.cell? ⟨w.heap.size, 16, none⟩ = some (.string ⟨#[61]⟩) ∧ ww.cell? ⟨w.heap.size, 17, none⟩ = some (.int .i64 0) ∧ ww.cell? ⟨w.heap.size, 18, none⟩ = some (.int .i64 0) ∧ ww.cell? ⟨w.heap.size, 19, none⟩ = some (.string .empty) ∧ ww.cell? ⟨w.heap.size, 20, none⟩ = some (.string .empty) ∧ ww.cell? ⟨w.heap.size, 21, none⟩ = some (.slice (some ⟨g, 0, none⟩) 2 2))
    (first | (with_reducible exact HS.out _ hbx) | (with_reducible exact HS.out _ hby))
    (((with_reducible refine (HW.out _ (HG.out _ hby)).mono ?_); (rintro q wm ⟨rfl, hbm⟩; have hby := hby.trans (hbm.mono hby.size))))
  have HBF := hide (HB.out.trans (hby.mono HB.out.size))
  clear hbx hby
  go_wp2_with fail
  go_ret
  exact ⟨rfl, HBF.out⟩
end Go.Proofs.YtojincohnjophaaGreatDoor

/-! Statements: Parse of SELECT * FROM t WHERE k = 1, worksFirst (seat c). -/
namespace Go.Proofs.YtojincohnjophaaGreatDoor
open Go.RowKit
set_option linter.unusedVariables false

theorem toks_src : Toks (oct ⟨#[83, 69, 76, 69, 67, 84, 32, 42, 32, 70, 82, 79, 77, 32, 116, 32, 87, 72, 69, 82, 69, 32, 107, 32, 61, 32, 49]⟩) [(1, ⟨#[83, 69, 76, 69, 67, 84]⟩), (4, ⟨#[42]⟩), (1, ⟨#[70, 82, 79, 77]⟩), (1, ⟨#[116]⟩), (1, ⟨#[87, 72, 69, 82, 69]⟩), (1, ⟨#[107]⟩), (4, ⟨#[61]⟩), (2, ⟨#[49]⟩)] := by
  show Toks [83, 69, 76, 69, 67, 84, 32, 42, 32, 70, 82, 79, 77, 32, 116, 32, 87, 72, 69, 82, 69, 32, 107, 32, 61, 32, 49] _
  refine .word _ _ 6 _ (by decide) (by decide) (by decide) (by decide) (by decide) (by decide) ?_
  refine .blank _ _ ?_
  refine .sign _ _ _ (by decide) (by decide) (by decide) (by decide) (by decide) (by decide) ?_
  refine .blank _ _ ?_
  refine .word _ _ 4 _ (by decide) (by decide) (by decide) (by decide) (by decide) (by decide) ?_
  refine .blank _ _ ?_
  refine .word _ _ 1 _ (by decide) (by decide) (by decide) (by decide) (by decide) (by decide) ?_
  refine .blank _ _ ?_
  refine .word _ _ 5 _ (by decide) (by decide) (by decide) (by decide) (by decide) (by decide) ?_
  refine .blank _ _ ?_
  refine .word _ _ 1 _ (by decide) (by decide) (by decide) (by decide) (by decide) (by decide) ?_
  refine .blank _ _ ?_
  refine .sign _ _ _ (by decide) (by decide) (by decide) (by decide) (by decide) (by decide) ?_
  refine .blank _ _ ?_
  refine .num _ _ 1 _ (by decide) (by decide) (by decide) (by decide) (by decide) (by decide) (by decide) ?_
  exact .nil
theorem toks_tx : Toks (oct ⟨#[83, 69, 76, 69, 67, 84, 32, 42, 32, 70, 82, 79, 77, 32, 116, 32, 87, 72, 69, 82, 69, 32, 40, 107, 32, 61, 32, 49, 41]⟩) [(1, ⟨#[83, 69, 76, 69, 67, 84]⟩), (4, ⟨#[42]⟩), (1, ⟨#[70, 82, 79, 77]⟩), (1, ⟨#[116]⟩), (1, ⟨#[87, 72, 69, 82, 69]⟩), (4, ⟨#[40]⟩), (1, ⟨#[107]⟩), (4, ⟨#[61]⟩), (2, ⟨#[49]⟩), (4, ⟨#[41]⟩)] := by
  show Toks [83, 69, 76, 69, 67, 84, 32, 42, 32, 70, 82, 79, 77, 32, 116, 32, 87, 72, 69, 82, 69, 32, 40, 107, 32, 61, 32, 49, 41] _
  refine .word _ _ 6 _ (by decide) (by decide) (by decide) (by decide) (by decide) (by decide) ?_
  refine .blank _ _ ?_
  refine .sign _ _ _ (by decide) (by decide) (by decide) (by decide) (by decide) (by decide) ?_
  refine .blank _ _ ?_
  refine .word _ _ 4 _ (by decide) (by decide) (by decide) (by decide) (by decide) (by decide) ?_
  refine .blank _ _ ?_
  refine .word _ _ 1 _ (by decide) (by decide) (by decide) (by decide) (by decide) (by decide) ?_
  refine .blank _ _ ?_
  refine .word _ _ 5 _ (by decide) (by decide) (by decide) (by decide) (by decide) (by decide) ?_
  refine .blank _ _ ?_
  refine .sign _ _ _ (by decide) (by decide) (by decide) (by decide) (by decide) (by decide) ?_
  refine .word _ _ 1 _ (by decide) (by decide) (by decide) (by decide) (by decide) (by decide) ?_
  refine .blank _ _ ?_
  refine .sign _ _ _ (by decide) (by decide) (by decide) (by decide) (by decide) (by decide) ?_
  refine .blank _ _ ?_
  refine .num _ _ 1 _ (by decide) (by decide) (by decide) (by decide) (by decide) (by decide) (by decide) ?_
  refine .sign _ _ _ (by decide) (by decide) (by decide) (by decide) (by decide) (by decide) ?_
  exact .nil

set_option maxRecDepth 100000 in
set_option maxHeartbeats 1600000 in
theorem sText_8 (g : Nat) (w : World) (hG : Box w g 107 twoCells) : Calls Tryz.prog 118 #[.agg #[.string ⟨#[115, 101, 108, 101, 99, 116]⟩, .string ⟨#[116]⟩, .string .empty, .slice none 0 0, .slice none 0 0, .string .empty, .slice none 0 0, .slice none 0 0, .string .empty, .int .i64 0, .int .i64 0, .string .empty, .string .empty, .slice none 0 0, .slice none 0 0, .slice none 0 0, .string ⟨#[61]⟩, .int .i64 0, .int .i64 0, .string .empty, .string .empty, .slice (some ⟨g, 0, none⟩) 2 2, .string .empty]] w fun q w' => q = .returned (.tuple #[.string ⟨#[83, 69, 76, 69, 67, 84, 32, 42, 32, 70, 82, 79, 77, 32, 116, 32, 87, 72, 69, 82, 69, 32, 40, 107, 32, 61, 32, 49, 41]⟩, .int .i64 0]) ∧ Below w.heap.size w w' := by
  have HB := hide ((Below.refl w.heap.size w).alloc (Nat.le_refl _) (.cells #[.string ⟨#[115, 101, 108, 101, 99, 116]⟩, .string ⟨#[116]⟩, .string .empty, .slice none 0 0, .slice none 0 0, .string .empty, .slice none 0 0, .slice none 0 0, .string .empty, .int .i64 0, .int .i64 0, .string .empty, .string .empty, .slice none 0 0, .slice none 0 0, .slice none 0 0, .string ⟨#[61]⟩, .int .i64 0, .int .i64 0, .string .empty, .string .empty, .slice (some ⟨g, 0, none⟩) 2 2, .string .empty] 111))
  have kS := Box.new w 111 #[.string ⟨#[115, 101, 108, 101, 99, 116]⟩, .string ⟨#[116]⟩, .string .empty, .slice none 0 0, .slice none 0 0, .string .empty, .slice none 0 0, .slice none 0 0, .string .empty, .int .i64 0, .int .i64 0, .string .empty, .string .empty, .slice none 0 0, .slice none 0 0, .slice none 0 0, .string ⟨#[61]⟩, .int .i64 0, .int .i64 0, .string .empty, .string .empty, .slice (some ⟨g, 0, none⟩) 2 2, .string .empty]
  have kG := hG.up (.cells #[.string ⟨#[115, 101, 108, 101, 99, 116]⟩, .string ⟨#[116]⟩, .string .empty, .slice none 0 0, .slice none 0 0, .string .empty, .slice none 0 0, .slice none 0 0, .string .empty, .int .i64 0, .int .i64 0, .string .empty, .string .empty, .slice none 0 0, .slice none 0 0, .slice none 0 0, .string ⟨#[61]⟩, .int .i64 0, .int .i64 0, .string .empty, .string .empty, .slice (some ⟨g, 0, none⟩) 2 2, .string .empty] 111)
  have HP := hide (fun ww hh => parts_8 g ww hh)
  have HT := hide (fun ww hh => stext_8 g ww hh)
  have HC := hide (fun ww => cut_any ⟨#[83, 69, 76, 69, 67, 84, 32, 42, 32, 70, 82, 79, 77, 32, 116, 32, 87, 72, 69, 82, 69, 32, 40, 107, 32, 61, 32, 49, 41]⟩ _ (by decide) toks_tx (by decide) ww)
  clear hG
  go_enter Tryz.func118, Tryz.ntmps118
  go_wp2_with (with_reducible refine wp_loadS rfl (.tmp 1) rfl kS rfl (by kernel_rfl) ?_)
  refine (HP.out _ kG).mono ?_
  rintro q w1 ⟨rfl, hb⟩
  have kS := kS.belowS hb
  have kG := kG.belowS hb
  have HB1 := hide (HB.out.trans (hb.mono HB.out.size))
  clear hb
  go_wp2_with (with_reducible refine wp_loadS rfl (.tmp 1) rfl kS rfl (by kernel_rfl) ?_)
  refine (HT.out _ kG).mono ?_
  rintro q w2 ⟨rfl, hb⟩
  have HB2 := hide (HB1.out.trans (hb.mono HB1.out.size))
  clear hb kG kS
  go_wp2_with fail
  refine (HC.out _).mono ?_
  rintro q w3 ⟨v, rfl, _, hb⟩
  have HB3 := hide (HB2.out.trans (hb.mono HB2.out.size))
  clear hb
  go_wp2_with fail
  go_ret2
  exact ⟨rfl, HB3.out⟩
set_option maxRecDepth 100000 in
set_option maxHeartbeats 1600000 in
theorem smay_8 (g : Nat) (w : World) (hG : Box w g 107 twoCells) : Calls Tryz.prog 77 #[.agg #[.string ⟨#[115, 101, 108, 101, 99, 116]⟩, .string ⟨#[116]⟩, .string .empty, .slice none 0 0, .slice none 0 0, .string .empty, .slice none 0 0, .slice none 0 0, .string .empty, .int .i64 0, .int .i64 0, .string .empty, .string .empty, .slice none 0 0, .slice none 0 0, .slice none 0 0, .string ⟨#[61]⟩, .int .i64 0, .int .i64 0, .string .empty, .string .empty, .slice (some ⟨g, 0, none⟩) 2 2, .string .empty]] w fun q w' => q = .returned (.bool true) ∧ Below w.heap.size w w' := by
  have HB := hide ((Below.refl w.heap.size w).alloc (Nat.le_refl _) (.cells #[.string ⟨#[115, 101, 108, 101, 99, 116]⟩, .string ⟨#[116]⟩, .string .empty, .slice none 0 0, .slice none 0 0, .string .empty, .slice none 0 0, .slice none 0 0, .string .empty, .int .i64 0, .int .i64 0, .string .empty, .string .empty, .slice none 0 0, .slice none 0 0, .slice none 0 0, .string ⟨#[61]⟩, .int .i64 0, .int .i64 0, .string .empty, .string .empty, .slice (some ⟨g, 0, none⟩) 2 2, .string .empty] 111))
  have kS := Box.new w 111 #[.string ⟨#[115, 101, 108, 101, 99, 116]⟩, .string ⟨#[116]⟩, .string .empty, .slice none 0 0, .slice none 0 0, .string .empty, .slice none 0 0, .slice none 0 0, .string .empty, .int .i64 0, .int .i64 0, .string .empty, .string .empty, .slice none 0 0, .slice none 0 0, .slice none 0 0, .string ⟨#[61]⟩, .int .i64 0, .int .i64 0, .string .empty, .string .empty, .slice (some ⟨g, 0, none⟩) 2 2, .string .empty]
  have kG := hG.up (.cells #[.string ⟨#[115, 101, 108, 101, 99, 116]⟩, .string ⟨#[116]⟩, .string .empty, .slice none 0 0, .slice none 0 0, .string .empty, .slice none 0 0, .slice none 0 0, .string .empty, .int .i64 0, .int .i64 0, .string .empty, .string .empty, .slice none 0 0, .slice none 0 0, .slice none 0 0, .string ⟨#[61]⟩, .int .i64 0, .int .i64 0, .string .empty, .string .empty, .slice (some ⟨g, 0, none⟩) 2 2, .string .empty] 111)
  have HP := hide (fun ww hh => sText_8 g ww hh)
  clear hG
  go_enter Tryz.func77, Tryz.ntmps77
  go_wp2_with (with_reducible refine wp_loadS rfl (.tmp 1) rfl kS rfl (by kernel_rfl) ?_)
  refine (HP.out _ kG).mono ?_
  rintro q w1 ⟨rfl, hb⟩
  have HB1 := hide (HB.out.trans (hb.mono HB.out.size))
  clear hb kG kS
  go_wp2_with fail
  go_ret
  exact ⟨rfl, HB1.out⟩
/-- The statement of a parser is loaded. -/
theorem wp_loadP {w : World} {ops : Array Oper} {rest : List Oper} {o : Oper} {a : Act} {Q : Exit → Act → World → Prop} (x : Operand)
    (ho : o.op = .load 111 x) {m : Nat} {c0 c1 : Value} {cs : Array Value} (h : Box w m 165 (#[c0, c1] ++ cs)) (hx : a.eval x = .pointer (some ⟨m, 2, none⟩)) (hc : cs.size = 23) (hw : Region.wanted o (yielded ops a.tmps) = true)
    (hq : wpList Tryz.prog ops Q rest (a.put o.dst (.agg cs)) w) : wpList Tryz.prog ops Q (o :: rest) a w := by
  refine wpList_step fun K hK => ?_
  rw [if_pos hw]
  have hl : (loadCells ⟨m, 2, none⟩ cs.toList.length).run Tryz.prog w = .ok cs.toList.toArray w :=
    run_loadCells_list (P := Tryz.prog) w ⟨m, 2, none⟩ cs.toList (fun j v hv => by
      have hadd : (⟨m, 2, none⟩ : Addr).add j = ⟨m, 2 + j, none⟩ := by unfold Addr.add; split <;> simp_all
      rw [hadd]
      refine h.cellAt ?_
      rw [Array.getElem?_append_right (by simp)]
      simpa using hv)
  have hagg : (isAgg 111).run Tryz.prog w = .ok true w := by
    unfold isAgg
    rw [Sem.run_bind, run_underlying Tryz.underlying111 w]
    rfl
  have hi : (Tryz.prog.info? 111).map (·.size) = some 23 := by kernel_rfl
  have hr : (execOp a.eval o).run Tryz.prog w = .ok (.value (.agg cs)) w := by
    unfold execOp
    rw [ho]
    cases hq' : Tryz.prog.info? 111 with
    | none => simp [hq'] at hi
    | some i =>
      have hs : i.size = 23 := by simpa [hq'] using hi
      simp only [Array.length_toList, Array.toArray_toList, hc] at hl
      simp [hx, Instr.loadAt, Instr.sureAddr, loadVar, Sem.run_bind, hagg, sizeOf, typeInfo, hq', hs, hl, Result.andThen]
  unfold Oper.wp
  rw [hr]
  exact hK _ _ hq
/-- A statement that is laid in a cell of its own, and a temporary: what a function returns. -/
theorem res_stmt {fn : Func} {p u : Tmp} (h : fn.results = #[.cell p 111, .tmp u]) (tmps : Array Value) (w : World) (g : Nat) (cs : Array Value) (hc : cs.size = 23)
    (hp : tmps.getD p undef = .pointer (some ⟨g, 0, none⟩)) (hB : Box w g 111 cs) : (results fn tmps).run Tryz.prog w = .ok (.tuple #[.agg cs, tmps.getD u undef]) w := by
  rw [results_cell_tmp h, hp]
  have hl := run_loadVar_row w g 111 111 cs (0, 0) _ hB Tryz.underlying111 rfl (by rw [hc]; kernel_rfl)
  simp [asAddr, hl, Result.andThen]
end Go.Proofs.YtojincohnjophaaGreatDoor

/-! Statements: Parse of SELECT * FROM t WHERE k = 1, worksFirst (seat c). -/
namespace Go.Proofs.YtojincohnjophaaGreatDoor
open Go.RowKit
set_option linter.unusedVariables false

set_option maxRecDepth 100000 in
set_option maxHeartbeats 1600000 in
theorem sparse_8 (w : World) : Calls Tryz.prog 40 #[.string ⟨#[83, 69, 76, 69, 67, 84, 32, 42, 32, 70, 82, 79, 77, 32, 116, 32, 87, 72, 69, 82, 69, 32, 107, 32, 61, 32, 49]⟩] w fun q w' => ∃ g, q = .returned (.tuple #[.agg #[.string ⟨#[115, 101, 108, 101, 99, 116]⟩, .string ⟨#[116]⟩, .string .empty, .slice none 0 0, .slice none 0 0, .string .empty, .slice none 0 0, .slice none 0 0, .string .empty, .int .i64 0, .int .i64 0, .string .empty, .string .empty, .slice none 0 0, .slice none 0 0, .slice none 0 0, .string ⟨#[61]⟩, .int .i64 0, .int .i64 0, .string .empty, .string .empty, .slice (some ⟨g, 0, none⟩) 2 2, .string .empty], .int .i64 0]) ∧ Below w.heap.size w w' := by
  have HC := hide (fun ww => cut_any ⟨#[83, 69, 76, 69, 67, 84, 32, 42, 32, 70, 82, 79, 77, 32, 116, 32, 87, 72, 69, 82, 69, 32, 107, 32, 61, 32, 49]⟩ _ (by decide) toks_src (by decide) ww)
  have hB0 := (Below.refl w.heap.size w).alloc (Nat.le_refl _) (.cells #[.string ⟨#[]⟩, .string ⟨#[]⟩, .string ⟨#[]⟩, .slice none 0 0, .slice none 0 0, .string ⟨#[]⟩, .slice none 0 0, .slice none 0 0, .string ⟨#[]⟩, .int .i64 0, .int .i64 0, .string ⟨#[]⟩, .string ⟨#[]⟩, .slice none 0 0, .slice none 0 0, .slice none 0 0, .string ⟨#[]⟩, .int .i64 0, .int .i64 0, .string ⟨#[]⟩, .string ⟨#[]⟩, .slice none 0 0, .string ⟨#[]⟩] 111)
  have kR := Box.new w 111 #[.string ⟨#[]⟩, .string ⟨#[]⟩, .string ⟨#[]⟩, .slice none 0 0, .slice none 0 0, .string ⟨#[]⟩, .slice none 0 0, .slice none 0 0, .string ⟨#[]⟩, .int .i64 0, .int .i64 0, .string ⟨#[]⟩, .string ⟨#[]⟩, .slice none 0 0, .slice none 0 0, .slice none 0 0, .string ⟨#[]⟩, .int .i64 0, .int .i64 0, .string ⟨#[]⟩, .string ⟨#[]⟩, .slice none 0 0, .string ⟨#[]⟩]
  go_enter Tryz.func40, Tryz.ntmps40
  go_wp2_with fail
  refine (HC.out _).mono ?_
  rintro q w1 ⟨v, rfl, hown, hb⟩
  have kR := kR.belowS hb
  have hB1 := hB0.trans (hb.mono hB0.size)
  obtain ⟨ga, cap, rfl, hga, hgl, hcap⟩ := own_form hown (by decide)
  have hsl := (Sl.of_own hown).lt'
  have hcap8 : 8 ≤ cap := hcap
  have hlR := kR.lt
  have hs : Sl (w1.alloc (.cells #[.slice (some ⟨ga, 0, none⟩) 8 cap, .int .i64 0, .string .empty, .string .empty, .string .empty, .slice none 0 0, .slice none 0 0, .string .empty, .slice none 0 0, .slice none 0 0, .string .empty, .int .i64 0, .int .i64 0, .string .empty, .string .empty, .slice none 0 0, .slice none 0 0, .slice none 0 0, .string .empty, .int .i64 0, .int .i64 0, .string .empty, .string .empty, .slice none 0 0, .string .empty] 165)) (fun x => x ≠ w1.heap.size) 2 (some ⟨ga, 0, none⟩) 8 (cellsTk [(1, ⟨#[83, 69, 76, 69, 67, 84]⟩), (4, ⟨#[42]⟩), (1, ⟨#[70, 82, 79, 77]⟩), (1, ⟨#[116]⟩), (1, ⟨#[87, 72, 69, 82, 69]⟩), (1, ⟨#[107]⟩), (4, ⟨#[61]⟩), (2, ⟨#[49]⟩)]) :=
    (hsl.below ((Below.refl _ _).alloc (Nat.le_refl _) _)).mono fun x hx => by have := hx.2; omega
  have hP : Sp (w1.alloc (.cells #[.slice (some ⟨ga, 0, none⟩) 8 cap, .int .i64 0, .string .empty, .string .empty, .string .empty, .slice none 0 0, .slice none 0 0, .string .empty, .slice none 0 0, .slice none 0 0, .string .empty, .int .i64 0, .int .i64 0, .string .empty, .string .empty, .slice none 0 0, .slice none 0 0, .slice none 0 0, .string .empty, .int .i64 0, .int .i64 0, .string .empty, .string .empty, .slice none 0 0, .string .empty] 165)) w1.heap.size (some ⟨ga, 0, none⟩) 8 cap 0 .empty .empty .empty (.slice none 0 0) [(1, ⟨#[83, 69, 76, 69, 67, 84]⟩), (4, ⟨#[42]⟩), (1, ⟨#[70, 82, 79, 77]⟩), (1, ⟨#[116]⟩), (1, ⟨#[87, 72, 69, 82, 69]⟩), (1, ⟨#[107]⟩), (4, ⟨#[61]⟩), (2, ⟨#[49]⟩)] := ⟨Box.new w1 _ _, hs⟩
  have HST := hide (statement_8 w1.heap.size (some ⟨ga, 0, none⟩) cap [(1, ⟨#[83, 69, 76, 69, 67, 84]⟩), (4, ⟨#[42]⟩), (1, ⟨#[70, 82, 79, 77]⟩), (1, ⟨#[116]⟩), (1, ⟨#[87, 72, 69, 82, 69]⟩), (1, ⟨#[107]⟩), (4, ⟨#[61]⟩), (2, ⟨#[49]⟩)] rfl rfl rfl rfl rfl rfl rfl rfl hcap8 _ hP)
  have kR := kR.up (.cells #[.slice (some ⟨ga, 0, none⟩) 8 cap, .int .i64 0, .string .empty, .string .empty, .string .empty, .slice none 0 0, .slice none 0 0, .string .empty, .slice none 0 0, .slice none 0 0, .string .empty, .int .i64 0, .int .i64 0, .string .empty, .string .empty, .slice none 0 0, .slice none 0 0, .slice none 0 0, .string .empty, .int .i64 0, .int .i64 0, .string .empty, .string .empty, .slice none 0 0, .string .empty] 165)
  have HB2 := hide (hB1.alloc hB1.size (.cells #[.slice (some ⟨ga, 0, none⟩) 8 cap, .int .i64 0, .string .empty, .string .empty, .string .empty, .slice none 0 0, .slice none 0 0, .string .empty, .slice none 0 0, .slice none 0 0, .string .empty, .int .i64 0, .int .i64 0, .string .empty, .string .empty, .slice none 0 0, .slice none 0 0, .slice none 0 0, .string .empty, .int .i64 0, .int .i64 0, .string .empty, .string .empty, .slice none 0 0, .string .empty] 165))
  obtain ⟨b, hb1⟩ : ∃ x, x = w1.heap.size := ⟨_, rfl⟩
  have hne : w.heap.size ≠ b := by omega
  have hwb : w.heap.size ≤ b := by omega
  clear hown hb hsl hs hP hB0 hB1 hcap
  go_wp2_with fail
  refine HST.out.mono ?_
  rintro q w3 ⟨g, rfl, hg, kG, hx, hp⟩
  rw [← hb1] at hx hp ⊢
  have kR := kR.exc hx hne
  have HB3 := hide (HB2.out.trans (hx.bel (by omega) (by simp; omega)))
  have kP : Box w3 b 165 (#[.slice (some ⟨ga, 0, none⟩) 8 cap, .int .i64 8] ++ #[.string ⟨#[115, 101, 108, 101, 99, 116]⟩, .string ⟨#[116]⟩, .string .empty, .slice none 0 0, .slice none 0 0, .string .empty, .slice none 0 0, .slice none 0 0, .string .empty, .int .i64 0, .int .i64 0, .string .empty, .string .empty, .slice none 0 0, .slice none 0 0, .slice none 0 0, .string ⟨#[61]⟩, .int .i64 0, .int .i64 0, .string .empty, .string .empty, .slice (some ⟨g, 0, none⟩) 2 2, .string .empty]) := by
    have e : spCells (some ⟨ga, 0, none⟩) 8 cap 8 ⟨#[115, 101, 108, 101, 99, 116]⟩ ⟨#[116]⟩ ⟨#[61]⟩ (.slice (some ⟨g, 0, none⟩) 2 2) = (#[.slice (some ⟨ga, 0, none⟩) 8 cap, .int .i64 8] ++ #[.string ⟨#[115, 101, 108, 101, 99, 116]⟩, .string ⟨#[116]⟩, .string .empty, .slice none 0 0, .slice none 0 0, .string .empty, .slice none 0 0, .slice none 0 0, .string .empty, .int .i64 0, .int .i64 0, .string .empty, .string .empty, .slice none 0 0, .slice none 0 0, .slice none 0 0, .string ⟨#[61]⟩, .int .i64 0, .int .i64 0, .string .empty, .string .empty, .slice (some ⟨g, 0, none⟩) 2 2, .string .empty]) := by kernel_rfl
    rw [← e]
    exact hp.box
  have HM := hide (smay_8 g w3 kG)
  clear hx hp hg kG hb1
  go_wp2_with ((with_reducible refine wp_loadP (.tmp 24) rfl kP rfl (by kernel_rfl) ?_ ?_); (· simp [Region.wanted, yielded]))
  refine HM.out.mono ?_
  rintro q w4 ⟨rfl, hb⟩
  have kR := kR.belowS hb
  have kP := kP.belowS hb
  have HB4 := hide (HB3.out.trans (hb.mono HB3.out.size))
  clear hb
  go_wp2_with (first
    | ((with_reducible refine wp_loadP (.tmp 32) rfl kP rfl (by kernel_rfl) ?_ ?_); (· simp [Region.wanted]))
    | (with_reducible refine wp_storeS rfl (.tmp 2) (.tmp 33) rfl kR rfl rfl (by kernel_rfl) (by kernel_rfl) (by kernel_rfl) ?_; intro wA kA hxA))
  refine bodyPost_ret (v := .tuple #[.agg #[.string ⟨#[115, 101, 108, 101, 99, 116]⟩, .string ⟨#[116]⟩, .string .empty, .slice none 0 0, .slice none 0 0, .string .empty, .slice none 0 0, .slice none 0 0, .string .empty, .int .i64 0, .int .i64 0, .string .empty, .string .empty, .slice none 0 0, .slice none 0 0, .slice none 0 0, .string ⟨#[61]⟩, .int .i64 0, .int .i64 0, .string .empty, .string .empty, .slice (some ⟨g, 0, none⟩) 2 2, .string .empty], .int .i64 0]) ?_ rfl ⟨g, rfl, HB4.out.trans (hxA.bel (Nat.le_refl _) HB4.out.size)⟩
  exact res_stmt (p := 2) (u := 3) rfl _ _ w.heap.size #[.string ⟨#[115, 101, 108, 101, 99, 116]⟩, .string ⟨#[116]⟩, .string .empty, .slice none 0 0, .slice none 0 0, .string .empty, .slice none 0 0, .slice none 0 0, .string .empty, .int .i64 0, .int .i64 0, .string .empty, .string .empty, .slice none 0 0, .slice none 0 0, .slice none 0 0, .string ⟨#[61]⟩, .int .i64 0, .int .i64 0, .string .empty, .string .empty, .slice (some ⟨g, 0, none⟩) 2 2, .string .empty] rfl rfl kA
end Go.Proofs.YtojincohnjophaaGreatDoor
