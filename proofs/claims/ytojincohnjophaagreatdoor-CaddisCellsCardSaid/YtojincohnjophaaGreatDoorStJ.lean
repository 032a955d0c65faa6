/- worksFirst: the value and the statement of two fixed texts (seat c). -/
import Derived.Test.YtojincohnjophaaGreatDoorStI
namespace Go.Proofs.YtojincohnjophaaGreatDoor
open Go.RowKit
set_option linter.unusedVariables false

set_option maxRecDepth 100000 in
set_option maxHeartbeats 1600000 in
theorem works_any (m : Int) (w : World) (hm : w.cell? ⟨0, 0, none⟩ = some (.int .i64 m)) : Calls Tryz.prog 19 #[] w fun q w' => q = .returned (.bool true) ∧ Below w.heap.size w w' := by
  have HV := hide (vparse_its m w hm)
  have HP := hide sparse_8
  clear hm
  go_enter Tryz.func19, Tryz.ntmps19
  go_wp2_with fail
  refine HV.out.mono ?_
  rintro q w1 ⟨rfl, hb⟩
  have HB1 := hide (hb.alloc hb.size (.cells #[.int .i64 2, .int .i64 0, .string ⟨#[105, 116, 39, 115]⟩] 100))
  have kV := Box.new w1 100 #[.int .i64 2, .int .i64 0, .string ⟨#[105, 116, 39, 115]⟩]
  have hs1 := hb.size
  obtain ⟨vb, hvb⟩ : ∃ x, x = w1.heap.size := ⟨_, rfl⟩
  rw [← hvb] at kV
  clear hb
  go_wp2_with fail
  refine (HP.out _).mono ?_
  rintro q w2 ⟨g, rfl, hb⟩
  rw [← hvb]
  have kV := kV.belowS hb
  have kV2 := kV.up (.cells #[.string ⟨#[]⟩, .string ⟨#[]⟩, .string ⟨#[]⟩, .slice none 0 0, .slice none 0 0, .string ⟨#[]⟩, .slice none 0 0, .slice none 0 0, .string ⟨#[]⟩, .int .i64 0, .int .i64 0, .string ⟨#[]⟩, .string ⟨#[]⟩, .slice none 0 0, .slice none 0 0, .slice none 0 0, .string ⟨#[]⟩, .int .i64 0, .int .i64 0, .string ⟨#[]⟩, .string ⟨#[]⟩, .slice none 0 0, .string ⟨#[]⟩] 111)
  have kR := Box.new w2 111 #[.string ⟨#[]⟩, .string ⟨#[]⟩, .string ⟨#[]⟩, .slice none 0 0, .slice none 0 0, .string ⟨#[]⟩, .slice none 0 0, .slice none 0 0, .string ⟨#[]⟩, .int .i64 0, .int .i64 0, .string ⟨#[]⟩, .string ⟨#[]⟩, .slice none 0 0, .slice none 0 0, .slice none 0 0, .string ⟨#[]⟩, .int .i64 0, .int .i64 0, .string ⟨#[]⟩, .string ⟨#[]⟩, .slice none 0 0, .string ⟨#[]⟩]
  have HB2 := hide (HB1.out.trans (hb.mono HB1.out.size))
  have HB3 := hide (HB2.out.alloc HB2.out.size (.cells #[.string ⟨#[]⟩, .string ⟨#[]⟩, .string ⟨#[]⟩, .slice none 0 0, .slice none 0 0, .string ⟨#[]⟩, .slice none 0 0, .slice none 0 0, .string ⟨#[]⟩, .int .i64 0, .int .i64 0, .string ⟨#[]⟩, .string ⟨#[]⟩, .slice none 0 0, .slice none 0 0, .slice none 0 0, .string ⟨#[]⟩, .int .i64 0, .int .i64 0, .string ⟨#[]⟩, .string ⟨#[]⟩, .slice none 0 0, .string ⟨#[]⟩] 111))
  have hvl := kV.lt
  obtain ⟨sb, hsb⟩ : ∃ x, x = w2.heap.size := ⟨_, rfl⟩
  have hws : w.heap.size ≤ sb := by have := HB2.out.size; omega
  clear hb hvb kV
  go_upto_region 3 with (with_reducible refine wp_storeS rfl (.tmp 3) (.tmp 11) rfl kR rfl rfl (by kernel_rfl) (by kernel_rfl) (by kernel_rfl) ?_; intro wA kA hxA)
  rw [← hsb] at kA hxA ⊢
  have kV := kV2.exc hxA (by omega)
  have HBF := hide (HB3.out.trans (hxA.bel hws (by simp; omega)))
  have e0 : wA.cell? ⟨vb, 2, none⟩ = some (.string ⟨#[105, 116, 39, 115]⟩) := kV.cellAt rfl
  have e1 : wA.cell? ⟨sb, 1, none⟩ = some (.string ⟨#[116]⟩) := kA.cellAt rfl
  clear kV kV2 kR kA hxA hsb
  go_wp2_with fail
  go_ret
  exact ⟨rfl, HBF.out⟩
end Go.Proofs.YtojincohnjophaaGreatDoor
