/- The parser of statements: an expression (seat c). -/
import Derived.Test.YtojincohnjophaaGreatDoorExG
import Derived.Test.YtojincohnjophaaGreatDoorExE
import Derived.Deep.DeepCutAuto
import Derived.Deep.CutBlock
/-! The parser of expressions: may k = 1 be, Parse (seat c). -/
namespace Go.Proofs.YtojincohnjophaaGreatDoor
open Go.RowKit
set_option linter.unusedVariables false

set_option maxRecDepth 100000 in
set_option maxHeartbeats 1600000 in
theorem cmay_eq (b g : Nat) (w : World) (h : Box w b 301 #[.int .i64 0]) (hG : Box w g 107 twoCells) (hne : g ≠ b) :
    Calls Tryz.prog 224 #[.pointer (some ⟨b, 0, none⟩), .agg #[.string ⟨#[61]⟩, .int .i64 0, .int .i64 0, .string .empty, .string .empty, .slice (some ⟨g, 0, none⟩) 2 2], .int .i64 1] w fun q w' => q = .returned (.bool true) ∧ Exc b w w' ∧ Box w' b 301 #[.int .i64 3] := by
  have hlt := h.lt
  have hgl := hG.lt
  have c0 := h.cellAt (i := 0) rfl
  have f0 := h.frozen 0
  have kC := (h.set 0 (.int .i64 1)).up (.cells #[.string ⟨#[61]⟩, .int .i64 0, .int .i64 0, .string .empty, .string .empty, .slice (some ⟨g, 0, none⟩) 2 2] 107)
  have kG := (hG.other (a := ⟨b, 0, none⟩) (by simpa using hne.symm) (.int .i64 1)).up (.cells #[.string ⟨#[61]⟩, .int .i64 0, .int .i64 0, .string .empty, .string .empty, .slice (some ⟨g, 0, none⟩) 2 2] 107)
  have kE := Box.new (w.setCell ⟨b, 0, none⟩ (.int .i64 1)) 107 #[.string ⟨#[61]⟩, .int .i64 0, .int .i64 0, .string .empty, .string .empty, .slice (some ⟨g, 0, none⟩) 2 2]
  have esz : (w.setCell ⟨b, 0, none⟩ (.int .i64 1)).heap.size = w.heap.size := by simp [World.setCell]
  rw [esz] at kE
  have HX := hide (((Exc.refl b w).set 0 (.int .i64 1)).alloc (.cells #[.string ⟨#[61]⟩, .int .i64 0, .int .i64 0, .string .empty, .string .empty, .slice (some ⟨g, 0, none⟩) 2 2] 107))
  have HK := hide (fun ww hh => cmay_k b 1 2 (by omega) (by omega) ww hh)
  have HN := hide (fun ww hh => cmay_n b 2 2 (by omega) (by omega) ww hh)
  clear h hG esz
  go_enter Tryz.func224, Tryz.ntmps224
  go_upto_region 2 with (fail)
  generalize hwz : World.alloc _ _ = wz at *
  clear hwz
  have hbx : Below wz.heap.size wz wz.drew := (Below.refl _ _).drew
  have HP := hide parts_eq
  have HS : Hid (∀ ww, Below wz.heap.size wz ww → ww.cell? ⟨b, 0, none⟩ = some (.int .i64 1) ∧ ww.cell? ⟨w.heap.size, 0, none⟩ = some (.string ⟨#[61]⟩) ∧ ww.cell? ⟨w.heap.size, 5, none⟩ = some (.slice (some ⟨g, 0, none⟩) 2 2)) := fun ww hb => ⟨(kC.belowS hb).cellAt rfl, (kE.belowS hb).cellAt rfl, (kE.belowS hb).cellAt rfl⟩
  go_region_held3 (fun ww => ww.cell? ⟨b, 0, none⟩ = some (.int .i64 1) ∧ ww.cell? ⟨w.heap.size, 0, none⟩ = some (.string ⟨#[61]⟩) ∧ ww.cell? ⟨w.heap.size, 5, none⟩ = some (.slice (some ⟨g, 0, none⟩) 2 2))
    (first | exact HS.out _ hbx)
    (((with_reducible refine (HP.out _).mono ?_); (rintro q wq ⟨rfl, rfl⟩)))
  have HX := hide HX.out.drew
  have kC := kC.drew
  have kG := kG.drew
  have kE := kE.drew
  generalize wz.drew = w0 at *
  clear HS hbx
  have e0 := kE.cellAt (i := 0) rfl
  have e1 := kE.cellAt (i := 1) rfl
  have e2 := kE.cellAt (i := 2) rfl
  have e3 := kE.cellAt (i := 3) rfl
  have e4 := kE.cellAt (i := 4) rfl
  have e5 := kE.cellAt (i := 5) rfl
  have hlE := kE.lt
  have g0 : w0.cell? ⟨g, 0, none⟩ = some (.string ⟨#[99, 111, 108]⟩) := kG.cellAt (i := 0) rfl
  have g1 : w0.cell? ⟨g, 1, none⟩ = some (.int .i64 0) := kG.cellAt (i := 1) rfl
  have g2 : w0.cell? ⟨g, 2, none⟩ = some (.int .i64 0) := kG.cellAt (i := 2) rfl
  have g3 : w0.cell? ⟨g, 3, none⟩ = some (.string .empty) := kG.cellAt (i := 3) rfl
  have g4 : w0.cell? ⟨g, 4, none⟩ = some (.string ⟨#[107]⟩) := kG.cellAt (i := 4) rfl
  have g5 : w0.cell? ⟨g, 5, none⟩ = some (.slice none 0 0) := kG.cellAt (i := 5) rfl
  have g6 : w0.cell? ⟨g, 6, none⟩ = some (.string ⟨#[108, 105, 116]⟩) := kG.cellAt (i := 6) rfl
  have g7 : w0.cell? ⟨g, 7, none⟩ = some (.int .i64 1) := kG.cellAt (i := 7) rfl
  have g8 : w0.cell? ⟨g, 8, none⟩ = some (.int .i64 1) := kG.cellAt (i := 8) rfl
  have g9 : w0.cell? ⟨g, 9, none⟩ = some (.string .empty) := kG.cellAt (i := 9) rfl
  have g10 : w0.cell? ⟨g, 10, none⟩ = some (.string .empty) := kG.cellAt (i := 10) rfl
  have g11 : w0.cell? ⟨g, 11, none⟩ = some (.slice none 0 0) := kG.cellAt (i := 11) rfl
  go_wp2_with fail
  refine wp_loop_rounds 3 ?_
  rw [rounds_succ]
  go_wp2_with fail
  have kC1 := kC.up (.cells #[.string ⟨#[99, 111, 108]⟩, .int .i64 0, .int .i64 0, .string .empty, .string ⟨#[107]⟩, .slice none 0 0] 107)
  have kG1 := kG.up (.cells #[.string ⟨#[99, 111, 108]⟩, .int .i64 0, .int .i64 0, .string .empty, .string ⟨#[107]⟩, .slice none 0 0] 107)
  have HX1 := hide (HX.out.alloc (.cells #[.string ⟨#[99, 111, 108]⟩, .int .i64 0, .int .i64 0, .string .empty, .string ⟨#[107]⟩, .slice none 0 0] 107))
  refine (HK.out _ kC1).mono ?_
  rintro q w1 ⟨rfl, hx1, kC2⟩
  have kG2 := kG1.exc hx1 hne
  have HX2 := hide (HX1.out.trans hx1)
  have q6 : w1.cell? ⟨g, 6, none⟩ = some (.string ⟨#[108, 105, 116]⟩) := kG2.cellAt (i := 6) rfl
  have q7 : w1.cell? ⟨g, 7, none⟩ = some (.int .i64 1) := kG2.cellAt (i := 7) rfl
  have q8 : w1.cell? ⟨g, 8, none⟩ = some (.int .i64 1) := kG2.cellAt (i := 8) rfl
  have q9 : w1.cell? ⟨g, 9, none⟩ = some (.string .empty) := kG2.cellAt (i := 9) rfl
  have q10 : w1.cell? ⟨g, 10, none⟩ = some (.string .empty) := kG2.cellAt (i := 10) rfl
  have q11 : w1.cell? ⟨g, 11, none⟩ = some (.slice none 0 0) := kG2.cellAt (i := 11) rfl
  clear hx1 kC1 kG1 kC kG
  go_wp2_with fail
  rw [rounds_succ]
  go_wp2_with fail
  have kC3 := kC2.up (.cells #[.string ⟨#[108, 105, 116]⟩, .int .i64 1, .int .i64 1, .string .empty, .string .empty, .slice none 0 0] 107)
  have HX3 := hide (HX2.out.alloc (.cells #[.string ⟨#[108, 105, 116]⟩, .int .i64 1, .int .i64 1, .string .empty, .string .empty, .slice none 0 0] 107))
  refine (HN.out _ kC3).mono ?_
  rintro q w2 ⟨rfl, hx2, kC4⟩
  have HX4 := hide (HX3.out.trans hx2)
  have HC4 := hide kC4
  clear hx2 kC3 kC2 kC4
  go_wp2_with fail
  rw [rounds_succ]
  go_wp2_with fail
  go_ret
  exact ⟨rfl, HX4.out, HC4.out⟩

set_option maxRecDepth 100000 in
set_option maxHeartbeats 1600000 in
theorem emay_eq (g : Nat) (w : World) (hG : Box w g 107 twoCells) :
    Calls Tryz.prog 190 #[.agg #[.string ⟨#[61]⟩, .int .i64 0, .int .i64 0, .string .empty, .string .empty, .slice (some ⟨g, 0, none⟩) 2 2]] w fun q w' => q = .returned (.bool true) ∧ Below w.heap.size w w' := by
  have hgl := hG.lt
  have H := hide hG
  have HB := hide (((Below.refl w.heap.size w).alloc (Nat.le_refl _) (.cells #[.string ⟨#[61]⟩, .int .i64 0, .int .i64 0, .string .empty, .string .empty, .slice (some ⟨g, 0, none⟩) 2 2] 107)).alloc (by simp) (.cells #[.int .i64 0] 301))
  clear hG
  go_enter Tryz.func190, Tryz.ntmps190
  go_wp2_with fail
  have kC := Box.new (w.alloc (.cells #[.string ⟨#[61]⟩, .int .i64 0, .int .i64 0, .string .empty, .string .empty, .slice (some ⟨g, 0, none⟩) 2 2] 107)) 301 #[.int .i64 0]
  simp only [World.size_alloc] at kC
  refine (cmay_eq (w.heap.size + 1) g _ kC ((H.out.up _).up _) (by omega)).mono ?_
  rintro q w1 ⟨rfl, hx, _⟩
  have HBF := hide (HB.out.trans (hx.bel (by omega) (by simp; omega)))
  clear hx
  go_wp2_with fail
  go_ret
  exact ⟨rfl, HBF.out⟩
end Go.Proofs.YtojincohnjophaaGreatDoor

/-! The parser of expressions: Parse of k = 1 (seat c). -/
namespace Go.Proofs.YtojincohnjophaaGreatDoor
open Go.RowKit
set_option linter.unusedVariables false

theorem results_cell_tmp2 {fn : Func} {p u z : Tmp} {ty : TypeId} (h : fn.results = #[.cell p ty, .tmp u, .tmp z]) (tmps : Array Value) (P : Program) (w : World) :
    (results fn tmps).run P w =
      ((asAddr (tmps.getD p undef)).run P w).andThen fun a w₁ => ((loadVar ty a).run P w₁).andThen fun v w₂ => .ok (.tuple #[v, tmps.getD u undef, tmps.getD z undef]) w₂ := by
  simp only [results, h]
  simp [Sem.run_bind, Result.andThen]
/-- An expression that is laid in a cell of its own, and two temporaries: what a function returns. -/
theorem res_expr3 {fn : Func} {p u z : Tmp} (h : fn.results = #[.cell p 107, .tmp u, .tmp z]) (tmps : Array Value) (w : World) (g : Nat) (cs : Array Value) (hc : cs.size = 6)
    (hp : tmps.getD p undef = .pointer (some ⟨g, 0, none⟩)) (hB : Box w g 107 cs) : (results fn tmps).run Tryz.prog w = .ok (.tuple #[.agg cs, tmps.getD u undef, tmps.getD z undef]) w := by
  rw [results_cell_tmp2 h, hp]
  have hl := run_loadVar_row w g 107 107 cs (0, 0) _ hB Tryz.underlying107 rfl (by rw [hc]; kernel_rfl)
  simp [asAddr, hl, Result.andThen]
set_option maxRecDepth 100000 in
set_option maxHeartbeats 1600000 in
theorem eparse_any (A : Option Addr) (n c : Nat) (ts : List Tok) (hn : n ≤ 1000000) (h0 : ts[0]? = some (1, ⟨#[107]⟩)) (h1 : ts[0 + 1]? = some (4, ⟨#[61]⟩)) (h2 : ts[0 + 1 + 1]? = some (2, ⟨#[49]⟩)) (h3 : ts[0 + 1 + 1 + 1]? = none) (w : World) (h : Sl w (fun _ => True) 2 A n (cellsTk ts)) :
    Calls Tryz.prog 186 #[.slice A n c] w fun q w' => ∃ g, q = .returned (.tuple #[.agg #[.string ⟨#[61]⟩, .int .i64 0, .int .i64 0, .string .empty, .string .empty, .slice (some ⟨g, 0, none⟩) 2 2], .int .i64 3, .int .i64 0]) ∧ w.heap.size ≤ g ∧ Box w' g 107 twoCells ∧ Below w.heap.size w w' := by
  have HO : Hid (∀ b ww, Ps ww b A n c 0 0 ts → Calls Tryz.prog 217 #[.pointer (some ⟨b, 0, none⟩)] ww (EqPost b ww A n c 3 0 ts)) := hide fun b ww hh =>
    or_e b A n c 0 3 0 ts hn ww hh (taken_end h3 _) fun wa ha => and_e b A n c 0 3 0 ts hn wa ha (taken_end h3 _) fun wb hb => not_e b A n c 0 3 0 ts hn wb hb (by rw [takes_at h0]; decide) fun wc hc => comp_any b A n c 0 0 ts hn h0 h1 h2 h3 wc hc
  have HS0 := hide (h.lt')
  have HM := hide (fun g ww hG => emay_eq g ww hG)
  clear h h0 h1 h2 h3
  go_enter Tryz.func186, Tryz.ntmps186
  go_wp2_with fail
  have kR := (Box.new w 107 #[.string .empty, .int .i64 0, .int .i64 0, .string .empty, .string .empty, .slice none 0 0]).up (.cells #[.slice A n c, .int .i64 0, .int .i64 0] 291)
  have kP := Box.new (w.alloc (.cells #[.string .empty, .int .i64 0, .int .i64 0, .string .empty, .string .empty, .slice none 0 0] 107)) 291 #[.slice A n c, .int .i64 0, .int .i64 0]
  simp only [World.size_alloc] at kP
  have hb0 := ((Below.refl w.heap.size w).alloc (Nat.le_refl _) (.cells #[.string .empty, .int .i64 0, .int .i64 0, .string .empty, .string .empty, .slice none 0 0] 107)).alloc (by simp) (.cells #[.slice A n c, .int .i64 0, .int .i64 0] 291)
  have hP0 : Ps ((w.alloc (.cells #[.string .empty, .int .i64 0, .int .i64 0, .string .empty, .string .empty, .slice none 0 0] 107)).alloc (.cells #[.slice A n c, .int .i64 0, .int .i64 0] 291)) (w.heap.size + 1) A n c 0 0 ts := ⟨kP, (HS0.out.below hb0).mono fun x hx => by have := hx.2; omega⟩
  refine (HO.out _ _ hP0).mono ?_
  rintro q w1 ⟨g, rfl, hg, kG, hx1, hp1⟩
  have hg1 : w.heap.size + 2 ≤ g := by simpa using hg
  have kR := kR.exc hx1 (by omega)
  have hs1 : w.heap.size + 2 ≤ w1.heap.size := by simpa using hx1.size
  have hb1 := hb0.trans (hx1.bel (by omega) (by simp; omega))
  have kP := hp1.box
  have kT := Box.new w1 107 #[.string ⟨#[61]⟩, .int .i64 0, .int .i64 0, .string .empty, .string .empty, .slice (some ⟨g, 0, none⟩) 2 2]
  have kG := kG.up (.cells #[.string ⟨#[61]⟩, .int .i64 0, .int .i64 0, .string .empty, .string .empty, .slice (some ⟨g, 0, none⟩) 2 2] 107)
  have kR := kR.up (.cells #[.string ⟨#[61]⟩, .int .i64 0, .int .i64 0, .string .empty, .string .empty, .slice (some ⟨g, 0, none⟩) 2 2] 107)
  have kP := kP.up (.cells #[.string ⟨#[61]⟩, .int .i64 0, .int .i64 0, .string .empty, .string .empty, .slice (some ⟨g, 0, none⟩) 2 2] 107)
  have HB2 := hide (hb1.alloc (by omega) (.cells #[.string ⟨#[61]⟩, .int .i64 0, .int .i64 0, .string .empty, .string .empty, .slice (some ⟨g, 0, none⟩) 2 2] 107))
  have HMg := hide (HM.out g _ kG)
  obtain ⟨t6, ht6⟩ : ∃ x, x = w1.heap.size := ⟨_, rfl⟩
  have hlt6 : w.heap.size + 2 ≤ t6 := by omega
  clear hx1 hp1 hg hb0 hP0 hb1
  go_wp2_with fail
  refine HMg.out.mono ?_
  rintro q w2 ⟨rfl, hb2⟩
  rw [← ht6] at kT ⊢
  have kT := kT.belowS hb2
  have kG := kG.belowS hb2
  have kR := kR.belowS hb2
  have kP := kP.belowS hb2
  have HB3 := hide (HB2.out.trans (hb2.mono (by simp; omega)))
  have hs2 := kT.lt
  clear hb2 ht6 hs1
  go_upto_region 5 with (fail)
  have p0 := kR.cellAt (i := 0) rfl
  have f0 := kR.frozen 0
  have p1 := kR.cellAt (i := 1) rfl
  have f1 := kR.frozen 1
  have p2 := kR.cellAt (i := 2) rfl
  have f2 := kR.frozen 2
  have p3 := kR.cellAt (i := 3) rfl
  have f3 := kR.frozen 3
  have p4 := kR.cellAt (i := 4) rfl
  have f4 := kR.frozen 4
  have p5 := kR.cellAt (i := 5) rfl
  have f5 := kR.frozen 5
  have hne : w.heap.size ≠ t6 := by omega
  have hneP : w.heap.size ≠ w.heap.size + 1 := by omega
  have hneG : w.heap.size ≠ g := by omega
  have HS : Hid (w2.drew.cell? ⟨t6, 0, none⟩ = some (.string ⟨#[61]⟩) ∧ w2.drew.cell? ⟨t6, 1, none⟩ = some (.int .i64 0) ∧ w2.drew.cell? ⟨t6, 2, none⟩ = some (.int .i64 0) ∧ w2.drew.cell? ⟨t6, 3, none⟩ = some (.string .empty) ∧ w2.drew.cell? ⟨t6, 4, none⟩ = some (.string .empty) ∧ w2.drew.cell? ⟨t6, 5, none⟩ = some (.slice (some ⟨g, 0, none⟩) 2 2) ∧ w2.drew.cell? ⟨w.heap.size + 1, 1, none⟩ = some (.int .i64 3)) := hide ⟨kT.drew.cellAt rfl, kT.drew.cellAt rfl, kT.drew.cellAt rfl, kT.drew.cellAt rfl, kT.drew.cellAt rfl, kT.drew.cellAt rfl, kP.drew.cellAt rfl⟩
  have HS2 : Hid (∀ u0 u1 u2 u3 u4 u5, ((((((w2.setCell ⟨w.heap.size, 0, none⟩ u0).setCell ⟨w.heap.size, 1, none⟩ u1).setCell ⟨w.heap.size, 2, none⟩ u2).setCell ⟨w.heap.size, 3, none⟩ u3).setCell ⟨w.heap.size, 4, none⟩ u4).setCell ⟨w.heap.size, 5, none⟩ u5).drew.cell? ⟨t6, 0, none⟩ = some (.string ⟨#[61]⟩) ∧ ((((((w2.setCell ⟨w.heap.size, 0, none⟩ u0).setCell ⟨w.heap.size, 1, none⟩ u1).setCell ⟨w.heap.size, 2, none⟩ u2).setCell ⟨w.heap.size, 3, none⟩ u3).setCell ⟨w.heap.size, 4, none⟩ u4).setCell ⟨w.heap.size, 5, none⟩ u5).drew.cell? ⟨t6, 1, none⟩ = some (.int .i64 0) ∧ ((((((w2.setCell ⟨w.heap.size, 0, none⟩ u0).setCell ⟨w.heap.size, 1, none⟩ u1).setCell ⟨w.heap.size, 2, none⟩ u2).setCell ⟨w.heap.size, 3, none⟩ u3).setCell ⟨w.heap.size, 4, none⟩ u4).setCell ⟨w.heap.size, 5, none⟩ u5).drew.cell? ⟨t6, 2, none⟩ = some (.int .i64 0) ∧ ((((((w2.setCell ⟨w.heap.size, 0, none⟩ u0).setCell ⟨w.heap.size, 1, none⟩ u1).setCell ⟨w.heap.size, 2, none⟩ u2).setCell ⟨w.heap.size, 3, none⟩ u3).setCell ⟨w.heap.size, 4, none⟩ u4).setCell ⟨w.heap.size, 5, none⟩ u5).drew.cell? ⟨t6, 3, none⟩ = some (.string .empty) ∧ ((((((w2.setCell ⟨w.heap.size, 0, none⟩ u0).setCell ⟨w.heap.size, 1, none⟩ u1).setCell ⟨w.heap.size, 2, none⟩ u2).setCell ⟨w.heap.size, 3, none⟩ u3).setCell ⟨w.heap.size, 4, none⟩ u4).setCell ⟨w.heap.size, 5, none⟩ u5).drew.cell? ⟨t6, 4, none⟩ = some (.string .empty) ∧ ((((((w2.setCell ⟨w.heap.size, 0, none⟩ u0).setCell ⟨w.heap.size, 1, none⟩ u1).setCell ⟨w.heap.size, 2, none⟩ u2).setCell ⟨w.heap.size, 3, none⟩ u3).setCell ⟨w.heap.size, 4, none⟩ u4).setCell ⟨w.heap.size, 5, none⟩ u5).drew.cell? ⟨t6, 5, none⟩ = some (.slice (some ⟨g, 0, none⟩) 2 2) ∧ ((((((w2.setCell ⟨w.heap.size, 0, none⟩ u0).setCell ⟨w.heap.size, 1, none⟩ u1).setCell ⟨w.heap.size, 2, none⟩ u2).setCell ⟨w.heap.size, 3, none⟩ u3).setCell ⟨w.heap.size, 4, none⟩ u4).setCell ⟨w.heap.size, 5, none⟩ u5).drew.cell? ⟨w.heap.size + 1, 1, none⟩ = some (.int .i64 3)) := by
    refine hide fun u0 u1 u2 u3 u4 u5 => ?_
    have k6 := ((((((kT.other (a := ⟨w.heap.size, 0, none⟩) (by simpa using hne) u0).other (a := ⟨w.heap.size, 1, none⟩) (by simpa using hne) u1).other (a := ⟨w.heap.size, 2, none⟩) (by simpa using hne) u2).other (a := ⟨w.heap.size, 3, none⟩) (by simpa using hne) u3).other (a := ⟨w.heap.size, 4, none⟩) (by simpa using hne) u4).other (a := ⟨w.heap.size, 5, none⟩) (by simpa using hne) u5)
    have k7 := ((((((kP.other (a := ⟨w.heap.size, 0, none⟩) (by simp) u0).other (a := ⟨w.heap.size, 1, none⟩) (by simp) u1).other (a := ⟨w.heap.size, 2, none⟩) (by simp) u2).other (a := ⟨w.heap.size, 3, none⟩) (by simp) u3).other (a := ⟨w.heap.size, 4, none⟩) (by simp) u4).other (a := ⟨w.heap.size, 5, none⟩) (by simp) u5)
    exact ⟨k6.drew.cellAt rfl, k6.drew.cellAt rfl, k6.drew.cellAt rfl, k6.drew.cellAt rfl, k6.drew.cellAt rfl, k6.drew.cellAt rfl, k7.drew.cellAt rfl⟩
  have HKF := hide ((((((kR.set 0 (.string ⟨#[61]⟩)).set 1 (.int .i64 0)).set 2 (.int .i64 0)).set 3 (.string .empty)).set 4 (.string .empty)).set 5 (.slice (some ⟨g, 0, none⟩) 2 2)).drew
  have HGF := hide ((((((kG.other (a := ⟨w.heap.size, 0, none⟩) (by simpa using hneG) (.string ⟨#[61]⟩)).other (a := ⟨w.heap.size, 1, none⟩) (by simpa using hneG) (.int .i64 0)).other (a := ⟨w.heap.size, 2, none⟩) (by simpa using hneG) (.int .i64 0)).other (a := ⟨w.heap.size, 3, none⟩) (by simpa using hneG) (.string .empty)).other (a := ⟨w.heap.size, 4, none⟩) (by simpa using hneG) (.string .empty)).other (a := ⟨w.heap.size, 5, none⟩) (by simpa using hneG) (.slice (some ⟨g, 0, none⟩) 2 2)).drew
  have HBF := hide ((((((HB3.out.setCell (p := ⟨w.heap.size, 0, none⟩) (Nat.le_refl _) (.string ⟨#[61]⟩)).setCell (p := ⟨w.heap.size, 1, none⟩) (Nat.le_refl _) (.int .i64 0)).setCell (p := ⟨w.heap.size, 2, none⟩) (Nat.le_refl _) (.int .i64 0)).setCell (p := ⟨w.heap.size, 3, none⟩) (Nat.le_refl _) (.string .empty)).setCell (p := ⟨w.heap.size, 4, none⟩) (Nat.le_refl _) (.string .empty)).setCell (p := ⟨w.heap.size, 5, none⟩) (Nat.le_refl _) (.slice (some ⟨g, 0, none⟩) 2 2)).drew
  have hgw : w.heap.size ≤ g := by omega
  clear kR kT kP kG
  go_region_held3 (fun ww => ww.cell? ⟨t6, 0, none⟩ = some (.string ⟨#[61]⟩) ∧ ww.cell? ⟨t6, 1, none⟩ = some (.int .i64 0) ∧ ww.cell? ⟨t6, 2, none⟩ = some (.int .i64 0) ∧ ww.cell? ⟨t6, 3, none⟩ = some (.string .empty) ∧ ww.cell? ⟨t6, 4, none⟩ = some (.string .empty) ∧ ww.cell? ⟨t6, 5, none⟩ = some (.slice (some ⟨g, 0, none⟩) 2 2) ∧ ww.cell? ⟨w.heap.size + 1, 1, none⟩ = some (.int .i64 3))
    (first | (with_reducible exact HS.out) | (with_reducible exact HS2.out _ _ _ _ _ _))
    (fail)
  go_wp2_with fail
  refine bodyPost_ret (v := .tuple #[.agg #[.string ⟨#[61]⟩, .int .i64 0, .int .i64 0, .string .empty, .string .empty, .slice (some ⟨g, 0, none⟩) 2 2], .int .i64 3, .int .i64 0]) ?_ rfl ⟨g, rfl, hgw, HGF.out, HBF.out⟩
  exact res_expr3 (p := 2) (u := 3) (z := 4) rfl _ _ w.heap.size #[.string ⟨#[61]⟩, .int .i64 0, .int .i64 0, .string .empty, .string .empty, .slice (some ⟨g, 0, none⟩) 2 2] rfl rfl HKF.out
end Go.Proofs.YtojincohnjophaaGreatDoor

/-! The parser of statements: a name, an expression (seat c). -/
namespace Go.Proofs.YtojincohnjophaaGreatDoor
open Go.RowKit
set_option linter.unusedVariables false

set_option maxRecDepth 100000 in
theorem sname_t (w : World) : Calls Tryz.prog 181 #[.string ⟨#[116]⟩] w fun q w' => q = .returned (.bool true) ∧ Below w.heap.size w w' := by
  have HM := hide (fun ww => lname_t ww)
  have HR := hide (fun ww => reserved_t ww)
  go_enter Tryz.func181, Tryz.ntmps181
  go_wp2_with fail
  refine (HM.out _).mono ?_
  rintro q w1 ⟨rfl, hb⟩
  go_wp2_with fail
  refine (HR.out _).mono ?_
  rintro q w2 ⟨rfl, rfl⟩
  go_wp2_with fail
  go_ret
  exact ⟨rfl, hb⟩
set_option maxRecDepth 100000 in
set_option maxHeartbeats 1600000 in
theorem pname_t (b : Nat) (A : Option Addr) (n c i : Nat) (op tb wo : ByteArray) (wl : Value) (ts : List Tok) (hn : n ≤ 1000000) (hi : ts[i]? = some (1, ⟨#[116]⟩)) (w : World) (h : Sp w b A n c i op tb wo wl ts) :
    Calls Tryz.prog 141 #[.pointer (some ⟨b, 0, none⟩), .pointer (some ⟨b, 3, none⟩)] w fun q w' => q = .returned (.bool true) ∧ Exc b w w' ∧ Sp w' b A n c (i + 1) op ⟨#[116]⟩ wo wl ts := by
  have hlt : i < n := by
    have := (List.getElem?_eq_some_iff.1 hi).1
    have := h.sl.toks; omega
  have HN := hide sname_t
  have HI := hide hi
  have HH := hide h
  have hb := h.box.lt
  have hd : decide ((n : Int) ≤ (i : Int)) = false := by simp; omega
  have hd0 : decide (n ≤ i) = false := by simp; omega
  have hi1 : (0 : Int) ≤ (i : Int) := by omega
  have hi2 : (i : Int) < (n : Int) := by omega
  obtain ⟨ad, t, hA, ht, _, _⟩ := h.sl.tok hlt
  subst hA
  have hadb : ad.block ≠ b := by
    obtain ⟨a2, e, hv, _⟩ := h.sl.2 (by omega)
    obtain rfl := Option.some.inj e
    exact hv
  obtain rfl := Option.some.inj (HI.out.symm.trans ht)
  have HS : Hid (∀ ww, Below w.heap.size w ww → (ww.cell? ⟨b, 0, none⟩ = some (.slice (some ad) n c) ∧ ww.cell? ⟨b, 1, none⟩ = some (.int .i64 (i : Nat))) ∧ ww.cell? (ad.add (i * 2)) = some (.int .i64 1) ∧ ww.cell? ⟨(ad.add (i * 2)).block, (ad.add (i * 2)).off + 1, none⟩ = some (.string ⟨#[116]⟩)) := by
    refine hide fun ww hb => ?_
    have h2 := HH.out.below hb
    obtain ⟨a2, t2, ha2, ht2, h3, h4⟩ := h2.sl.tok hlt
    obtain rfl := Option.some.inj ha2
    obtain rfl := Option.some.inj (HI.out.symm.trans ht2)
    exact ⟨⟨h2.box.cellAt rfl, h2.box.cellAt rfl⟩, h3, h4⟩
  have hbx : Below w.heap.size w w.drew := (Below.refl _ _).drew
  clear hi h ht
  go_enter Tryz.func141, Tryz.ntmps141
  go_upto_region 1 with (fail)
  go_region_held3 (fun ww => (ww.cell? ⟨b, 0, none⟩ = some (.slice (some ad) n c) ∧ ww.cell? ⟨b, 1, none⟩ = some (.int .i64 (i : Nat))) ∧ ww.cell? (ad.add (i * 2)) = some (.int .i64 1) ∧ ww.cell? ⟨(ad.add (i * 2)).block, (ad.add (i * 2)).off + 1, none⟩ = some (.string ⟨#[116]⟩))
    (first | exact HS.out _ hbx)
    (((with_reducible refine (HN.out _).mono ?_); (rintro q wn ⟨rfl, hbn⟩; have hbx := hbx.trans (hbn.mono hbx.size))))
  have hbd := hbx.drew
  have hP := HH.out.below hbx
  have f3 := hP.box.frozen 3
  have k3 : wn.cell? ⟨b, 3, none⟩ = some (.string tb) := hP.box.cellAt rfl
  have HX := hide (((Exc.of (b := b) hbx).set 3 (.string ⟨#[116]⟩)).drew)
  have HS2 : Hid (∀ u, ((wn.setCell ⟨b, 3, none⟩ u).drew.cell? ⟨b, 0, none⟩ = some (.slice (some ad) n c) ∧ (wn.setCell ⟨b, 3, none⟩ u).drew.cell? ⟨b, 1, none⟩ = some (.int .i64 (i : Nat))) ∧ (wn.setCell ⟨b, 3, none⟩ u).drew.cell? (ad.add (i * 2)) = some (.int .i64 1) ∧ (wn.setCell ⟨b, 3, none⟩ u).drew.cell? ⟨(ad.add (i * 2)).block, (ad.add (i * 2)).off + 1, none⟩ = some (.string ⟨#[116]⟩)) := by
    refine hide fun u => ?_
    obtain ⟨⟨a1, a2⟩, a3, a4⟩ := HS.out _ hbx
    have hb1 : b ≠ (ad.add (i * 2)).block := by rw [blk_add]; exact hadb.symm
    refine ⟨⟨?_, ?_⟩, ?_, ?_⟩
    · exact (hP.box.set 3 u).drew.cellAt (by rfl)
    · exact (hP.box.set 3 u).drew.cellAt (by rfl)
    · exact (World.cell?_setCell_far wn ⟨b, 3, none⟩ (ad.add (i * 2)) u hb1).trans a3
    · exact (World.cell?_setCell_far wn ⟨b, 3, none⟩ ⟨(ad.add (i * 2)).block, (ad.add (i * 2)).off + 1, none⟩ u hb1).trans a4
  have HP2 := hide ((hP.setTb ⟨#[116]⟩).below (Below.refl _ _).drew)
  clear hP hbn
  go_upto_region 3 with (fail)
  go_region_held3 (fun ww => (ww.cell? ⟨b, 0, none⟩ = some (.slice (some ad) n c) ∧ ww.cell? ⟨b, 1, none⟩ = some (.int .i64 (i : Nat))) ∧ ww.cell? (ad.add (i * 2)) = some (.int .i64 1) ∧ ww.cell? ⟨(ad.add (i * 2)).block, (ad.add (i * 2)).off + 1, none⟩ = some (.string ⟨#[116]⟩))
    (first | (with_reducible exact HS.out _ hbx) | (with_reducible exact HS.out _ hbd) | (with_reducible exact HS2.out _))
    (fail)
  have f1 := HP2.out.box.frozen 1
  have k1 : ((wn.setCell ⟨b, 3, none⟩ (.string ⟨#[116]⟩)).drew).cell? ⟨b, 1, none⟩ = some (.int .i64 (i : Nat)) := HP2.out.box.cellAt rfl
  have HXF := hide (HX.out.set 1 (.int .i64 ((i + 1 : Nat) : Int)))
  have HPF := hide (HP2.out.set (i + 1))
  have ei : ((i + 1 : Nat) : Int) = (i : Int) + 1 := by simp
  rw [ei] at HXF HPF
  have hw : (i : Int) + 1 < 9223372036854775807 := by omega
  clear HS HS2 hbx hbd
  go_wp2_with fail
  go_ret
  exact ⟨rfl, HXF.out, HPF.out⟩
end Go.Proofs.YtojincohnjophaaGreatDoor

/-! The parser of statements: an expression (seat c). -/
namespace Go.Proofs.YtojincohnjophaaGreatDoor
open Go.RowKit
set_option linter.unusedVariables false

theorem cellsTk_drop : ∀ (l : List Tok) (k : Nat), (cellsTk l).drop (k * 2) = cellsTk (l.drop k)
  | [], k => by simp [cellsTk]
  | x :: l, 0 => rfl
  | x :: l, k + 1 => by
    have := cellsTk_drop l k
    have e : (k + 1) * 2 = k * 2 + 1 + 1 := by omega
    rw [e]
    exact this
/-- The tokens from one place on. -/
theorem Sl.rest {w : World} {V : Nat → Prop} {ad : Addr} {n c k : Nat} {l : List Tok} (h : Sl w V 2 (some ad) n (cellsTk l)) (hk : k < n) (hc : n ≤ c) : Sl w V 2 (some (ad.add (k * 2))) (n - k) (cellsTk (l.drop k)) := by
  have h1 := h.cut (k := k) (m := n) (cap := c) (by omega) (Nat.le_refl _) hc
  rw [if_neg (by omega)] at h1
  rw [cellsTk_drop, List.take_of_length_le (by rw [cellsTk_length, List.length_drop, h.toks]; omega)] at h1
  exact h1
/-- The result of expr.Parse, boxed. -/
def EBox (w : World) (p e n : Value) (wr : World) : Prop :=
  ∃ x g, p = .pointer (some ⟨x, 0, none⟩) ∧ e = .int .i64 3 ∧ n = .int .i64 0 ∧ w.heap.size ≤ x ∧ w.heap.size ≤ g ∧ Box wr x 107 #[.string ⟨#[61]⟩, .int .i64 0, .int .i64 0, .string .empty, .string .empty, .slice (some ⟨g, 0, none⟩) 2 2] ∧ Box wr g 107 twoCells ∧ Below w.heap.size w wr
theorem ebox_new {w wn : World} {g : Nat} (hb : Below w.heap.size w wn) (hg : w.heap.size ≤ g) (kG : Box wn g 107 twoCells) : EBox w (.pointer (some ⟨wn.heap.size, 0, none⟩)) (.int .i64 3) (.int .i64 0) ((wn.alloc (.cells #[.string ⟨#[61]⟩, .int .i64 0, .int .i64 0, .string .empty, .string .empty, .slice (some ⟨g, 0, none⟩) 2 2] 107))) :=
  ⟨wn.heap.size, g, rfl, rfl, rfl, hb.size, hg, (Box.new wn 107 #[.string ⟨#[61]⟩, .int .i64 0, .int .i64 0, .string .empty, .string .empty, .slice (some ⟨g, 0, none⟩) 2 2]), (kG.up _), (hb.alloc hb.size _)⟩
theorem ebox_old {w wn : World} {g : Nat} (hb : Below w.heap.size w wn) (hg : w.heap.size + 1 ≤ g) (kG : Box wn g 107 twoCells) (kX : Box wn w.heap.size 107 #[.string ⟨#[]⟩, .int .i64 0, .int .i64 0, .string ⟨#[]⟩, .string ⟨#[]⟩, .slice none 0 0]) : EBox w (.pointer (some ⟨w.heap.size, 0, none⟩)) (.int .i64 3) (.int .i64 0) (((((((wn.setCell ⟨w.heap.size, 0, none⟩ (.string ⟨#[61]⟩)).setCell ⟨w.heap.size, 1, none⟩ (.int .i64 0)).setCell ⟨w.heap.size, 2, none⟩ (.int .i64 0)).setCell ⟨w.heap.size, 3, none⟩ (.string .empty)).setCell ⟨w.heap.size, 4, none⟩ (.string .empty)).setCell ⟨w.heap.size, 5, none⟩ (.slice (some ⟨g, 0, none⟩) 2 2))) :=
  have hne : w.heap.size ≠ g := by omega
  ⟨w.heap.size, g, rfl, rfl, rfl, Nat.le_refl _, by omega, ((((((kX.set 0 (.string ⟨#[61]⟩)).set 1 (.int .i64 0)).set 2 (.int .i64 0)).set 3 (.string .empty)).set 4 (.string .empty)).set 5 (.slice (some ⟨g, 0, none⟩) 2 2)), ((((((kG.other (a := ⟨w.heap.size, 0, none⟩) (by simpa using hne) (.string ⟨#[61]⟩)).other (a := ⟨w.heap.size, 1, none⟩) (by simpa using hne) (.int .i64 0)).other (a := ⟨w.heap.size, 2, none⟩) (by simpa using hne) (.int .i64 0)).other (a := ⟨w.heap.size, 3, none⟩) (by simpa using hne) (.string .empty)).other (a := ⟨w.heap.size, 4, none⟩) (by simpa using hne) (.string .empty)).other (a := ⟨w.heap.size, 5, none⟩) (by simpa using hne) (.slice (some ⟨g, 0, none⟩) 2 2)), ((((((hb.setCell (p := ⟨w.heap.size, 0, none⟩) (Nat.le_refl _) (.string ⟨#[61]⟩)).setCell (p := ⟨w.heap.size, 1, none⟩) (Nat.le_refl _) (.int .i64 0)).setCell (p := ⟨w.heap.size, 2, none⟩) (Nat.le_refl _) (.int .i64 0)).setCell (p := ⟨w.heap.size, 3, none⟩) (Nat.le_refl _) (.string .empty)).setCell (p := ⟨w.heap.size, 4, none⟩) (Nat.le_refl _) (.string .empty)).setCell (p := ⟨w.heap.size, 5, none⟩) (Nat.le_refl _) (.slice (some ⟨g, 0, none⟩) 2 2))⟩
set_option maxRecDepth 100000 in
set_option maxHeartbeats 1600000 in
theorem sexpr_8 (b : Nat) (A : Option Addr) (c : Nat) (op tb : ByteArray) (ts : List Tok) (h0 : ts[5]? = some (1, ⟨#[107]⟩)) (h1 : ts[6]? = some (4, ⟨#[61]⟩)) (h2 : ts[7]? = some (2, ⟨#[49]⟩)) (hc : 8 ≤ c) (w : World) (h : Sp w b A 8 c 5 op tb .empty (.slice none 0 0) ts) :
    Calls Tryz.prog 155 #[.pointer (some ⟨b, 0, none⟩), .pointer (some ⟨b, 18, none⟩)] w fun q w' => ∃ g, q = .returned (.bool true) ∧ w.heap.size ≤ g ∧ Box w' g 107 twoCells ∧ Exc b w w' ∧ Sp w' b A 8 c 8 op tb ⟨#[61]⟩ (.slice (some ⟨g, 0, none⟩) 2 2) ts := by
  have hl : ts.length = 8 := h.sl.toks
  obtain ⟨ad, t, hA, _, _, _⟩ := h.sl.tok (k := 5) (by omega)
  subst hA
  have HE : Hid (∀ A' c' ww, Sl ww (fun _ => True) 2 A' 3 (cellsTk (ts.drop 5)) → Calls Tryz.prog 186 #[.slice A' 3 c'] ww fun q w' => ∃ g, q = .returned (.tuple #[.agg #[.string ⟨#[61]⟩, .int .i64 0, .int .i64 0, .string .empty, .string .empty, .slice (some ⟨g, 0, none⟩) 2 2], .int .i64 3, .int .i64 0]) ∧ ww.heap.size ≤ g ∧ Box w' g 107 twoCells ∧ Below ww.heap.size ww w') := hide fun A' c' ww hs =>
    eparse_any A' 3 c' (ts.drop 5) (by omega) (by simpa using h0) (by simpa using h1) (by simpa using h2) (by simp; omega) ww hs
  have HSL : Hid (∀ ww, Below w.heap.size w ww → Sl ww (fun _ => True) 2 (some ⟨ad.block, ad.off + 10, none⟩) 3 (cellsTk (ts.drop 5))) := hide fun ww hb => (Addr.add_succ' ad 9) ▸ ((h.below hb).sl.any).rest (k := 5) (by omega) hc
  have H := hide h
  have HS : Hid (∀ ww, Below w.heap.size w ww → ww.cell? ⟨b, 0, none⟩ = some (.slice (some ad) 8 c) ∧ ww.cell? ⟨b, 1, none⟩ = some (.int .i64 5)) := hide fun ww hb => ⟨(h.below hb).box.cellAt rfl, (h.below hb).box.cellAt rfl⟩
  have hbx : Below w.heap.size w w.drew := (Below.refl _ _).drew
  have hc1 : ((8 : Int) ≤ (c : Int)) := by omega
  have hc2 : ¬ c = 5 := by omega
  have hb := h.box.lt
  clear h h0 h1 h2 hl
  go_enter Tryz.func155, Tryz.ntmps155
  go_upto_region 1 with (fail)
  have hby := ((Below.refl w.heap.size w).alloc (Nat.le_refl _) (.cells #[.string ⟨#[]⟩, .int .i64 0, .int .i64 0, .string ⟨#[]⟩, .string ⟨#[]⟩, .slice none 0 0] 107)).drew
  have kX := (Box.new w 107 #[.string ⟨#[]⟩, .int .i64 0, .int .i64 0, .string ⟨#[]⟩, .string ⟨#[]⟩, .slice none 0 0]).drew
  have HSW : Hid (∀ wn, Below w.heap.size w wn → ∀ u0 u1 u2 u3 u4 u5, (((((((wn.setCell ⟨w.heap.size, 0, none⟩ u0).setCell ⟨w.heap.size, 1, none⟩ u1).setCell ⟨w.heap.size, 2, none⟩ u2).setCell ⟨w.heap.size, 3, none⟩ u3).setCell ⟨w.heap.size, 4, none⟩ u4).setCell ⟨w.heap.size, 5, none⟩ u5)).cell? ⟨b, 0, none⟩ = some (.slice (some ad) 8 c) ∧ (((((((wn.setCell ⟨w.heap.size, 0, none⟩ u0).setCell ⟨w.heap.size, 1, none⟩ u1).setCell ⟨w.heap.size, 2, none⟩ u2).setCell ⟨w.heap.size, 3, none⟩ u3).setCell ⟨w.heap.size, 4, none⟩ u4).setCell ⟨w.heap.size, 5, none⟩ u5)).cell? ⟨b, 1, none⟩ = some (.int .i64 5)) := hide fun wn hb u0 u1 u2 u3 u4 u5 => HS.out _ ((((((hb.setCell (p := ⟨w.heap.size, 0, none⟩) (Nat.le_refl _) u0).setCell (p := ⟨w.heap.size, 1, none⟩) (Nat.le_refl _) u1).setCell (p := ⟨w.heap.size, 2, none⟩) (Nat.le_refl _) u2).setCell (p := ⟨w.heap.size, 3, none⟩) (Nat.le_refl _) u3).setCell (p := ⟨w.heap.size, 4, none⟩) (Nat.le_refl _) u4).setCell (p := ⟨w.heap.size, 5, none⟩) (Nat.le_refl _) u5)
  go_cut [5, 6, 7] from 8 to 21 (fun p e n we => EBox w p e n we)
  case first =>
    go_region_held3 (fun ww => ww.cell? ⟨b, 0, none⟩ = some (.slice (some ad) 8 c) ∧ ww.cell? ⟨b, 1, none⟩ = some (.int .i64 5))
      (first | (with_reducible exact HS.out _ hbx) | (with_reducible exact HS.out _ hby) | (with_reducible exact HS.out _ (hbx.alloc hbx.size _)) | (with_reducible exact HS.out _ ((hbx.alloc hbx.size _).drew)) | (with_reducible exact HSW.out _ hbx _ _ _ _ _ _))
      (first
        | ((with_reducible refine (HE.out _ _ w.drew (HSL.out _ hbx)).mono ?_); (rintro q wn ⟨g, rfl, hg, kG, hbn⟩; have hbx := hbx.trans (hbn.mono hbx.size); clear hby kX))
        | ((with_reducible refine (HE.out _ _ _ (HSL.out _ hby)).mono ?_); (rintro q wn ⟨g, rfl, hg, kG, hbn⟩; have kX := kX.belowS hbn; have hbx := hby.trans (hbn.mono hby.size); have p0 := kX.cellAt (i := 0) rfl; have f0 := kX.frozen 0; have p1 := kX.cellAt (i := 1) rfl; have f1 := kX.frozen 1; have p2 := kX.cellAt (i := 2) rfl; have f2 := kX.frozen 2; have p3 := kX.cellAt (i := 3) rfl; have f3 := kX.frozen 3; have p4 := kX.cellAt (i := 4) rfl; have f4 := kX.frozen 4; have p5 := kX.cellAt (i := 5) rfl; have f5 := kX.frozen 5)))
    all_goals go_wp2_with fail
    all_goals go_meet
    · exact ebox_new hbx hg kG
    · exact ebox_old hbx (by simpa using hg) kG kX
  case rest =>
    clear hby kX HSW hbx HE HSL HS
    obtain ⟨x, g, rfl, rfl, rfl, hx, hg, kX, kG, hbL⟩ := hcut
    have hP := H.out.below hbL
    have hgb : b ≠ g := by omega
    have e0 : wc.cell? ⟨x, 0, none⟩ = some (.string ⟨#[61]⟩) := kX.cellAt rfl
    have f0 := hP.box.frozen 18
    have e1 : wc.cell? ⟨x, 1, none⟩ = some (.int .i64 0) := kX.cellAt rfl
    have f1 := hP.box.frozen 19
    have e2 : wc.cell? ⟨x, 2, none⟩ = some (.int .i64 0) := kX.cellAt rfl
    have f2 := hP.box.frozen 20
    have e3 : wc.cell? ⟨x, 3, none⟩ = some (.string .empty) := kX.cellAt rfl
    have f3 := hP.box.frozen 21
    have e4 : wc.cell? ⟨x, 4, none⟩ = some (.string .empty) := kX.cellAt rfl
    have f4 := hP.box.frozen 22
    have e5 : wc.cell? ⟨x, 5, none⟩ = some (.slice (some ⟨g, 0, none⟩) 2 2) := kX.cellAt rfl
    have f5 := hP.box.frozen 23
    have p0 : wc.cell? ⟨b, 18, none⟩ = some (.string .empty) := hP.box.cellAt rfl
    have p1 : wc.cell? ⟨b, 19, none⟩ = some (.int .i64 0) := hP.box.cellAt rfl
    have p2 : wc.cell? ⟨b, 20, none⟩ = some (.int .i64 0) := hP.box.cellAt rfl
    have p3 : wc.cell? ⟨b, 21, none⟩ = some (.string .empty) := hP.box.cellAt rfl
    have p4 : wc.cell? ⟨b, 22, none⟩ = some (.string .empty) := hP.box.cellAt rfl
    have p5 : wc.cell? ⟨b, 23, none⟩ = some (.slice none 0 0) := hP.box.cellAt rfl
    have p6 : wc.cell? ⟨b, 1, none⟩ = some (.int .i64 5) := hP.box.cellAt rfl
    have f6 := hP.box.frozen 1
    have HXF := hide ((((((((Exc.of (b := b) hbL).set 18 (.string ⟨#[61]⟩)).set 19 (.int .i64 0)).set 20 (.int .i64 0)).set 21 (.string .empty)).set 22 (.string .empty)).set 23 (.slice (some ⟨g, 0, none⟩) 2 2)).set 1 (.int .i64 8))
    have HPF := hide ((hP.setW ⟨#[61]⟩ (.slice (some ⟨g, 0, none⟩) 2 2)).set 8)
    have HGF := hide (((((((kG.other (a := ⟨b, 18, none⟩) (by simpa using hgb) (.string ⟨#[61]⟩)).other (a := ⟨b, 19, none⟩) (by simpa using hgb) (.int .i64 0)).other (a := ⟨b, 20, none⟩) (by simpa using hgb) (.int .i64 0)).other (a := ⟨b, 21, none⟩) (by simpa using hgb) (.string .empty)).other (a := ⟨b, 22, none⟩) (by simpa using hgb) (.string .empty)).other (a := ⟨b, 23, none⟩) (by simpa using hgb) (.slice (some ⟨g, 0, none⟩) 2 2)).other (a := ⟨b, 1, none⟩) (by simpa using hgb) (.int .i64 8))
    clear hP kX kG hbL
    go_wp2_with fail
    go_ret
    exact ⟨g, rfl, hg, HGF.out, HXF.out, HPF.out⟩
end Go.Proofs.YtojincohnjophaaGreatDoor
