/- May an expression be: the count of nodes (seat c). -/
import Derived.Test.YtojincohnjophaaGreatDoorExK
import Derived.Test.YtojincohnjophaaGreatDoorExE
/-! The parser of expressions: not, and, or over the comparison k = 1 (seat c). -/
namespace Go.Proofs.YtojincohnjophaaGreatDoor
open Go.RowKit
set_option linter.unusedVariables false

set_option maxRecDepth 100000 in
set_option maxHeartbeats 1600000 in
theorem chain_not_e (b : Nat) (A : Option Addr) (n c i j deep : Nat) (ts : List Tok) (hn : n ≤ 1000000) (B : Option Addr) (m e : Nat) (ws : List ByteArray) (hm : m ≤ 1000000) (w : World) (h : Ps w b A n c i deep ts)
    (hw : Sl w (fun x => x ≠ b) 1 B m (strs ws)) (ho : takenO ts j ws = none)
    (hp : ∀ ww, Ps ww b A n c i deep ts → Calls Tryz.prog 255 #[.pointer (some ⟨b, 0, none⟩)] ww (EqPost b ww A n c j deep ts)) :
    Calls Tryz.prog 239 #[.pointer (some ⟨b, 0, none⟩), .func (Fn.func 255) #[.pointer (some ⟨b, 0, none⟩)] #[], .slice B m e] w (EqPost b w A n c j deep ts) := by
  have HP := hide hp
  have H := hide h
  have HW := hide hw
  have HO := hide ho
  clear hp h hw ho
  go_enter Tryz.func239, Tryz.ntmps239
  go_wp2_with fail
  have kE := Box.new w 107 #[.string .empty, .int .i64 0, .int .i64 0, .string .empty, .string .empty, .slice none 0 0]
  have HE := hide ((Exc.refl b w).alloc (.cells #[.string .empty, .int .i64 0, .int .i64 0, .string .empty, .string .empty, .slice none 0 0] 107))
  refine (HP.out _ (H.out.below ((Below.refl _ _).alloc (Nat.le_refl _) (.cells #[.string .empty, .int .i64 0, .int .i64 0, .string .empty, .string .empty, .slice none 0 0] 107)))).mono ?_
  rintro q w1 ⟨g, rfl, hg, kG, hx1, hp1⟩
  have hg1 : w.heap.size + 1 ≤ g := by simpa using hg
  have hbw := H.out.box.lt
  have kE := kE.exc hx1 (by omega)
  have HX1 := hide (HE.out.trans hx1)
  have HP1 := hide hp1
  have hgl := kG.lt
  clear hx1 hp1 hg
  go_wp2_with fail
  have hb1 := HP1.out.box.lt
  have kN := Box.new w1 107 #[.string ⟨#[61]⟩, .int .i64 0, .int .i64 0, .string .empty, .string .empty, .slice (some ⟨g, 0, none⟩) 2 2]
  have kE := kE.up (.cells #[.string ⟨#[61]⟩, .int .i64 0, .int .i64 0, .string .empty, .string .empty, .slice (some ⟨g, 0, none⟩) 2 2] 107)
  have kG := kG.up (.cells #[.string ⟨#[61]⟩, .int .i64 0, .int .i64 0, .string .empty, .string .empty, .slice (some ⟨g, 0, none⟩) 2 2] 107)
  have HX2 := hide (HX1.out.alloc (.cells #[.string ⟨#[61]⟩, .int .i64 0, .int .i64 0, .string .empty, .string .empty, .slice (some ⟨g, 0, none⟩) 2 2] 107))
  have HP2 := HP1.out.below ((Below.refl _ _).alloc (Nat.le_refl _) (.cells #[.string ⟨#[61]⟩, .int .i64 0, .int .i64 0, .string .empty, .string .empty, .slice (some ⟨g, 0, none⟩) 2 2] 107))
  have HT := taken_any b A n c j deep ts hn B m e ws hm _ HP2 ((HW.out.exc HX2.out))
  rw [HO.out] at HT
  have HT := hide HT
  refine wp_loop_rounds 1 ?_
  rw [rounds_succ]
  go_wp2_with fail
  refine HT.out.mono ?_
  rintro q w2 ⟨rfl, hx2, hp2⟩
  have kE := kE.exc hx2 (by omega)
  have kN := kN.exc hx2 (by omega)
  have kG := kG.exc hx2 (by omega)
  have HX3 := hide (HX2.out.trans hx2)
  simp only [Option.isSome_none, Bool.false_eq_true, if_false] at hp2
  have HP3 := hide hp2
  clear hx2 hp2 HP2
  have hneb : w.heap.size ≠ b := by omega
  have hneG : w.heap.size ≠ g := by omega
  have e0 := kN.cellAt (i := 0) rfl
  have e1 := kN.cellAt (i := 1) rfl
  have e2 := kN.cellAt (i := 2) rfl
  have e3 := kN.cellAt (i := 3) rfl
  have e4 := kN.cellAt (i := 4) rfl
  have e5 := kN.cellAt (i := 5) rfl
  have p0 := kE.cellAt (i := 0) rfl
  have f0 := kE.frozen 0
  have p1 := kE.cellAt (i := 1) rfl
  have f1 := kE.frozen 1
  have p2 := kE.cellAt (i := 2) rfl
  have f2 := kE.frozen 2
  have p3 := kE.cellAt (i := 3) rfl
  have f3 := kE.frozen 3
  have p4 := kE.cellAt (i := 4) rfl
  have f4 := kE.frozen 4
  have p5 := kE.cellAt (i := 5) rfl
  have f5 := kE.frozen 5
  have HKF := hide ((((((kE.set 0 (.string ⟨#[61]⟩)).set 1 (.int .i64 0)).set 2 (.int .i64 0)).set 3 (.string .empty)).set 4 (.string .empty)).set 5 (.slice (some ⟨g, 0, none⟩) 2 2))
  have HXF := hide ((((((HX3.out.setNew (x := ⟨w.heap.size, 0, none⟩) (Nat.le_refl _) (.string ⟨#[61]⟩)).setNew (x := ⟨w.heap.size, 1, none⟩) (Nat.le_refl _) (.int .i64 0)).setNew (x := ⟨w.heap.size, 2, none⟩) (Nat.le_refl _) (.int .i64 0)).setNew (x := ⟨w.heap.size, 3, none⟩) (Nat.le_refl _) (.string .empty)).setNew (x := ⟨w.heap.size, 4, none⟩) (Nat.le_refl _) (.string .empty)).setNew (x := ⟨w.heap.size, 5, none⟩) (Nat.le_refl _) (.slice (some ⟨g, 0, none⟩) 2 2))
  have HBF := hide ((((((HP3.out.box.other (a := ⟨w.heap.size, 0, none⟩) (by simpa using hneb) (.string ⟨#[61]⟩)).other (a := ⟨w.heap.size, 1, none⟩) (by simpa using hneb) (.int .i64 0)).other (a := ⟨w.heap.size, 2, none⟩) (by simpa using hneb) (.int .i64 0)).other (a := ⟨w.heap.size, 3, none⟩) (by simpa using hneb) (.string .empty)).other (a := ⟨w.heap.size, 4, none⟩) (by simpa using hneb) (.string .empty)).other (a := ⟨w.heap.size, 5, none⟩) (by simpa using hneb) (.slice (some ⟨g, 0, none⟩) 2 2))
  have HGF := hide ((((((kG.other (a := ⟨w.heap.size, 0, none⟩) (by simpa using hneG) (.string ⟨#[61]⟩)).other (a := ⟨w.heap.size, 1, none⟩) (by simpa using hneG) (.int .i64 0)).other (a := ⟨w.heap.size, 2, none⟩) (by simpa using hneG) (.int .i64 0)).other (a := ⟨w.heap.size, 3, none⟩) (by simpa using hneG) (.string .empty)).other (a := ⟨w.heap.size, 4, none⟩) (by simpa using hneG) (.string .empty)).other (a := ⟨w.heap.size, 5, none⟩) (by simpa using hneG) (.slice (some ⟨g, 0, none⟩) 2 2))
  clear kN kE kG
  go_wp2_with fail
  refine bodyPost_ret (v := .tuple #[.agg #[.string ⟨#[61]⟩, .int .i64 0, .int .i64 0, .string .empty, .string .empty, .slice (some ⟨g, 0, none⟩) 2 2], .bool true]) ?_ rfl ⟨g, rfl, by omega, HGF.out, HXF.out, ⟨HBF.out, H.out.sl.exc HXF.out⟩⟩
  exact res_expr (p := 6) (u := 7) rfl _ _ w.heap.size #[.string ⟨#[61]⟩, .int .i64 0, .int .i64 0, .string .empty, .string .empty, .slice (some ⟨g, 0, none⟩) 2 2] rfl rfl HKF.out
set_option maxRecDepth 100000 in
set_option maxHeartbeats 1600000 in
theorem chain_and_e (b : Nat) (A : Option Addr) (n c i j deep : Nat) (ts : List Tok) (hn : n ≤ 1000000) (B : Option Addr) (m e : Nat) (ws : List ByteArray) (hm : m ≤ 1000000) (w : World) (h : Ps w b A n c i deep ts)
    (hw : Sl w (fun x => x ≠ b) 1 B m (strs ws)) (ho : takenO ts j ws = none)
    (hp : ∀ ww, Ps ww b A n c i deep ts → Calls Tryz.prog 240 #[.pointer (some ⟨b, 0, none⟩)] ww (EqPost b ww A n c j deep ts)) :
    Calls Tryz.prog 239 #[.pointer (some ⟨b, 0, none⟩), .func (Fn.func 240) #[.pointer (some ⟨b, 0, none⟩)] #[], .slice B m e] w (EqPost b w A n c j deep ts) := by
  have HP := hide hp
  have H := hide h
  have HW := hide hw
  have HO := hide ho
  clear hp h hw ho
  go_enter Tryz.func239, Tryz.ntmps239
  go_wp2_with fail
  have kE := Box.new w 107 #[.string .empty, .int .i64 0, .int .i64 0, .string .empty, .string .empty, .slice none 0 0]
  have HE := hide ((Exc.refl b w).alloc (.cells #[.string .empty, .int .i64 0, .int .i64 0, .string .empty, .string .empty, .slice none 0 0] 107))
  refine (HP.out _ (H.out.below ((Below.refl _ _).alloc (Nat.le_refl _) (.cells #[.string .empty, .int .i64 0, .int .i64 0, .string .empty, .string .empty, .slice none 0 0] 107)))).mono ?_
  rintro q w1 ⟨g, rfl, hg, kG, hx1, hp1⟩
  have hg1 : w.heap.size + 1 ≤ g := by simpa using hg
  have hbw := H.out.box.lt
  have kE := kE.exc hx1 (by omega)
  have HX1 := hide (HE.out.trans hx1)
  have HP1 := hide hp1
  have hgl := kG.lt
  clear hx1 hp1 hg
  go_wp2_with fail
  have hb1 := HP1.out.box.lt
  have kN := Box.new w1 107 #[.string ⟨#[61]⟩, .int .i64 0, .int .i64 0, .string .empty, .string .empty, .slice (some ⟨g, 0, none⟩) 2 2]
  have kE := kE.up (.cells #[.string ⟨#[61]⟩, .int .i64 0, .int .i64 0, .string .empty, .string .empty, .slice (some ⟨g, 0, none⟩) 2 2] 107)
  have kG := kG.up (.cells #[.string ⟨#[61]⟩, .int .i64 0, .int .i64 0, .string .empty, .string .empty, .slice (some ⟨g, 0, none⟩) 2 2] 107)
  have HX2 := hide (HX1.out.alloc (.cells #[.string ⟨#[61]⟩, .int .i64 0, .int .i64 0, .string .empty, .string .empty, .slice (some ⟨g, 0, none⟩) 2 2] 107))
  have HP2 := HP1.out.below ((Below.refl _ _).alloc (Nat.le_refl _) (.cells #[.string ⟨#[61]⟩, .int .i64 0, .int .i64 0, .string .empty, .string .empty, .slice (some ⟨g, 0, none⟩) 2 2] 107))
  have HT := taken_any b A n c j deep ts hn B m e ws hm _ HP2 ((HW.out.exc HX2.out))
  rw [HO.out] at HT
  have HT := hide HT
  refine wp_loop_rounds 1 ?_
  rw [rounds_succ]
  go_wp2_with fail
  refine HT.out.mono ?_
  rintro q w2 ⟨rfl, hx2, hp2⟩
  have kE := kE.exc hx2 (by omega)
  have kN := kN.exc hx2 (by omega)
  have kG := kG.exc hx2 (by omega)
  have HX3 := hide (HX2.out.trans hx2)
  simp only [Option.isSome_none, Bool.false_eq_true, if_false] at hp2
  have HP3 := hide hp2
  clear hx2 hp2 HP2
  have hneb : w.heap.size ≠ b := by omega
  have hneG : w.heap.size ≠ g := by omega
  have e0 := kN.cellAt (i := 0) rfl
  have e1 := kN.cellAt (i := 1) rfl
  have e2 := kN.cellAt (i := 2) rfl
  have e3 := kN.cellAt (i := 3) rfl
  have e4 := kN.cellAt (i := 4) rfl
  have e5 := kN.cellAt (i := 5) rfl
  have p0 := kE.cellAt (i := 0) rfl
  have f0 := kE.frozen 0
  have p1 := kE.cellAt (i := 1) rfl
  have f1 := kE.frozen 1
  have p2 := kE.cellAt (i := 2) rfl
  have f2 := kE.frozen 2
  have p3 := kE.cellAt (i := 3) rfl
  have f3 := kE.frozen 3
  have p4 := kE.cellAt (i := 4) rfl
  have f4 := kE.frozen 4
  have p5 := kE.cellAt (i := 5) rfl
  have f5 := kE.frozen 5
  have HKF := hide ((((((kE.set 0 (.string ⟨#[61]⟩)).set 1 (.int .i64 0)).set 2 (.int .i64 0)).set 3 (.string .empty)).set 4 (.string .empty)).set 5 (.slice (some ⟨g, 0, none⟩) 2 2))
  have HXF := hide ((((((HX3.out.setNew (x := ⟨w.heap.size, 0, none⟩) (Nat.le_refl _) (.string ⟨#[61]⟩)).setNew (x := ⟨w.heap.size, 1, none⟩) (Nat.le_refl _) (.int .i64 0)).setNew (x := ⟨w.heap.size, 2, none⟩) (Nat.le_refl _) (.int .i64 0)).setNew (x := ⟨w.heap.size, 3, none⟩) (Nat.le_refl _) (.string .empty)).setNew (x := ⟨w.heap.size, 4, none⟩) (Nat.le_refl _) (.string .empty)).setNew (x := ⟨w.heap.size, 5, none⟩) (Nat.le_refl _) (.slice (some ⟨g, 0, none⟩) 2 2))
  have HBF := hide ((((((HP3.out.box.other (a := ⟨w.heap.size, 0, none⟩) (by simpa using hneb) (.string ⟨#[61]⟩)).other (a := ⟨w.heap.size, 1, none⟩) (by simpa using hneb) (.int .i64 0)).other (a := ⟨w.heap.size, 2, none⟩) (by simpa using hneb) (.int .i64 0)).other (a := ⟨w.heap.size, 3, none⟩) (by simpa using hneb) (.string .empty)).other (a := ⟨w.heap.size, 4, none⟩) (by simpa using hneb) (.string .empty)).other (a := ⟨w.heap.size, 5, none⟩) (by simpa using hneb) (.slice (some ⟨g, 0, none⟩) 2 2))
  have HGF := hide ((((((kG.other (a := ⟨w.heap.size, 0, none⟩) (by simpa using hneG) (.string ⟨#[61]⟩)).other (a := ⟨w.heap.size, 1, none⟩) (by simpa using hneG) (.int .i64 0)).other (a := ⟨w.heap.size, 2, none⟩) (by simpa using hneG) (.int .i64 0)).other (a := ⟨w.heap.size, 3, none⟩) (by simpa using hneG) (.string .empty)).other (a := ⟨w.heap.size, 4, none⟩) (by simpa using hneG) (.string .empty)).other (a := ⟨w.heap.size, 5, none⟩) (by simpa using hneG) (.slice (some ⟨g, 0, none⟩) 2 2))
  clear kN kE kG
  go_wp2_with fail
  refine bodyPost_ret (v := .tuple #[.agg #[.string ⟨#[61]⟩, .int .i64 0, .int .i64 0, .string .empty, .string .empty, .slice (some ⟨g, 0, none⟩) 2 2], .bool true]) ?_ rfl ⟨g, rfl, by omega, HGF.out, HXF.out, ⟨HBF.out, H.out.sl.exc HXF.out⟩⟩
  exact res_expr (p := 6) (u := 7) rfl _ _ w.heap.size #[.string ⟨#[61]⟩, .int .i64 0, .int .i64 0, .string .empty, .string .empty, .slice (some ⟨g, 0, none⟩) 2 2] rfl rfl HKF.out
set_option maxRecDepth 100000 in
set_option maxHeartbeats 1600000 in
theorem not_e (b : Nat) (A : Option Addr) (n c i j deep : Nat) (ts : List Tok) (hn : n ≤ 1000000) (w : World) (h : Ps w b A n c i deep ts) (ho : takes ts i ⟨#[78, 79, 84]⟩ = false)
    (hp : ∀ ww, Ps ww b A n c i deep ts → Calls Tryz.prog 262 #[.pointer (some ⟨b, 0, none⟩)] ww (EqPost b ww A n c j deep ts)) :
    Calls Tryz.prog 255 #[.pointer (some ⟨b, 0, none⟩)] w (EqPost b w A n c j deep ts) := by
  have H := hide h
  have HT := hide (fun ww (hh : Ps ww b A n c i deep ts) => take_any b A n c i deep ts ⟨#[78, 79, 84]⟩ hn ww hh)
  rw [ho] at HT
  have HC := hide hp
  clear h ho hp
  go_enter Tryz.func255, Tryz.ntmps255
  go_wp2_with fail
  have hbw := H.out.box.lt
  have kE := Box.new w 107 #[.string .empty, .int .i64 0, .int .i64 0, .string .empty, .string .empty, .slice none 0 0]
  have HE := hide ((Exc.refl b w).alloc (.cells #[.string .empty, .int .i64 0, .int .i64 0, .string .empty, .string .empty, .slice none 0 0] 107))
  refine (HT.out _ (H.out.below ((Below.refl _ _).alloc (Nat.le_refl _) (.cells #[.string .empty, .int .i64 0, .int .i64 0, .string .empty, .string .empty, .slice none 0 0] 107)))).mono ?_
  rintro q w1 ⟨rfl, hx1, hp1⟩
  have kE := kE.exc hx1 (by omega)
  have HX1 := hide (HE.out.trans hx1)
  simp only [Bool.false_eq_true, if_false] at hp1
  have HP1 := hide hp1
  have hs1 : w.heap.size < w1.heap.size := kE.lt
  clear hx1 hp1
  go_wp2_with fail
  refine (HC.out _ HP1.out).mono ?_
  rintro q w2 ⟨g, rfl, hg, kG, hx2, hp2⟩
  have kE := kE.exc hx2 (by omega)
  have HX2 := hide (HX1.out.trans hx2)
  have HP2 := hide hp2
  have hneb : w.heap.size ≠ b := by omega
  have hneG : w.heap.size ≠ g := by omega
  have p0 := kE.cellAt (i := 0) rfl
  have f0 := kE.frozen 0
  have p1 := kE.cellAt (i := 1) rfl
  have f1 := kE.frozen 1
  have p2 := kE.cellAt (i := 2) rfl
  have f2 := kE.frozen 2
  have p3 := kE.cellAt (i := 3) rfl
  have f3 := kE.frozen 3
  have p4 := kE.cellAt (i := 4) rfl
  have f4 := kE.frozen 4
  have p5 := kE.cellAt (i := 5) rfl
  have f5 := kE.frozen 5
  have HKF := hide ((((((kE.set 0 (.string ⟨#[61]⟩)).set 1 (.int .i64 0)).set 2 (.int .i64 0)).set 3 (.string .empty)).set 4 (.string .empty)).set 5 (.slice (some ⟨g, 0, none⟩) 2 2))
  have HXF := hide ((((((HX2.out.setNew (x := ⟨w.heap.size, 0, none⟩) (Nat.le_refl _) (.string ⟨#[61]⟩)).setNew (x := ⟨w.heap.size, 1, none⟩) (Nat.le_refl _) (.int .i64 0)).setNew (x := ⟨w.heap.size, 2, none⟩) (Nat.le_refl _) (.int .i64 0)).setNew (x := ⟨w.heap.size, 3, none⟩) (Nat.le_refl _) (.string .empty)).setNew (x := ⟨w.heap.size, 4, none⟩) (Nat.le_refl _) (.string .empty)).setNew (x := ⟨w.heap.size, 5, none⟩) (Nat.le_refl _) (.slice (some ⟨g, 0, none⟩) 2 2))
  have HBF := hide ((((((HP2.out.box.other (a := ⟨w.heap.size, 0, none⟩) (by simpa using hneb) (.string ⟨#[61]⟩)).other (a := ⟨w.heap.size, 1, none⟩) (by simpa using hneb) (.int .i64 0)).other (a := ⟨w.heap.size, 2, none⟩) (by simpa using hneb) (.int .i64 0)).other (a := ⟨w.heap.size, 3, none⟩) (by simpa using hneb) (.string .empty)).other (a := ⟨w.heap.size, 4, none⟩) (by simpa using hneb) (.string .empty)).other (a := ⟨w.heap.size, 5, none⟩) (by simpa using hneb) (.slice (some ⟨g, 0, none⟩) 2 2))
  have HGF := hide ((((((kG.other (a := ⟨w.heap.size, 0, none⟩) (by simpa using hneG) (.string ⟨#[61]⟩)).other (a := ⟨w.heap.size, 1, none⟩) (by simpa using hneG) (.int .i64 0)).other (a := ⟨w.heap.size, 2, none⟩) (by simpa using hneG) (.int .i64 0)).other (a := ⟨w.heap.size, 3, none⟩) (by simpa using hneG) (.string .empty)).other (a := ⟨w.heap.size, 4, none⟩) (by simpa using hneG) (.string .empty)).other (a := ⟨w.heap.size, 5, none⟩) (by simpa using hneG) (.slice (some ⟨g, 0, none⟩) 2 2))
  clear hx2 hp2 kE kG
  go_wp2_with fail
  refine bodyPost_ret (v := .tuple #[.agg #[.string ⟨#[61]⟩, .int .i64 0, .int .i64 0, .string .empty, .string .empty, .slice (some ⟨g, 0, none⟩) 2 2], .bool true]) ?_ rfl ⟨g, rfl, by omega, HGF.out, HXF.out, ⟨HBF.out, H.out.sl.exc HXF.out⟩⟩
  exact res_expr (p := 2) (u := 3) rfl _ _ w.heap.size #[.string ⟨#[61]⟩, .int .i64 0, .int .i64 0, .string .empty, .string .empty, .slice (some ⟨g, 0, none⟩) 2 2] rfl rfl HKF.out
set_option maxRecDepth 100000 in
set_option maxHeartbeats 1600000 in
theorem and_e (b : Nat) (A : Option Addr) (n c i j deep : Nat) (ts : List Tok) (hn : n ≤ 1000000) (w : World) (h : Ps w b A n c i deep ts) (ho : takenO ts j [⟨#[65, 78, 68]⟩] = none)
    (hp : ∀ ww, Ps ww b A n c i deep ts → Calls Tryz.prog 255 #[.pointer (some ⟨b, 0, none⟩)] ww (EqPost b ww A n c j deep ts)) :
    Calls Tryz.prog 240 #[.pointer (some ⟨b, 0, none⟩)] w (EqPost b w A n c j deep ts) := by
  have H := hide h
  have HC := hide (fun ww (B : Option Addr) (hh : Ps ww b A n c i deep ts) (hw : Sl ww (fun x => x ≠ b) 1 B 1 (strs [⟨#[65, 78, 68]⟩])) => chain_not_e b A n c i j deep ts hn B 1 1 [⟨#[65, 78, 68]⟩] (by omega) ww hh hw ho hp)
  clear h ho hp
  go_enter Tryz.func240, Tryz.ntmps240
  go_wp2_with fail
  have hbw := H.out.box.lt
  have kE := (Box.new w 107 #[.string .empty, .int .i64 0, .int .i64 0, .string .empty, .string .empty, .slice none 0 0]).up (.cells #[.string ⟨#[65, 78, 68]⟩] 9)
  have HE := hide (((Exc.refl b w).alloc (.cells #[.string .empty, .int .i64 0, .int .i64 0, .string .empty, .string .empty, .slice none 0 0] 107)).alloc (.cells #[.string ⟨#[65, 78, 68]⟩] 9))
  have HP0 := (H.out.below ((Below.refl _ _).alloc (Nat.le_refl _) (.cells #[.string .empty, .int .i64 0, .int .i64 0, .string .empty, .string .empty, .slice none 0 0] 107))).below ((Below.refl _ _).alloc (Nat.le_refl _) (.cells #[.string ⟨#[65, 78, 68]⟩] 9))
  have hww := words_new (w.alloc (.cells #[.string .empty, .int .i64 0, .int .i64 0, .string .empty, .string .empty, .slice none 0 0] 107)) b (by simp; omega) [⟨#[65, 78, 68]⟩] 9
  simp only [World.size_alloc] at hww
  refine (HC.out _ _ HP0 hww).mono ?_
  rintro q w1 ⟨g, rfl, hg, kG, hx1, hp1⟩
  have hg1 : w.heap.size + 2 ≤ g := by simpa using hg
  have kE := kE.exc hx1 (by omega)
  have HX1 := hide (HE.out.trans hx1)
  have HP1 := hide hp1
  have hneb : w.heap.size ≠ b := by omega
  have hneG : w.heap.size ≠ g := by omega
  have p0 := kE.cellAt (i := 0) rfl
  have f0 := kE.frozen 0
  have p1 := kE.cellAt (i := 1) rfl
  have f1 := kE.frozen 1
  have p2 := kE.cellAt (i := 2) rfl
  have f2 := kE.frozen 2
  have p3 := kE.cellAt (i := 3) rfl
  have f3 := kE.frozen 3
  have p4 := kE.cellAt (i := 4) rfl
  have f4 := kE.frozen 4
  have p5 := kE.cellAt (i := 5) rfl
  have f5 := kE.frozen 5
  have HKF := hide ((((((kE.set 0 (.string ⟨#[61]⟩)).set 1 (.int .i64 0)).set 2 (.int .i64 0)).set 3 (.string .empty)).set 4 (.string .empty)).set 5 (.slice (some ⟨g, 0, none⟩) 2 2))
  have HXF := hide ((((((HX1.out.setNew (x := ⟨w.heap.size, 0, none⟩) (Nat.le_refl _) (.string ⟨#[61]⟩)).setNew (x := ⟨w.heap.size, 1, none⟩) (Nat.le_refl _) (.int .i64 0)).setNew (x := ⟨w.heap.size, 2, none⟩) (Nat.le_refl _) (.int .i64 0)).setNew (x := ⟨w.heap.size, 3, none⟩) (Nat.le_refl _) (.string .empty)).setNew (x := ⟨w.heap.size, 4, none⟩) (Nat.le_refl _) (.string .empty)).setNew (x := ⟨w.heap.size, 5, none⟩) (Nat.le_refl _) (.slice (some ⟨g, 0, none⟩) 2 2))
  have HBF := hide ((((((HP1.out.box.other (a := ⟨w.heap.size, 0, none⟩) (by simpa using hneb) (.string ⟨#[61]⟩)).other (a := ⟨w.heap.size, 1, none⟩) (by simpa using hneb) (.int .i64 0)).other (a := ⟨w.heap.size, 2, none⟩) (by simpa using hneb) (.int .i64 0)).other (a := ⟨w.heap.size, 3, none⟩) (by simpa using hneb) (.string .empty)).other (a := ⟨w.heap.size, 4, none⟩) (by simpa using hneb) (.string .empty)).other (a := ⟨w.heap.size, 5, none⟩) (by simpa using hneb) (.slice (some ⟨g, 0, none⟩) 2 2))
  have HGF := hide ((((((kG.other (a := ⟨w.heap.size, 0, none⟩) (by simpa using hneG) (.string ⟨#[61]⟩)).other (a := ⟨w.heap.size, 1, none⟩) (by simpa using hneG) (.int .i64 0)).other (a := ⟨w.heap.size, 2, none⟩) (by simpa using hneG) (.int .i64 0)).other (a := ⟨w.heap.size, 3, none⟩) (by simpa using hneG) (.string .empty)).other (a := ⟨w.heap.size, 4, none⟩) (by simpa using hneG) (.string .empty)).other (a := ⟨w.heap.size, 5, none⟩) (by simpa using hneG) (.slice (some ⟨g, 0, none⟩) 2 2))
  clear hx1 hp1 kE kG HP0 hww hg
  go_wp2_with fail
  refine bodyPost_ret (v := .tuple #[.agg #[.string ⟨#[61]⟩, .int .i64 0, .int .i64 0, .string .empty, .string .empty, .slice (some ⟨g, 0, none⟩) 2 2], .bool true]) ?_ rfl ⟨g, rfl, by omega, HGF.out, HXF.out, ⟨HBF.out, H.out.sl.exc HXF.out⟩⟩
  exact res_expr (p := 2) (u := 3) rfl _ _ w.heap.size #[.string ⟨#[61]⟩, .int .i64 0, .int .i64 0, .string .empty, .string .empty, .slice (some ⟨g, 0, none⟩) 2 2] rfl rfl HKF.out
set_option maxRecDepth 100000 in
set_option maxHeartbeats 1600000 in
theorem or_e (b : Nat) (A : Option Addr) (n c i j deep : Nat) (ts : List Tok) (hn : n ≤ 1000000) (w : World) (h : Ps w b A n c i deep ts) (ho : takenO ts j [⟨#[79, 82]⟩] = none)
    (hp : ∀ ww, Ps ww b A n c i deep ts → Calls Tryz.prog 240 #[.pointer (some ⟨b, 0, none⟩)] ww (EqPost b ww A n c j deep ts)) :
    Calls Tryz.prog 217 #[.pointer (some ⟨b, 0, none⟩)] w (EqPost b w A n c j deep ts) := by
  have H := hide h
  have HC := hide (fun ww (B : Option Addr) (hh : Ps ww b A n c i deep ts) (hw : Sl ww (fun x => x ≠ b) 1 B 1 (strs [⟨#[79, 82]⟩])) => chain_and_e b A n c i j deep ts hn B 1 1 [⟨#[79, 82]⟩] (by omega) ww hh hw ho hp)
  clear h ho hp
  go_enter Tryz.func217, Tryz.ntmps217
  go_wp2_with fail
  have hbw := H.out.box.lt
  have kE := (Box.new w 107 #[.string .empty, .int .i64 0, .int .i64 0, .string .empty, .string .empty, .slice none 0 0]).up (.cells #[.string ⟨#[79, 82]⟩] 9)
  have HE := hide (((Exc.refl b w).alloc (.cells #[.string .empty, .int .i64 0, .int .i64 0, .string .empty, .string .empty, .slice none 0 0] 107)).alloc (.cells #[.string ⟨#[79, 82]⟩] 9))
  have HP0 := (H.out.below ((Below.refl _ _).alloc (Nat.le_refl _) (.cells #[.string .empty, .int .i64 0, .int .i64 0, .string .empty, .string .empty, .slice none 0 0] 107))).below ((Below.refl _ _).alloc (Nat.le_refl _) (.cells #[.string ⟨#[79, 82]⟩] 9))
  have hww := words_new (w.alloc (.cells #[.string .empty, .int .i64 0, .int .i64 0, .string .empty, .string .empty, .slice none 0 0] 107)) b (by simp; omega) [⟨#[79, 82]⟩] 9
  simp only [World.size_alloc] at hww
  refine (HC.out _ _ HP0 hww).mono ?_
  rintro q w1 ⟨g, rfl, hg, kG, hx1, hp1⟩
  have hg1 : w.heap.size + 2 ≤ g := by simpa using hg
  have kE := kE.exc hx1 (by omega)
  have HX1 := hide (HE.out.trans hx1)
  have HP1 := hide hp1
  have hneb : w.heap.size ≠ b := by omega
  have hneG : w.heap.size ≠ g := by omega
  have p0 := kE.cellAt (i := 0) rfl
  have f0 := kE.frozen 0
  have p1 := kE.cellAt (i := 1) rfl
  have f1 := kE.frozen 1
  have p2 := kE.cellAt (i := 2) rfl
  have f2 := kE.frozen 2
  have p3 := kE.cellAt (i := 3) rfl
  have f3 := kE.frozen 3
  have p4 := kE.cellAt (i := 4) rfl
  have f4 := kE.frozen 4
  have p5 := kE.cellAt (i := 5) rfl
  have f5 := kE.frozen 5
  have HKF := hide ((((((kE.set 0 (.string ⟨#[61]⟩)).set 1 (.int .i64 0)).set 2 (.int .i64 0)).set 3 (.string .empty)).set 4 (.string .empty)).set 5 (.slice (some ⟨g, 0, none⟩) 2 2))
  have HXF := hide ((((((HX1.out.setNew (x := ⟨w.heap.size, 0, none⟩) (Nat.le_refl _) (.string ⟨#[61]⟩)).setNew (x := ⟨w.heap.size, 1, none⟩) (Nat.le_refl _) (.int .i64 0)).setNew (x := ⟨w.heap.size, 2, none⟩) (Nat.le_refl _) (.int .i64 0)).setNew (x := ⟨w.heap.size, 3, none⟩) (Nat.le_refl _) (.string .empty)).setNew (x := ⟨w.heap.size, 4, none⟩) (Nat.le_refl _) (.string .empty)).setNew (x := ⟨w.heap.size, 5, none⟩) (Nat.le_refl _) (.slice (some ⟨g, 0, none⟩) 2 2))
  have HBF := hide ((((((HP1.out.box.other (a := ⟨w.heap.size, 0, none⟩) (by simpa using hneb) (.string ⟨#[61]⟩)).other (a := ⟨w.heap.size, 1, none⟩) (by simpa using hneb) (.int .i64 0)).other (a := ⟨w.heap.size, 2, none⟩) (by simpa using hneb) (.int .i64 0)).other (a := ⟨w.heap.size, 3, none⟩) (by simpa using hneb) (.string .empty)).other (a := ⟨w.heap.size, 4, none⟩) (by simpa using hneb) (.string .empty)).other (a := ⟨w.heap.size, 5, none⟩) (by simpa using hneb) (.slice (some ⟨g, 0, none⟩) 2 2))
  have HGF := hide ((((((kG.other (a := ⟨w.heap.size, 0, none⟩) (by simpa using hneG) (.string ⟨#[61]⟩)).other (a := ⟨w.heap.size, 1, none⟩) (by simpa using hneG) (.int .i64 0)).other (a := ⟨w.heap.size, 2, none⟩) (by simpa using hneG) (.int .i64 0)).other (a := ⟨w.heap.size, 3, none⟩) (by simpa using hneG) (.string .empty)).other (a := ⟨w.heap.size, 4, none⟩) (by simpa using hneG) (.string .empty)).other (a := ⟨w.heap.size, 5, none⟩) (by simpa using hneG) (.slice (some ⟨g, 0, none⟩) 2 2))
  clear hx1 hp1 kE kG HP0 hww hg
  go_wp2_with fail
  refine bodyPost_ret (v := .tuple #[.agg #[.string ⟨#[61]⟩, .int .i64 0, .int .i64 0, .string .empty, .string .empty, .slice (some ⟨g, 0, none⟩) 2 2], .bool true]) ?_ rfl ⟨g, rfl, by omega, HGF.out, HXF.out, ⟨HBF.out, H.out.sl.exc HXF.out⟩⟩
  exact res_expr (p := 2) (u := 3) rfl _ _ w.heap.size #[.string ⟨#[61]⟩, .int .i64 0, .int .i64 0, .string .empty, .string .empty, .slice (some ⟨g, 0, none⟩) 2 2] rfl rfl HKF.out
end Go.Proofs.YtojincohnjophaaGreatDoor

/-! Small functions at given words (seat c). -/
namespace Go.Proofs.YtojincohnjophaaGreatDoor
open Go.RowKit
set_option linter.unusedVariables false

set_option maxRecDepth 100000 in
theorem parts_col (w : World) : Calls Tryz.prog 246 #[.string ⟨#[99, 111, 108]⟩] w fun q w' => q = .returned (.int .i64 0) ∧ w = w' := by
  go_enter Tryz.func246, Tryz.ntmps246
  go_wp2_with fail
  go_ret
  exact ⟨rfl, rfl⟩
set_option maxRecDepth 100000 in
theorem parts_lit (w : World) : Calls Tryz.prog 246 #[.string ⟨#[108, 105, 116]⟩] w fun q w' => q = .returned (.int .i64 0) ∧ w = w' := by
  go_enter Tryz.func246, Tryz.ntmps246
  go_wp2_with fail
  go_ret
  exact ⟨rfl, rfl⟩
set_option maxRecDepth 100000 in
theorem parts_eq (w : World) : Calls Tryz.prog 246 #[.string ⟨#[61]⟩] w fun q w' => q = .returned (.int .i64 2) ∧ w = w' := by
  go_enter Tryz.func246, Tryz.ntmps246
  go_wp2_with fail
  go_ret
  exact ⟨rfl, rfl⟩
set_option maxRecDepth 100000 in
theorem lname_k (w : World) : Calls Tryz.prog 215 #[.string ⟨#[107]⟩] w fun q w' => q = .returned (.bool true) ∧ Below w.heap.size w w' := by
  have HM := hide (fun ww => lmay_word ⟨#[107]⟩ 107 [] rfl (by decide) (by decide) ww)
  go_enter Tryz.func215, Tryz.ntmps215
  go_wp2_with fail
  refine (HM.out _).mono ?_
  rintro q w1 ⟨rfl, hb⟩
  go_wp2_with fail
  go_ret
  exact ⟨rfl, hb⟩
set_option maxRecDepth 100000 in
theorem lname_t (w : World) : Calls Tryz.prog 215 #[.string ⟨#[116]⟩] w fun q w' => q = .returned (.bool true) ∧ Below w.heap.size w w' := by
  have HM := hide (fun ww => lmay_word ⟨#[116]⟩ 116 [] rfl (by decide) (by decide) ww)
  go_enter Tryz.func215, Tryz.ntmps215
  go_wp2_with fail
  refine (HM.out _).mono ?_
  rintro q w1 ⟨rfl, hb⟩
  go_wp2_with fail
  go_ret
  exact ⟨rfl, hb⟩
set_option maxRecDepth 100000 in
theorem vmay_one (w : World) : Calls Tryz.prog 104 #[.agg #[.int .i64 1, .int .i64 1, .string .empty]] w fun q w' => q = .returned (.bool true) ∧ Below w.heap.size w w' := by
  have HB := hide ((Below.refl w.heap.size w).alloc (Nat.le_refl _) (.cells #[.int .i64 1, .int .i64 1, .string .empty] 100))
  go_enter Tryz.func104, Tryz.ntmps104
  go_wp2_with fail
  go_ret
  exact ⟨rfl, HB.out⟩
end Go.Proofs.YtojincohnjophaaGreatDoor

/-! May an expression be: the count of nodes (seat c). -/
namespace Go.Proofs.YtojincohnjophaaGreatDoor
open Go.RowKit
set_option linter.unusedVariables false

set_option maxRecDepth 100000 in
set_option maxHeartbeats 800000 in
theorem cmay_k (b : Nat) (m d : Nat) (hm : m < 60) (hd : d ≤ 12) (w : World) (h : Box w b 301 #[.int .i64 (m : Nat)]) :
    Calls Tryz.prog 224 #[.pointer (some ⟨b, 0, none⟩), .agg #[.string ⟨#[99, 111, 108]⟩, .int .i64 0, .int .i64 0, .string .empty, .string ⟨#[107]⟩, .slice none 0 0], .int .i64 (d : Nat)] w fun q w' => q = .returned (.bool true) ∧ Exc b w w' ∧ Box w' b 301 #[.int .i64 ((m + 1 : Nat) : Int)] := by
  have hlt := h.lt
  have c0 := h.cellAt (i := 0) rfl
  have f0 := h.frozen 0
  have ei : ((m + 1 : Nat) : Int) = (m : Int) + 1 := by simp
  rw [ei]
  have kC := (h.set 0 (.int .i64 ((m : Int) + 1))).up (.cells #[.string ⟨#[99, 111, 108]⟩, .int .i64 0, .int .i64 0, .string .empty, .string ⟨#[107]⟩, .slice none 0 0] 107)
  have kE := Box.new (w.setCell ⟨b, 0, none⟩ (.int .i64 ((m : Int) + 1))) 107 #[.string ⟨#[99, 111, 108]⟩, .int .i64 0, .int .i64 0, .string .empty, .string ⟨#[107]⟩, .slice none 0 0]
  have esz : (w.setCell ⟨b, 0, none⟩ (.int .i64 ((m : Int) + 1))).heap.size = w.heap.size := by simp [World.setCell]
  rw [esz] at kE
  have HX := hide (((Exc.refl b w).set 0 (.int .i64 ((m : Int) + 1))).alloc (.cells #[.string ⟨#[99, 111, 108]⟩, .int .i64 0, .int .i64 0, .string .empty, .string ⟨#[107]⟩, .slice none 0 0] 107))
  have k1 : (m : Int) + 1 < 9223372036854775807 := by omega
  have k2 : decide ((60 : Int) < (m : Int) + 1) = false := by simp; omega
  have k3 : decide ((12 : Int) < (d : Int)) = false := by simp; omega
  clear h ei esz
  go_enter Tryz.func224, Tryz.ntmps224
  go_upto_region 2 with (fail)
  generalize hwz : World.alloc _ _ = wz at *
  have hbx : Below wz.heap.size wz wz.drew := (Below.refl _ _).drew
  have HP := hide parts_col
  have HN := hide lname_k
  have HR := hide reserved_k
  have HS : Hid (∀ ww, Below wz.heap.size wz ww → ww.cell? ⟨b, 0, none⟩ = some (.int .i64 ((m : Int) + 1)) ∧ ww.cell? ⟨w.heap.size, 0, none⟩ = some (.string ⟨#[99, 111, 108]⟩) ∧ ww.cell? ⟨w.heap.size, 5, none⟩ = some (.slice none 0 0)) := fun ww hb => ⟨(kC.belowS hb).cellAt rfl, (kE.belowS hb).cellAt rfl, (kE.belowS hb).cellAt rfl⟩
  go_region_held3 (fun ww => ww.cell? ⟨b, 0, none⟩ = some (.int .i64 ((m : Int) + 1)) ∧ ww.cell? ⟨w.heap.size, 0, none⟩ = some (.string ⟨#[99, 111, 108]⟩) ∧ ww.cell? ⟨w.heap.size, 5, none⟩ = some (.slice none 0 0))
    (first | exact HS.out _ hbx)
    (((with_reducible refine (HP.out _).mono ?_); (rintro q wq ⟨rfl, rfl⟩)))
  have e0 := kE.drew.cellAt (i := 0) rfl
  have e1 := kE.drew.cellAt (i := 1) rfl
  have e2 := kE.drew.cellAt (i := 2) rfl
  have e3 := kE.drew.cellAt (i := 3) rfl
  have e4 := kE.drew.cellAt (i := 4) rfl
  go_wp2_with fail
  refine (HN.out _).mono ?_
  rintro q w2 ⟨rfl, hb2⟩
  have kE2 := kE.drew.belowS hb2
  have e4 := kE2.cellAt (i := 4) rfl
  have HXF := hide ((HX.out.drew).below hb2)
  have KCF := hide (kC.drew.belowS hb2)
  clear hb2
  go_wp2_with fail
  refine (HR.out _).mono ?_
  rintro q w3 ⟨rfl, rfl⟩
  go_wp2_with fail
  go_ret
  exact ⟨rfl, HXF.out, KCF.out⟩
set_option maxRecDepth 100000 in
set_option maxHeartbeats 800000 in
theorem cmay_n (b : Nat) (m d : Nat) (hm : m < 60) (hd : d ≤ 12) (w : World) (h : Box w b 301 #[.int .i64 (m : Nat)]) :
    Calls Tryz.prog 224 #[.pointer (some ⟨b, 0, none⟩), .agg #[.string ⟨#[108, 105, 116]⟩, .int .i64 1, .int .i64 1, .string .empty, .string .empty, .slice none 0 0], .int .i64 (d : Nat)] w fun q w' => q = .returned (.bool true) ∧ Exc b w w' ∧ Box w' b 301 #[.int .i64 ((m + 1 : Nat) : Int)] := by
  have hlt := h.lt
  have c0 := h.cellAt (i := 0) rfl
  have f0 := h.frozen 0
  have ei : ((m + 1 : Nat) : Int) = (m : Int) + 1 := by simp
  rw [ei]
  have kC := (h.set 0 (.int .i64 ((m : Int) + 1))).up (.cells #[.string ⟨#[108, 105, 116]⟩, .int .i64 1, .int .i64 1, .string .empty, .string .empty, .slice none 0 0] 107)
  have kE := Box.new (w.setCell ⟨b, 0, none⟩ (.int .i64 ((m : Int) + 1))) 107 #[.string ⟨#[108, 105, 116]⟩, .int .i64 1, .int .i64 1, .string .empty, .string .empty, .slice none 0 0]
  have esz : (w.setCell ⟨b, 0, none⟩ (.int .i64 ((m : Int) + 1))).heap.size = w.heap.size := by simp [World.setCell]
  rw [esz] at kE
  have HX := hide (((Exc.refl b w).set 0 (.int .i64 ((m : Int) + 1))).alloc (.cells #[.string ⟨#[108, 105, 116]⟩, .int .i64 1, .int .i64 1, .string .empty, .string .empty, .slice none 0 0] 107))
  have k1 : (m : Int) + 1 < 9223372036854775807 := by omega
  have k2 : decide ((60 : Int) < (m : Int) + 1) = false := by simp; omega
  have k3 : decide ((12 : Int) < (d : Int)) = false := by simp; omega
  clear h ei esz
  go_enter Tryz.func224, Tryz.ntmps224
  go_upto_region 2 with (fail)
  generalize hwz : World.alloc _ _ = wz at *
  have hbx : Below wz.heap.size wz wz.drew := (Below.refl _ _).drew
  have HP := hide parts_lit
  have HN := hide vmay_one
  have HS : Hid (∀ ww, Below wz.heap.size wz ww → ww.cell? ⟨b, 0, none⟩ = some (.int .i64 ((m : Int) + 1)) ∧ ww.cell? ⟨w.heap.size, 0, none⟩ = some (.string ⟨#[108, 105, 116]⟩) ∧ ww.cell? ⟨w.heap.size, 5, none⟩ = some (.slice none 0 0)) := fun ww hb => ⟨(kC.belowS hb).cellAt rfl, (kE.belowS hb).cellAt rfl, (kE.belowS hb).cellAt rfl⟩
  go_region_held3 (fun ww => ww.cell? ⟨b, 0, none⟩ = some (.int .i64 ((m : Int) + 1)) ∧ ww.cell? ⟨w.heap.size, 0, none⟩ = some (.string ⟨#[108, 105, 116]⟩) ∧ ww.cell? ⟨w.heap.size, 5, none⟩ = some (.slice none 0 0))
    (first | exact HS.out _ hbx)
    (((with_reducible refine (HP.out _).mono ?_); (rintro q wq ⟨rfl, rfl⟩)))
  have e0 := kE.drew.cellAt (i := 0) rfl
  have e1 := kE.drew.cellAt (i := 1) rfl
  have e2 := kE.drew.cellAt (i := 2) rfl
  have e3 := kE.drew.cellAt (i := 3) rfl
  have e4 := kE.drew.cellAt (i := 4) rfl
  go_wp2_with fail
  refine (HN.out _).mono ?_
  rintro q w2 ⟨rfl, hb2⟩
  have HXF := hide ((HX.out.drew).below hb2)
  have KCF := hide (kC.drew.belowS hb2)
  clear hb2
  go_wp2_with fail
  go_ret
  exact ⟨rfl, HXF.out, KCF.out⟩
end Go.Proofs.YtojincohnjophaaGreatDoor
