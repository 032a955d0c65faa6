/- The walk of the law TreeLevels. -/
import Derived.Test.YtkkddnmpehoeoaaTreeBackW
namespace Go.Proofs.Ytkkddnmpehoeoaa
open Go.RowKit
open TreeP (Kt Cell kl flat flatL height Inv InB cutT fewK depthP)
set_option linter.unusedVariables false
attribute [local go_sem ↓] Go.wp_at_zero Go.wp_at_succ

set_option maxRecDepth 100000 in
set_option maxHeartbeats 6400000 in
theorem treeLevels_walk (t : Kt) (key : ByteArray) (v1 v2 v3 : Value) (w : World) (hkn : Kn w (fun _ => True) 9223372036854775807 v1 v2 v3 t) :
    Calls Try.prog 6 #[.agg #[v1, v2, v3], .string key] w fun e w' => e = .returned (.bool true) ∧ Below w.heap.size w w' := by
  obtain ⟨A1, n1, c1, A2, n2, c2, A3, n3, c3, rfl, rfl, rfl⟩ := kn_shape hkn
  have hbA := (Below.refl w.heap.size w).alloc (Nat.le_refl _) (.cells #[.slice A1 n1 c1, .slice A2 n2 c2, .slice A3 n3 c3] 26)
  have hknA := hkn.below hbA
  have kB : BoxK (w.alloc (.cells #[.slice A1 n1 c1, .slice A2 n2 c2, .slice A3 n3 c3] 26)) w.heap.size (.slice A1 n1 c1) (.slice A2 n2 c2) (.slice A3 n3 c3) := blk_top rfl
  have hsA : (w.alloc (.cells #[.slice A1 n1 c1, .slice A2 n2 c2, .slice A3 n3 c3] 26)).heap.size = w.heap.size + 1 := by simp
  have hfew := few_any 4 (by omega) t _ _ _ _ hknA
  have hcount := few4_count t
  have hheight := few4_height t
  generalize fewK 4 t = T at *
  have HF := hide hfew
  have HA := hide hbA
  have KB := hide kB
  have HSA := hide hsA
  clear hkn hbA hknA kB hfew hsA
  go_enter Try.func6, Try.ntmps6
  go_wp2_with fail
  refine HF.out.mono ?_
  rintro e w1 ⟨x1, x2, x3, rfl, hk1, hb1⟩
  obtain ⟨B1, m1, d1, B2, m2, d2, B3, m3, d3, rfl, rfl, rfl⟩ := kn_shape hk1
  have kB1 := KB.out.below hb1
  obtain ⟨q1, q2, q3⟩ := kB1.cell
  have q4 := kB1.frozen 0
  have q5 := kB1.frozen 1
  have q6 := kB1.frozen 2
  have hbB := HA.out.trans (hb1.mono HA.out.size)
  have hkT := (kn_set3 (b := w.heap.size) (u1 := .slice B1 m1 d1) (u2 := .slice B2 m2 d2) (u3 := .slice B3 m3 d3) hk1 (fun b hb => by have := HSA.out; omega)).any
  have kBT := kB1.set (u1 := .slice B1 m1 d1) (u2 := .slice B2 m2 d2) (u3 := .slice B3 m3 d3)
  have hbT := below_set3 (u1 := .slice B1 m1 d1) (u2 := .slice B2 m2 d2) (u3 := .slice B3 m3 d3) hbB (Nat.le_refl w.heap.size)
  have HT0 := hide hkT
  have HBW0 := hide hbT
  have HTB0 := hide kBT
  clear hk1 hkT hb1 hbB HF HA KB HSA hbT kBT kB1
  go_wp2_with fail
  refine (text_any key _).mono ?_
  rintro e w2 ⟨rfl, rfl⟩
  go_wp2_with fail
  generalize cutT key = key at *
  clear q1 q2 q3 q4 q5 q6
  generalize ((w1.setCell ⟨w.heap.size, 0, none⟩ (.slice B1 m1 d1)).setCell ⟨w.heap.size, 1, none⟩ (.slice B2 m2 d2)).setCell ⟨w.heap.size, 2, none⟩ (.slice B3 m3 d3) = wT at *
  clear w1
  by_cases hc : chkP T = 0
  rotate_left
  · have hc1 := chkP_no hc
    have hd0 : depP T = 0 := if_neg hc
    refine (depth_any T _ _ _ _ HT0.out).mono ?_
    rw [hd0]
    rintro e w_1 ⟨rfl, hb_1⟩
    have HT1 := hide (HT0.out.below hb_1)
    have HBW1 := hide (HBW0.out.trans (hb_1.mono HBW0.out.size))
    have HTB1 := hide (HTB0.out.below hb_1)
    clear HT0 HBW0 HTB0
    clear hb_1
    obtain ⟨qTB2a, qTB2b, qTB2c⟩ := HTB1.out.cell
    go_wp2_with fail
    refine (check_any T _ _ _ _ (kn_keep (by omega) (Nat.le_refl _) (fun _ _ _ => rfl) (fun b h _ => h) HT1.out)).mono ?_
    rw [hc1]
    rintro e w_2 ⟨rfl, hb_2⟩
    have HT3 := hide (HT1.out.below hb_2)
    have HBW3 := hide (HBW1.out.trans (hb_2.mono HBW1.out.size))
    have HTB3 := hide (HTB1.out.below hb_2)
    clear qTB2a qTB2b qTB2c
    clear HT1 HBW1 HTB1
    clear hb_2
    go_wp2_with fail
    refine (awake_box HBW3.out HBW3.out.size).mono ?_
    rintro e w_a ⟨rfl, hb_a⟩
    clear HT3 HTB3 hc hc1 hd0
    go_wp2_with fail
    go_ret
    exact ⟨rfl, hb_a⟩
  · skip
    obtain ⟨h, H, _⟩ := chkP_ok.1 hc
    have hcnt : (flat T).length ≤ 100000000 := by omega
    have hrise := (TreeP.inv_inB (by omega) H).2
    obtain ⟨hx, hxx, HX, hfx⟩ := putR_ok (key, ⟨#[118]⟩) H hcnt
    have hlx := TreeP.withC_len_le (flat T) (key, ⟨#[118]⟩)
    rw [← hfx] at hlx
    have hgx : TreeP.get (flat (putR (key, ⟨#[118]⟩) T)) key = some ⟨#[118]⟩ := by rw [hfx]; exact TreeP.get_withC hrise (key, ⟨#[118]⟩)
    obtain ⟨hdy, hy, hyy, HY, hfy⟩ := delR_ok HX (key := key) (by omega) (by rw [hgx]; rfl)
    have hly := TreeP.without_len_le (flat (putR (key, ⟨#[118]⟩) T)) key
    rw [← hfy] at hly
    have hcx := chk_small HX (by omega)
    have hcy := chk_small HY (by omega)
    have dT : depP T = h := by rw [depP, if_pos hc]; exact TreeP.inv_height (by omega) H
    have dX : depP (putR (key, ⟨#[118]⟩) T) = hx := by rw [depP, if_pos hcx]; exact TreeP.inv_height (by omega) HX
    have dY : depP (delR key (putR (key, ⟨#[118]⟩) T)) = hy := by rw [depP, if_pos hcy]; exact TreeP.inv_height (by omega) HY
    have h27 := TreeP.inv_64 H hcnt
    have hat : allP T = flat T := if_pos hc
    have hfT := find_get H key
    generalize hXX : putR (key, ⟨#[118]⟩) T = X at *
    generalize hYY : delR key X = Y at *
    obtain ⟨E, hE⟩ : ∃ E : Int, E = if (TreeP.get (flat T) key).isSome then 0 else 6 := ⟨_, rfl⟩
    have hE2 : E = 0 ∨ E = 6 := by rw [hE]; split <;> simp
    have H_hXX := hide hXX
    have H_hYY := hide hYY
    have H_hcx := hide hcx
    have H_hcy := hide hcy
    have H_dT := hide dT
    have H_dX := hide dX
    have H_dY := hide dY
    have H_hat := hide hat
    have H_hfT := hide hfT
    have H_hE := hide hE
    have H_hE2 := hide hE2
    have H_hdy := hide hdy
    have HCC := hide hc
    have hlT : (flat T).length ≤ 1000000000 := by omega
    have g1 : h ≤ hx ∧ hx ≤ h + 1 := by omega
    have g2 : hy ≤ hx ∧ hx ≤ hy + 1 := by omega
    have HG1 := hide g1
    have HG2 := hide g2
    clear H hcnt hrise hxx HX hfx hlx hgx hyy HY hfy hly hcx hcy dT dX dY hat hfT hXX hYY hE hE2 hdy hc hheight hcount g1 g2
    refine (depth_any T _ _ _ _ HT0.out).mono ?_
    rw [H_dT.out]
    rintro e w_1 ⟨rfl, hb_1⟩
    have HT1 := hide (HT0.out.below hb_1)
    have HBW1 := hide (HBW0.out.trans (hb_1.mono HBW0.out.size))
    have HTB1 := hide (HTB0.out.below hb_1)
    clear HT0 HBW0 HTB0
    clear hb_1
    obtain ⟨qTB2a, qTB2b, qTB2c⟩ := HTB1.out.cell
    go_wp2_with fail
    refine (check_any T _ _ _ _ (kn_keep (by omega) (Nat.le_refl _) (fun _ _ _ => rfl) (fun b h _ => h) HT1.out)).mono ?_
    rw [HCC.out]
    rintro e w_2 ⟨rfl, hb_2⟩
    have HT3 := hide (HT1.out.below hb_2)
    have HBW3 := hide (HBW1.out.trans (hb_2.mono HBW1.out.size))
    have HTB3 := hide (HTB1.out.below hb_2)
    clear qTB2a qTB2b qTB2c
    clear HT1 HBW1 HTB1
    clear hb_2
    obtain ⟨qTB4a, qTB4b, qTB4c⟩ := HTB3.out.cell
    go_wp2_with fail
    refine (putw_any (key, ⟨#[118]⟩) T _ _ _ _ (fun _ => True) HT3.out).mono ?_
    rw [HCC.out, H_hXX.out]
    rintro e w_3 ⟨⟨x1, x2, x3, rfl, hkn⟩, hb_3⟩
    obtain ⟨X1, oX1, rX1, X2, oX2, rX2, X3, oX3, rX3, rfl, rfl, rfl⟩ := kn_shape hkn
    have hbn := hb_3.alloc hb_3.size (.cells #[.slice X1 oX1 rX1, .slice X2 oX2 rX2, .slice X3 oX3 rX3] 26)
    have HT5 := hide (HT3.out.below hbn)
    have HBW5 := hide (HBW3.out.trans (hbn.mono HBW3.out.size))
    have HTB5 := hide (HTB3.out.below hbn)
    clear qTB4a qTB4b qTB4c
    clear HT3 HBW3 HTB3
    have hB : BoxK (w_3.alloc (.cells #[.slice X1 oX1 rX1, .slice X2 oX2 rX2, .slice X3 oX3 rX3] 26)) w_3.heap.size _ _ _ := blk_top rfl
    have HXB6 := hide hB
    have HX6 := hide (hkn.any.below ((Below.refl _ w_3).alloc (Nat.le_refl _) (.cells #[.slice X1 oX1 rX1, .slice X2 oX2 rX2, .slice X3 oX3 rX3] 26)))
    clear hkn hb_3 hbn hB
    obtain ⟨qXB7a, qXB7b, qXB7c⟩ := HXB6.out.cell
    go_wp2_with fail
    generalize hxb : w_3.heap.size = bX at *
    generalize w_3.alloc (.cells #[.slice X1 oX1 rX1, .slice X2 oX2 rX2, .slice X3 oX3 rX3] 26) = v_3 at *
    clear hxb w_3
    refine (delw_any key X _ _ _ _ (fun _ => True) HX6.out).mono ?_
    rw [H_hdy.out, H_hYY.out]
    rintro e w_4 ⟨⟨x1, x2, x3, rfl, hkn⟩, hb_4⟩
    obtain ⟨Y1, oY1, rY1, Y2, oY2, rY2, Y3, oY3, rY3, rfl, rfl, rfl⟩ := kn_shape hkn
    have hbn := hb_4.alloc hb_4.size (.cells #[.slice Y1 oY1 rY1, .slice Y2 oY2 rY2, .slice Y3 oY3 rY3] 26)
    have HT8 := hide (HT5.out.below hbn)
    have HBW8 := hide (HBW5.out.trans (hbn.mono HBW5.out.size))
    have HTB8 := hide (HTB5.out.below hbn)
    have HXB8 := hide (HXB6.out.below hbn)
    have HX8 := hide (HX6.out.below hbn)
    clear qXB7a qXB7b qXB7c
    clear HT5 HBW5 HTB5 HXB6 HX6
    have hB : BoxK (w_4.alloc (.cells #[.slice Y1 oY1 rY1, .slice Y2 oY2 rY2, .slice Y3 oY3 rY3] 26)) w_4.heap.size _ _ _ := blk_top rfl
    have HYB9 := hide hB
    have HY9 := hide (hkn.any.below ((Below.refl _ w_4).alloc (Nat.le_refl _) (.cells #[.slice Y1 oY1 rY1, .slice Y2 oY2 rY2, .slice Y3 oY3 rY3] 26)))
    clear hkn hb_4 hbn hB
    obtain ⟨qTB10a, qTB10b, qTB10c⟩ := HTB8.out.cell
    go_wp2_with fail
    generalize hxb : w_4.heap.size = bY at *
    generalize w_4.alloc (.cells #[.slice Y1 oY1 rY1, .slice Y2 oY2 rY2, .slice Y3 oY3 rY3] 26) = v_4 at *
    clear hxb w_4
    refine (all_any T _ _ _ _ HT8.out hlT).mono ?_
    rw [H_hat.out]
    rintro e w_5 ⟨va, rfl, hoa, hb_5⟩
    obtain ⟨AL, cL, rfl, hsl⟩ := hoa.sl
    have HT11 := hide (HT8.out.below hb_5)
    have HBW11 := hide (HBW8.out.trans (hb_5.mono HBW8.out.size))
    have HTB11 := hide (HTB8.out.below hb_5)
    have HXB11 := hide (HXB8.out.below hb_5)
    have HX11 := hide (HX8.out.below hb_5)
    have HYB11 := hide (HYB9.out.below hb_5)
    have HY11 := hide (HY9.out.below hb_5)
    clear qTB10a qTB10b qTB10c
    clear HT8 HBW8 HTB8 HXB8 HX8 HYB9 HY9
    clear hb_5 hoa
    have HSL := hide hsl
    clear hsl
    obtain ⟨qTB12a, qTB12b, qTB12c⟩ := HTB11.out.cell
    go_wp2_with fail
    refine (get_any T key _ _ _ _ HT11.out).mono ?_
    rw [HCC.out, H_hfT.out, if_pos rfl, if_pos rfl, ← H_hE.out]
    rintro e w_6 ⟨rfl, hb_6⟩
    have HT13 := hide (HT11.out.below hb_6)
    have HBW13 := hide (HBW11.out.trans (hb_6.mono HBW11.out.size))
    have HTB13 := hide (HTB11.out.below hb_6)
    have HXB13 := hide (HXB11.out.below hb_6)
    have HX13 := hide (HX11.out.below hb_6)
    have HYB13 := hide (HYB11.out.below hb_6)
    have HY13 := hide (HY11.out.below hb_6)
    have HSL13 := hide (HSL.out.below hb_6)
    clear qTB12a qTB12b qTB12c
    clear HT11 HBW11 HTB11 HXB11 HX11 HYB11 HY11 HSL
    clear hb_6
    obtain ⟨qXB14a, qXB14b, qXB14c⟩ := HXB13.out.cell
    obtain ⟨qYB15a, qYB15b, qYB15c⟩ := HYB13.out.cell
    go_wp2_with fail
    have hh1 := HG1.out
    have hh2 := HG2.out
    have i1 : (h : Int) ≤ (hx : Int) := by omega
    have i2 : (hx : Int) ≤ (h : Int) + 1 := by omega
    have i3 : (hy : Int) ≤ (hx : Int) := by omega
    have i4 : (hx : Int) - 1 ≤ (hy : Int) := by omega
    have i5 : IntKind.i64.wrap ((h : Int) + 1) = (h : Int) + 1 := IntWalk.i64_in _ (by omega)
    have i6 : IntKind.i64.wrap ((hx : Int) - 1) = (hx : Int) - 1 := IntWalk.i64_in _ (by omega)
    have j0 : decide (hx < h) = false := decide_eq_false (by omega)
    have j1 : decide ((hx : Int) < (h : Int)) = false := decide_eq_false (by omega)
    have j2 : decide (h + 1 < hx) = false := decide_eq_false (by omega)
    have j3 : decide ((h : Int) + 1 < (hx : Int)) = false := decide_eq_false (by omega)
    have j4 : decide (hx < hy) = false := decide_eq_false (by omega)
    have j5 : decide ((hx : Int) < (hy : Int)) = false := decide_eq_false (by omega)
    have j6 : decide ((hy : Int) < (hx : Int) - 1) = false := decide_eq_false (by omega)
    clear hh1 hh2
    go_region_held3 (fun w' => (w'.cell? ⟨bX, 0, none⟩ = some (.slice X1 oX1 rX1) ∧ w'.cell? ⟨bX, 1, none⟩ = some (.slice X2 oX2 rX2) ∧ w'.cell? ⟨bX, 2, none⟩ = some (.slice X3 oX3 rX3)) ∧ w'.cell? ⟨bY, 0, none⟩ = some (.slice Y1 oY1 rY1) ∧ w'.cell? ⟨bY, 1, none⟩ = some (.slice Y2 oY2 rY2) ∧ w'.cell? ⟨bY, 2, none⟩ = some (.slice Y3 oY3 rY3))
      ((refine keepB6 ⟨⟨qXB14a, qXB14b, qXB14c⟩, qYB15a, qYB15b, qYB15c⟩ ?_; (repeat' (first | exact hc6 | exact hc5 | exact hc4 | exact hc3 | exact hc2 | exact hc1 | exact Below.refl _ _ | refine bdr ?_ | refine bal ?_ _))))
      (first
        | (go_at_call 18; refine (depth_any X _ _ _ _ ?_).mono ?_; (first | exact HX13.out.below hc5 | exact HX13.out.below hc4 | exact HX13.out.below hc3 | exact HX13.out.below hc2 | exact HX13.out.below hc1 | exact HX13.out.drew); rw [H_dX.out]; rintro e wa ⟨rfl, hba⟩; (first | (have hc6 := btr hc5 hba) | (have hc5 := btr hc4 hba) | (have hc4 := btr hc3 hba) | (have hc3 := btr hc2 hba) | (have hc2 := btr hc1 hba) | (have hc1 := btr (bdr (Below.refl _ _)) hba)); clear hba)
        | (go_at_call 18; refine (depth_any Y _ _ _ _ ?_).mono ?_; (first | exact HY13.out.below hc5 | exact HY13.out.below hc4 | exact HY13.out.below hc3 | exact HY13.out.below hc2 | exact HY13.out.below hc1 | exact HY13.out.drew); rw [H_dY.out]; rintro e wa ⟨rfl, hba⟩; (first | (have hc6 := btr hc5 hba) | (have hc5 := btr hc4 hba) | (have hc4 := btr hc3 hba) | (have hc3 := btr hc2 hba) | (have hc2 := btr hc1 hba) | (have hc1 := btr (bdr (Below.refl _ _)) hba)); clear hba))
    have HT16 := hide (HT13.out.below hc6)
    have HBW16 := hide (HBW13.out.trans (hc6.mono HBW13.out.size))
    have HTB16 := hide (HTB13.out.below hc6)
    have HXB16 := hide (HXB13.out.below hc6)
    have HX16 := hide (HX13.out.below hc6)
    have HYB16 := hide (HYB13.out.below hc6)
    have HY16 := hide (HY13.out.below hc6)
    have HSL16 := hide (HSL13.out.below hc6)
    clear qXB14a qXB14b qXB14c qYB15a qYB15b qYB15c
    clear HT13 HBW13 HTB13 HXB13 HX13 HYB13 HY13 HSL13
    clear hc1 hc2 hc3 hc4 hc5 hc6 i1 i2 i3 i4 i5 i6 j0 j1 j2 j3 j4 j5 j6
    obtain ⟨qTB17a, qTB17b, qTB17c⟩ := HTB16.out.cell
    rcases H_hE2.out with rfl | rfl
    · clear H_hE2
      go_wp2_with fail
      refine (all_any T _ _ _ _ HT16.out hlT).mono ?_
      rw [H_hat.out]
      rintro e w_7 ⟨vb, rfl, hob, hb_7⟩
      obtain ⟨AB, cB, rfl, hsb⟩ := hob.sl
      have HT18 := hide (HT16.out.below hb_7)
      have HBW18 := hide (HBW16.out.trans (hb_7.mono HBW16.out.size))
      have HTB18 := hide (HTB16.out.below hb_7)
      have HXB18 := hide (HXB16.out.below hb_7)
      have HX18 := hide (HX16.out.below hb_7)
      have HYB18 := hide (HYB16.out.below hb_7)
      have HY18 := hide (HY16.out.below hb_7)
      have HSL18 := hide (HSL16.out.below hb_7)
      clear qTB17a qTB17b qTB17c
      clear HT16 HBW16 HTB16 HXB16 HX16 HYB16 HY16 HSL16
      clear hb_7 hob
      have HSB := hide hsb
      clear hsb
      go_wp2_with fail
      refine (rsame_any AB AL _ _ cB cL _ _ _ _ _ HSB.out HSL18.out hlT).mono ?_
      rw [same_self]
      rintro e wc ⟨rfl, qc, rfl⟩
      have hbw := below_drewN HBW18.out qc
      go_wp2_with fail
      refine (awake_box hbw hbw.size).mono ?_
      rintro e w_a ⟨rfl, hb_a⟩
      clear hbw HSB
      go_wp2_with fail
      go_ret
      exact ⟨rfl, hb_a⟩
    · clear H_hE2
      go_wp2_with fail
      refine (all_any T _ _ _ _ HT16.out hlT).mono ?_
      rw [H_hat.out]
      rintro e w_7 ⟨vb, rfl, hob, hb_7⟩
      obtain ⟨AB, cB, rfl, hsb⟩ := hob.sl
      have HT18 := hide (HT16.out.below hb_7)
      have HBW18 := hide (HBW16.out.trans (hb_7.mono HBW16.out.size))
      have HTB18 := hide (HTB16.out.below hb_7)
      have HXB18 := hide (HXB16.out.below hb_7)
      have HX18 := hide (HX16.out.below hb_7)
      have HYB18 := hide (HYB16.out.below hb_7)
      have HY18 := hide (HY16.out.below hb_7)
      have HSL18 := hide (HSL16.out.below hb_7)
      clear qTB17a qTB17b qTB17c
      clear HT16 HBW16 HTB16 HXB16 HX16 HYB16 HY16 HSL16
      clear hb_7 hob
      have HSB := hide hsb
      clear hsb
      go_wp2_with fail
      refine (rsame_any AB AL _ _ cB cL _ _ _ _ _ HSB.out HSL18.out hlT).mono ?_
      rw [same_self]
      rintro e wc ⟨rfl, qc, rfl⟩
      have hbw := below_drewN HBW18.out qc
      go_wp2_with fail
      refine (awake_box hbw hbw.size).mono ?_
      rintro e w_a ⟨rfl, hb_a⟩
      clear hbw HSB
      go_wp2_with fail
      go_ret
      exact ⟨rfl, hb_a⟩
end Go.Proofs.Ytkkddnmpehoeoaa
