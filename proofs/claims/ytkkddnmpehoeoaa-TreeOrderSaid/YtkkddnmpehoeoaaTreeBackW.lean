/- The walk of the law TreeBack. -/
import Derived.Test.YtkkddnmpehoeoaaTreeChecksW
namespace Go.Proofs.Ytkkddnmpehoeoaa
open Go.RowKit
open TreeP (Kt Cell kl flat flatL height Inv InB cutT fewK depthP)
set_option linter.unusedVariables false
attribute [local go_sem ↓] Go.wp_at_zero Go.wp_at_succ

theorem keepB6 {w w' : World} {a b c d p q : Addr} {x y z u v t : Value} (h : (w.cell? a = some x ∧ w.cell? b = some y ∧ w.cell? c = some z) ∧ (w.cell? d = some u ∧ w.cell? p = some v ∧ w.cell? q = some t)) (hb : Below w.heap.size w w') : (w'.cell? a = some x ∧ w'.cell? b = some y ∧ w'.cell? c = some z) ∧ (w'.cell? d = some u ∧ w'.cell? p = some v ∧ w'.cell? q = some t) := ⟨keep3 h.1 hb, keep3 h.2 hb⟩
theorem own_slice {w : World} {base : Nat} {v : Value} {n : Nat} {xs : List Value} (h : w.ownsRow base 44 2 v n xs) : ∃ A c, v = .slice A n c := by
  obtain ⟨A, c, e, _⟩ := SlV.own (V := fun _ => True) h (fun _ _ => trivial)
  exact ⟨A, c, e⟩

set_option maxRecDepth 100000 in
set_option maxHeartbeats 6400000 in
theorem treeBack_walk (t : Kt) (key val : ByteArray) (v1 v2 v3 : Value) (w : World) (hkn : Kn w (fun _ => True) 9223372036854775807 v1 v2 v3 t) :
    Calls Try.prog 5 #[.agg #[v1, v2, v3], .string key, .string val] w fun e w' => e = .returned (.bool true) ∧ Below w.heap.size w w' := by
  obtain ⟨A1, n1, c1, A2, n2, c2, A3, n3, c3, rfl, rfl, rfl⟩ := kn_shape hkn
  have hbA := (Below.refl w.heap.size w).alloc (Nat.le_refl _) (.cells #[.slice A1 n1 c1, .slice A2 n2 c2, .slice A3 n3 c3] 26)
  have hknA := hkn.below hbA
  have kB : BoxK (w.alloc (.cells #[.slice A1 n1 c1, .slice A2 n2 c2, .slice A3 n3 c3] 26)) w.heap.size (.slice A1 n1 c1) (.slice A2 n2 c2) (.slice A3 n3 c3) := blk_top rfl
  have hsA : (w.alloc (.cells #[.slice A1 n1 c1, .slice A2 n2 c2, .slice A3 n3 c3] 26)).heap.size = w.heap.size + 1 := by simp
  have hfew := few_any 4 (by omega) t _ _ _ _ hknA
  have hcount := few4_count t
  have hheight := few4_height t
  generalize fewK 4 t = T at *
  have HF := hide hfew
  have HA := hide hbA
  have KB := hide kB
  have HSA := hide hsA
  clear hkn hbA hknA kB hfew hsA
  go_enter Try.func5, Try.ntmps5
  go_wp2_with fail
  refine HF.out.mono ?_
  rintro e w1 ⟨x1, x2, x3, rfl, hk1, hb1⟩
  obtain ⟨B1, m1, d1, B2, m2, d2, B3, m3, d3, rfl, rfl, rfl⟩ := kn_shape hk1
  have kB1 := KB.out.below hb1
  obtain ⟨q1, q2, q3⟩ := kB1.cell
  have q4 := kB1.frozen 0
  have q5 := kB1.frozen 1
  have q6 := kB1.frozen 2
  have hbB := HA.out.trans (hb1.mono HA.out.size)
  have hkT := (kn_set3 (b := w.heap.size) (u1 := .slice B1 m1 d1) (u2 := .slice B2 m2 d2) (u3 := .slice B3 m3 d3) hk1 (fun b hb => by have := HSA.out; omega)).any
  have kBT := kB1.set (u1 := .slice B1 m1 d1) (u2 := .slice B2 m2 d2) (u3 := .slice B3 m3 d3)
  have hbT := below_set3 (u1 := .slice B1 m1 d1) (u2 := .slice B2 m2 d2) (u3 := .slice B3 m3 d3) hbB (Nat.le_refl w.heap.size)
  have HT0 := hide hkT
  have HBW0 := hide hbT
  have HTB0 := hide kBT
  clear hk1 hkT hb1 hbB HF HA KB HSA hbT kBT kB1
  go_wp2_with fail
  refine (text_any key _).mono ?_
  rintro e w2 ⟨rfl, rfl⟩
  go_wp2_with fail
  refine (text_any val _).mono ?_
  rintro e w2 ⟨rfl, rfl⟩
  go_wp2_with fail
  generalize cutT key = key at *
  generalize cutT val = val at *
  clear q1 q2 q3 q4 q5 q6
  generalize ((w1.setCell ⟨w.heap.size, 0, none⟩ (.slice B1 m1 d1)).setCell ⟨w.heap.size, 1, none⟩ (.slice B2 m2 d2)).setCell ⟨w.heap.size, 2, none⟩ (.slice B3 m3 d3) = wT at *
  clear w1
  by_cases hc : chkP T = 0
  rotate_left
  · have hc1 := chkP_no hc
    refine (check_any T _ _ _ _ (kn_keep (by omega) (Nat.le_refl _) (fun _ _ _ => rfl) (fun b h _ => h) HT0.out)).mono ?_
    rw [hc1]
    rintro e w_1 ⟨rfl, hb_1⟩
    have HT1 := hide (HT0.out.below hb_1)
    have HBW1 := hide (HBW0.out.trans (hb_1.mono HBW0.out.size))
    have HTB1 := hide (HTB0.out.below hb_1)
    clear HT0 HBW0 HTB0
    clear hb_1
    go_wp2_with fail
    refine (awake_box HBW1.out HBW1.out.size).mono ?_
    rintro e w_a ⟨rfl, hb_a⟩
    clear HT1 HTB1 hc hc1
    go_wp2_with fail
    go_ret
    exact ⟨rfl, hb_a⟩
  · skip
    obtain ⟨h, H, _⟩ := chkP_ok.1 hc
    have hcnt : (flat T).length ≤ 100000000 := by omega
    have hrise := (TreeP.inv_inB (by omega) H).2
    obtain ⟨hx, _, HX, hfx⟩ := putR_ok (key, ⟨#[102, 105, 114, 115, 116]⟩) H hcnt
    have hlx := TreeP.withC_len_le (flat T) (key, ⟨#[102, 105, 114, 115, 116]⟩)
    rw [← hfx] at hlx
    have hriseX := (TreeP.inv_inB (by omega) HX).2
    obtain ⟨hy, _, HY, hfy⟩ := putR_ok (key, val) HX (by omega)
    have hly := TreeP.withC_len_le (flat (putR (key, ⟨#[102, 105, 114, 115, 116]⟩) T)) (key, val)
    rw [← hfy] at hly
    have hgy : TreeP.get (flat (putR (key, val) (putR (key, ⟨#[102, 105, 114, 115, 116]⟩) T))) key = some val := by rw [hfy]; exact TreeP.get_withC hriseX (key, val)
    obtain ⟨hdz, hz, _, HZ, hfz⟩ := delR_ok HY (key := key) (by omega) (by rw [hgy]; rfl)
    have hlz := TreeP.without_len_le (flat (putR (key, val) (putR (key, ⟨#[102, 105, 114, 115, 116]⟩) T))) key
    rw [← hfz] at hlz
    have hlen : (flat (putR (key, val) (putR (key, ⟨#[102, 105, 114, 115, 116]⟩) T))).length = (flat (putR (key, ⟨#[102, 105, 114, 115, 116]⟩) T)).length := by
      rw [hfy, hfx, TreeP.withC_withC (c := (key, ⟨#[102, 105, 114, 115, 116]⟩)) (d := (key, val)) hrise rfl, TreeP.length_withC hrise, TreeP.length_withC hrise]
    have hback : TreeP.get (flat T) key = none → flat (delR key (putR (key, val) (putR (key, ⟨#[102, 105, 114, 115, 116]⟩) T))) = flat T := fun hn => by
      rw [hfz, hfy, hfx, TreeP.withC_withC (c := (key, ⟨#[102, 105, 114, 115, 116]⟩)) (d := (key, val)) hrise rfl]; exact TreeP.without_withC hrise hn
    have hcx := chk_small HX (by omega)
    have hcy := chk_small HY (by omega)
    have hcz := chk_small HZ (by omega)
    have hax : allP (putR (key, ⟨#[102, 105, 114, 115, 116]⟩) T) = flat (putR (key, ⟨#[102, 105, 114, 115, 116]⟩) T) := if_pos hcx
    have hay : allP (putR (key, val) (putR (key, ⟨#[102, 105, 114, 115, 116]⟩) T)) = flat (putR (key, val) (putR (key, ⟨#[102, 105, 114, 115, 116]⟩) T)) := if_pos hcy
    have haz : allP (delR key (putR (key, val) (putR (key, ⟨#[102, 105, 114, 115, 116]⟩) T))) = flat (delR key (putR (key, val) (putR (key, ⟨#[102, 105, 114, 115, 116]⟩) T))) := if_pos hcz
    have hat : allP T = flat T := if_pos hc
    have hfT := find_get H key
    have hfY := find_get HY key
    rw [hgy] at hfY
    generalize hXX : putR (key, ⟨#[102, 105, 114, 115, 116]⟩) T = X at *
    generalize hYY : putR (key, val) X = Y at *
    generalize hZZ : delR key Y = Z at *
    have HXX := hide hXX
    have HYY := hide hYY
    have HZZ := hide hZZ
    have HAX := hide hax
    have HAY := hide hay
    have HAZ := hide haz
    have HAT := hide hat
    have HLEN := hide hlen
    have HBACK := hide hback
    have HCC := hide hc
    have HCX := hide hcx
    have HCY := hide hcy
    have HDZ := hide hdz
    have HFT := hide hfT
    have HFY := hide hfY
    obtain ⟨E, hE⟩ : ∃ E : Int, E = if (TreeP.get (flat T) key).isSome then 0 else 6 := ⟨_, rfl⟩
    have hE2 : E = 0 ∨ (E = 6 ∧ flat Z = flat T) := by
      rw [hE]
      cases hg : TreeP.get (flat T) key with
      | none => exact .inr ⟨rfl, hback hg⟩
      | some u => exact .inl rfl
    have HE := hide hE
    have HE2 := hide hE2
    clear hE hE2
    have hlX : (flat X).length ≤ 1000000000 := by omega
    have hlY : (flat Y).length ≤ 1000000000 := by omega
    have hlZ : (flat Z).length ≤ 1000000000 := by omega
    have hlT : (flat T).length ≤ 1000000000 := by omega
    clear H hcnt hrise HX hfx hlx hriseX HY hfy hly hgy HZ hfz hlz hlen hback hcx hcy hcz hax hay haz hat hfT hfY hXX hYY hZZ hdz hc hheight hcount
    refine (check_any T _ _ _ _ (kn_keep (by omega) (Nat.le_refl _) (fun _ _ _ => rfl) (fun b h _ => h) HT0.out)).mono ?_
    rw [HCC.out]
    rintro e w_1 ⟨rfl, hb_1⟩
    have HT1 := hide (HT0.out.below hb_1)
    have HBW1 := hide (HBW0.out.trans (hb_1.mono HBW0.out.size))
    have HTB1 := hide (HTB0.out.below hb_1)
    clear HT0 HBW0 HTB0
    clear hb_1
    obtain ⟨qTB2a, qTB2b, qTB2c⟩ := HTB1.out.cell
    go_wp2_with fail
    refine (get_any T key _ _ _ _ HT1.out).mono ?_
    rw [HCC.out, HFT.out, if_pos rfl, if_pos rfl, ← HE.out]
    rintro e w_2 ⟨rfl, hb_2⟩
    have HT3 := hide (HT1.out.below hb_2)
    have HBW3 := hide (HBW1.out.trans (hb_2.mono HBW1.out.size))
    have HTB3 := hide (HTB1.out.below hb_2)
    clear qTB2a qTB2b qTB2c
    clear HT1 HBW1 HTB1
    clear hb_2
    obtain ⟨qTB4a, qTB4b, qTB4c⟩ := HTB3.out.cell
    go_wp2_with fail
    refine (putw_any (key, ⟨#[102, 105, 114, 115, 116]⟩) T _ _ _ _ (fun _ => True) HT3.out).mono ?_
    rw [HCC.out, HXX.out]
    rintro e w_3 ⟨⟨x1, x2, x3, rfl, hkn⟩, hb_3⟩
    obtain ⟨X1, oX1, rX1, X2, oX2, rX2, X3, oX3, rX3, rfl, rfl, rfl⟩ := kn_shape hkn
    have hbn := hb_3.alloc hb_3.size (.cells #[.slice X1 oX1 rX1, .slice X2 oX2 rX2, .slice X3 oX3 rX3] 26)
    have HT5 := hide (HT3.out.below hbn)
    have HBW5 := hide (HBW3.out.trans (hbn.mono HBW3.out.size))
    have HTB5 := hide (HTB3.out.below hbn)
    clear qTB4a qTB4b qTB4c
    clear HT3 HBW3 HTB3
    have hB : BoxK (w_3.alloc (.cells #[.slice X1 oX1 rX1, .slice X2 oX2 rX2, .slice X3 oX3 rX3] 26)) w_3.heap.size _ _ _ := blk_top rfl
    have HXB6 := hide hB
    have HX6 := hide (hkn.any.below ((Below.refl _ w_3).alloc (Nat.le_refl _) (.cells #[.slice X1 oX1 rX1, .slice X2 oX2 rX2, .slice X3 oX3 rX3] 26)))
    clear hkn hb_3 hbn hB
    obtain ⟨qXB7a, qXB7b, qXB7c⟩ := HXB6.out.cell
    go_wp2_with fail
    generalize hxb : w_3.heap.size = bX at *
    generalize w_3.alloc (.cells #[.slice X1 oX1 rX1, .slice X2 oX2 rX2, .slice X3 oX3 rX3] 26) = v_3 at *
    clear hxb w_3
    refine (putw_any (key, val) X _ _ _ _ (fun _ => True) HX6.out).mono ?_
    rw [HCX.out, HYY.out]
    rintro e w_4 ⟨⟨x1, x2, x3, rfl, hkn⟩, hb_4⟩
    obtain ⟨Y1, oY1, rY1, Y2, oY2, rY2, Y3, oY3, rY3, rfl, rfl, rfl⟩ := kn_shape hkn
    have hbn := hb_4.alloc hb_4.size (.cells #[.slice Y1 oY1 rY1, .slice Y2 oY2 rY2, .slice Y3 oY3 rY3] 26)
    have HT8 := hide (HT5.out.below hbn)
    have HBW8 := hide (HBW5.out.trans (hbn.mono HBW5.out.size))
    have HTB8 := hide (HTB5.out.below hbn)
    have HXB8 := hide (HXB6.out.below hbn)
    have HX8 := hide (HX6.out.below hbn)
    clear qXB7a qXB7b qXB7c
    clear HT5 HBW5 HTB5 HXB6 HX6
    have hB : BoxK (w_4.alloc (.cells #[.slice Y1 oY1 rY1, .slice Y2 oY2 rY2, .slice Y3 oY3 rY3] 26)) w_4.heap.size _ _ _ := blk_top rfl
    have HYB9 := hide hB
    have HY9 := hide (hkn.any.below ((Below.refl _ w_4).alloc (Nat.le_refl _) (.cells #[.slice Y1 oY1 rY1, .slice Y2 oY2 rY2, .slice Y3 oY3 rY3] 26)))
    clear hkn hb_4 hbn hB
    obtain ⟨qYB10a, qYB10b, qYB10c⟩ := HYB9.out.cell
    go_wp2_with fail
    generalize hxb : w_4.heap.size = bY at *
    generalize w_4.alloc (.cells #[.slice Y1 oY1 rY1, .slice Y2 oY2 rY2, .slice Y3 oY3 rY3] 26) = v_4 at *
    clear hxb w_4
    refine (delw_any key Y _ _ _ _ (fun _ => True) HY9.out).mono ?_
    rw [HDZ.out, HZZ.out]
    rintro e w_5 ⟨⟨x1, x2, x3, rfl, hkn⟩, hb_5⟩
    obtain ⟨Z1, oZ1, rZ1, Z2, oZ2, rZ2, Z3, oZ3, rZ3, rfl, rfl, rfl⟩ := kn_shape hkn
    have hbn := hb_5.alloc hb_5.size (.cells #[.slice Z1 oZ1 rZ1, .slice Z2 oZ2 rZ2, .slice Z3 oZ3 rZ3] 26)
    have HT11 := hide (HT8.out.below hbn)
    have HBW11 := hide (HBW8.out.trans (hbn.mono HBW8.out.size))
    have HTB11 := hide (HTB8.out.below hbn)
    have HXB11 := hide (HXB8.out.below hbn)
    have HX11 := hide (HX8.out.below hbn)
    have HYB11 := hide (HYB9.out.below hbn)
    have HY11 := hide (HY9.out.below hbn)
    clear qYB10a qYB10b qYB10c
    clear HT8 HBW8 HTB8 HXB8 HX8 HYB9 HY9
    have hB : BoxK (w_5.alloc (.cells #[.slice Z1 oZ1 rZ1, .slice Z2 oZ2 rZ2, .slice Z3 oZ3 rZ3] 26)) w_5.heap.size _ _ _ := blk_top rfl
    have HZB12 := hide hB
    have HZ12 := hide (hkn.any.below ((Below.refl _ w_5).alloc (Nat.le_refl _) (.cells #[.slice Z1 oZ1 rZ1, .slice Z2 oZ2 rZ2, .slice Z3 oZ3 rZ3] 26)))
    clear hkn hb_5 hbn hB
    obtain ⟨qYB13a, qYB13b, qYB13c⟩ := HYB11.out.cell
    go_wp2_with fail
    generalize hxb : w_5.heap.size = bZ at *
    generalize w_5.alloc (.cells #[.slice Z1 oZ1 rZ1, .slice Z2 oZ2 rZ2, .slice Z3 oZ3 rZ3] 26) = v_5 at *
    clear hxb w_5
    refine (get_any Y key _ _ _ _ HY11.out).mono ?_
    rw [HCY.out, HFY.out, if_pos rfl, if_pos rfl]
    rintro e w_6 ⟨rfl, hb_6⟩
    have HT14 := hide (HT11.out.below hb_6)
    have HBW14 := hide (HBW11.out.trans (hb_6.mono HBW11.out.size))
    have HTB14 := hide (HTB11.out.below hb_6)
    have HXB14 := hide (HXB11.out.below hb_6)
    have HX14 := hide (HX11.out.below hb_6)
    have HYB14 := hide (HYB11.out.below hb_6)
    have HY14 := hide (HY11.out.below hb_6)
    have HZB14 := hide (HZB12.out.below hb_6)
    have HZ14 := hide (HZ12.out.below hb_6)
    clear qYB13a qYB13b qYB13c
    clear HT11 HBW11 HTB11 HXB11 HX11 HYB11 HY11 HZB12 HZ12
    clear hb_6
    simp only [Option.getD_some, Option.isSome_some, if_true]
    obtain ⟨qYB15a, qYB15b, qYB15c⟩ := HYB14.out.cell
    obtain ⟨qXB16a, qXB16b, qXB16c⟩ := HXB14.out.cell
    go_wp2_with fail
    go_region_held3 (fun w' => (w'.cell? ⟨bY, 0, none⟩ = some (.slice Y1 oY1 rY1) ∧ w'.cell? ⟨bY, 1, none⟩ = some (.slice Y2 oY2 rY2) ∧ w'.cell? ⟨bY, 2, none⟩ = some (.slice Y3 oY3 rY3)) ∧ w'.cell? ⟨bX, 0, none⟩ = some (.slice X1 oX1 rX1) ∧ w'.cell? ⟨bX, 1, none⟩ = some (.slice X2 oX2 rX2) ∧ w'.cell? ⟨bX, 2, none⟩ = some (.slice X3 oX3 rX3))
      ((refine keepB6 ⟨⟨qYB15a, qYB15b, qYB15c⟩, qXB16a, qXB16b, qXB16c⟩ ?_; (repeat' (first | exact hc4 | exact hc3 | exact hc2 | exact hc1 | exact Below.refl _ _ | refine bdr ?_ | refine bal ?_ _))))
      (first
        | (go_at_call 17; refine (all_any Y _ _ _ _ ?_ hlY).mono ?_; exact HY14.out.drew; rw [HAY.out]; rintro e wa ⟨va, rfl, hoa, hba⟩; have hoa2 : wa.ownsRow _ 44 2 va (flat Y).length (cellsV (flat Y)) := hoa; rw [HLEN.out] at hoa2; obtain ⟨AA, cA, rfl⟩ := own_slice hoa2; clear hoa2 hoa; have hc1 := btr (bdr (Below.refl _ _)) hba; clear hba)
        | (go_at_call 17; refine (all_any X _ _ _ _ ?_ hlX).mono ?_; exact HX14.out.below hc1; rw [HAX.out]; rintro e wb ⟨vb, rfl, hob, hbb⟩; obtain ⟨AB, cB, rfl, _⟩ := hob.sl; clear hob; have hc2 := btr hc1 hbb; clear hbb))
    have HT17 := hide (HT14.out.below hc2)
    have HBW17 := hide (HBW14.out.trans (hc2.mono HBW14.out.size))
    have HTB17 := hide (HTB14.out.below hc2)
    have HXB17 := hide (HXB14.out.below hc2)
    have HX17 := hide (HX14.out.below hc2)
    have HYB17 := hide (HYB14.out.below hc2)
    have HY17 := hide (HY14.out.below hc2)
    have HZB17 := hide (HZB14.out.below hc2)
    have HZ17 := hide (HZ14.out.below hc2)
    clear qYB15a qYB15b qYB15c qXB16a qXB16b qXB16c
    clear HT14 HBW14 HTB14 HXB14 HX14 HYB14 HY14 HZB14 HZ14
    clear hc1 hc2
    obtain ⟨qZB18a, qZB18b, qZB18c⟩ := HZB17.out.cell
    obtain ⟨qTB19a, qTB19b, qTB19c⟩ := HTB17.out.cell
    go_wp2_with fail
    rcases HE2.out with rfl | ⟨rfl, hzt⟩
    · clear HE2
      go_region_law
        ((go_simp; go_at_call 19; refine (awake20_any _).mono ?_; rintro e wz ⟨rfl, hz⟩; have hc4 := btr (bdr (Below.refl _ _)) hz; have hbz := HBW17.out.trans (hc4.mono HBW17.out.size); clear hz))
      all_goals go_wp2_with fail
      all_goals go_ret
      all_goals exact ⟨rfl, hbz⟩
    · have HZT := hide hzt
      clear hzt HE2
      go_region_held3 (fun w' => (w'.cell? ⟨bZ, 0, none⟩ = some (.slice Z1 oZ1 rZ1) ∧ w'.cell? ⟨bZ, 1, none⟩ = some (.slice Z2 oZ2 rZ2) ∧ w'.cell? ⟨bZ, 2, none⟩ = some (.slice Z3 oZ3 rZ3)) ∧ w'.cell? ⟨w.heap.size, 0, none⟩ = some (.slice B1 m1 d1) ∧ w'.cell? ⟨w.heap.size, 1, none⟩ = some (.slice B2 m2 d2) ∧ w'.cell? ⟨w.heap.size, 2, none⟩ = some (.slice B3 m3 d3))
        ((refine keepB6 ⟨⟨qZB18a, qZB18b, qZB18c⟩, qTB19a, qTB19b, qTB19c⟩ ?_; (repeat' (first | exact hc4 | exact hc3 | exact hc2 | exact hc1 | exact Below.refl _ _ | refine bdr ?_ | refine bal ?_ _))))
        (first
          | (go_at_call 17; refine (all_any Z _ _ _ _ ?_ hlZ).mono ?_; exact HZ17.out.drew; rw [HAZ.out]; rintro e wa ⟨va, rfl, hoa, hba⟩; obtain ⟨AA, cA, rfl, hsa⟩ := hoa.sl; clear hoa; have hc1 := btr (bdr (Below.refl _ _)) hba; clear hba)
          | (go_at_call 17; refine (all_any T _ _ _ _ ?_ hlT).mono ?_; exact HT17.out.below hc1; rw [HAT.out]; rintro e wb ⟨vb, rfl, hob, hbb⟩; obtain ⟨AB, cB, rfl, hsb⟩ := hob.sl; clear hob; have hsa2 := hsa.below hbb; have hc2 := btr hc1 hbb; clear hbb hsa)
          | (go_at_call 21; refine (rsame_any AA AB _ _ cA cB _ _ _ _ _ hsa2 hsb hlZ).mono ?_; rw [HZT.out, same_self]; rintro e wc ⟨rfl, qc, rfl⟩; have hc3 := below_drewN hc2 qc)
          | (go_at_call 19; refine (awake20_any _).mono ?_; rintro e wz ⟨rfl, hz⟩; have hc4 := btr hc3 hz; have hbz := HBW17.out.trans (hc4.mono HBW17.out.size); clear hz))
      all_goals go_wp2_with fail
      all_goals go_ret
      all_goals exact ⟨rfl, hbz⟩
end Go.Proofs.Ytkkddnmpehoeoaa
