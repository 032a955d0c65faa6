/- The walk of the law TreePlays. -/
import Derived.Test.YtkkddnmpehoeoaaTreeActs
import Derived.Test.YtkkddnmpehoeoaaTreeLevelsW
import Derived.Deep.DeepCutAuto
import Derived.Deep.CutBlock
namespace Go.Proofs.Ytkkddnmpehoeoaa
open Go.RowKit
open TreeP (Kt Cell kl flat flatL height Inv InB depthP)
set_option linter.unusedVariables false
attribute [local go_sem ↓] Go.wp_at_zero Go.wp_at_succ

theorem text_same (s : ByteArray) (w : World) : Calls Try.prog 10 #[.string s] w fun e w' => e = .returned (.string (TreeP.cutT s)) ∧ w' = w := (text_any s w).mono fun _ _ ⟨a, b⟩ => ⟨a, b.symm⟩

set_option maxRecDepth 100000 in
set_option maxHeartbeats 6400000 in
theorem treePlays_walk (A : Option Addr) (n c : Nat) (acts : List ActT) (frm upt : ByteArray) (w : World) (hs : Sl w (fun _ => True) 3 A n (actsV acts)) (hn : n ≤ 9223372036854775807) :
    Calls Try.prog 7 #[.slice A n c, .string frm, .string upt] w fun e w' => e = .returned (.bool true) ∧ Below w.heap.size w w' := by
  have hbA := (Below.refl w.heap.size w).alloc (Nat.le_refl _) (.cells #[.slice none 0 0, .slice none 0 0, .slice none 0 0] 26)
  have kB : BoxK (w.alloc (.cells #[.slice none 0 0, .slice none 0 0, .slice none 0 0] 26)) w.heap.size (.slice none 0 0) (.slice none 0 0) (.slice none 0 0) := blk_top rfl
  have hP : PlayIn w w.heap.size 0 (.slice none 0 0) (w.alloc (.cells #[.slice none 0 0, .slice none 0 0, .slice none 0 0] 26)) := ⟨.mk [] [] [], 1, _, _, _, none, 0, TreeP.inv_none, by simp [flat, flatL], kn_none _, kB, rfl, Sl.nil, hbA⟩
  have HP := hide hP
  have HSA := hide hs
  clear hbA kB hP hs
  go_enter Try.func7, Try.ntmps7
  go_wp2_with fail
  refine (text_any frm _).mono ?_
  rintro e w2 ⟨rfl, rfl⟩
  go_wp2_with fail
  refine (text_any upt _).mono ?_
  rintro e w2 ⟨rfl, rfl⟩
  go_upto_block 0 with (fail)
  generalize TreeP.cutT frm = frm at *
  generalize TreeP.cutT upt = upt at *
  go_cut [8] (fun vl wc => ∃ k, k ≤ 80 ∧ PlayIn w w.heap.size k vl wc)
  case first =>
    go_wp2_with fail
    go_loopw [8, 9] (fun vl i wr => ∃ (k : Nat), k ≤ n ∧ k ≤ 80 ∧ i = .int .i64 k ∧ PlayIn w w.heap.size k vl wr) (fun _ i _ => n - (intOf i).toNat)
    case atStart => exact ⟨0, by omega, by omega, rfl, HP.out⟩
    case round =>
      clear HP
      obtain ⟨k, hk, hk80, rfl, T, h, v1, v2, v3, AL, cL, H, hcnt, hkn, hB, rfl, hsl, hb⟩ := hrel
      by_cases hlt : k < n ∧ k < 80
      rotate_left
      · have hP : PlayIn w w.heap.size k (.slice AL (flat T).length cL) wr := ⟨T, h, v1, v2, v3, AL, cL, H, hcnt, hkn, hB, rfl, hsl, hb⟩
        have HP := hide hP
        have hend : (n : Int) ≤ k ∨ (80 : Int) ≤ k := by omega
        clear H hcnt hkn hB hsl hb hP
        rcases hend with hend | hend
        · go_wp2_with fail
          all_goals go_meet
          all_goals exact ⟨k, hk80, HP.out⟩
        · go_wp2_with fail
          all_goals go_meet
          all_goals exact ⟨k, hk80, HP.out⟩
      · obtain ⟨hlt, hlt80⟩ := hlt
        obtain ⟨ad, act, eA, hact, hc1, hc2, hc3⟩ := (HSA.out.below hb).act hlt
        obtain ⟨key0, val0, del⟩ := act
        simp only at hc1 hc2 hc3
        obtain ⟨B1, m1, d1, B2, m2, d2, B3, m3, d3, rfl, rfl, rfl⟩ := kn_shape hkn
        have hc0 := chk_small H (by omega)
        have hrise := (TreeP.inv_inB (by omega) H).2
        have hrl := TreeP.inv_height (by omega) H
        have hge : (0 : Int) ≤ (k : Int) := by omega
        have hgl : (k : Int) < (n : Int) := by omega
        have hg80 : (k : Int) < 80 := by omega
        have hbsz : w.heap.size < wr.heap.size := (Array.getElem?_eq_some_iff.1 hB).1
        have HT0 := hide hkn
        have HTB0 := hide hB
        have HSL0 := hide hsl
        have HBW0 := hide hb
        have HC1 := hide hc1
        have HC2 := hide hc2
        have HC3 := hide hc3
        have HH := hide H
        have HC0 := hide hc0
        have HRI := hide hrise
        have HRL := hide hrl
        have HSA2 := hide HSA.out.lt
        clear hact hkn hB hsl hb H hc0 hrise hrl HSA
        subst eA
        go_wp2_with fail
        go_quiet ((go_at_call 10; exact Calls.quiet_of_same (text_same _ _)))
        have hbq := below_drewN (Below.refl wr.heap.size wr) nq
        have hd1 := cell_next HC3.out hbq
        have HD1 := hide hd1
        have HT1 := hide (HT0.out.below hbq)
        have HTB1 := hide (HTB0.out.below hbq)
        have HSL1 := hide (HSL0.out.below hbq)
        have HBW1 := hide (HBW0.out.trans (hbq.mono HBW0.out.size))
        clear HT0 HTB0 HSL0 HBW0
        have hbq2 : w.heap.size < (wr.drewN nq).heap.size := hbsz
        generalize wr.drewN nq = wq at *
        clear hbq hbsz hc1 hc2 hc3 HC1 HC2 HC3 hd1 wr
        generalize TreeP.cutT key0 = key at *
        generalize TreeP.cutT val0 = val at *
        go_wp2_with fail
        have hcn2 : (flat T).length ≤ 1000000000 := by omega
        refine (rget_any AL (flat T).length cL (flat T) key _ _ HSL1.out hcn2).mono ?_
        rintro e w8 ⟨rfl, rfl⟩
        obtain ⟨hx, _, HX, hfx⟩ := putR_ok (key, val) HH.out (show (flat T).length ≤ 100000000 by omega)
        have hlx : (flat (putR (key, val) T)).length ≤ k + 1 := by rw [hfx, TreeP.length_withC HRI.out]; split <;> omega
        have hcx := chk_small HX (by omega)
        have hdx : depthP (putR (key, val) T) = hx := (TreeP.depth_iff (TreeP.inv_pos (by omega) HX)).2 HX
        have hx0 := TreeP.inv_pos (by omega) HX
        have hx27 := TreeP.inv_64 HX (by omega)
        have hhx := TreeP.inv_height (by omega) HX
        have HHX := hide HX
        have HFX := hide hfx
        have HCX := hide hcx
        have HDX := hide hdx
        have HHTX := hide hhx
        have HDEL := hide (fun hg => delR_ok (key := key) HH.out (show (flat T).length ≤ 100000000 by omega) hg)
        have HNO := hide (fun hg => delE_no (key := key) HH.out (show (flat T).length ≤ 100000000 by omega) hg)
        clear HX hfx hcx hdx hhx
        obtain ⟨qTB2a, qTB2b, qTB2c⟩ := HTB1.out.cell
        obtain ⟨G, hG⟩ : ∃ G, G = TreeP.get (flat T) key := ⟨_, rfl⟩
        rw [← hG]
        have HG := hide hG
        clear hG
        go_wp2_with fail
        refine (putw_any (key, val) T _ _ _ _ (fun i => i ≠ w.heap.size) HT1.out).mono ?_
        rw [HC0.out]
        rintro e w9 ⟨⟨x1, x2, x3, rfl, hkn⟩, hb9⟩
        obtain ⟨X1, oX1, rX1, X2, oX2, rX2, X3, oX3, rX3, rfl, rfl, rfl⟩ := kn_shape hkn
        have hbn := hb9.alloc hb9.size (.cells #[.slice X1 oX1 rX1, .slice X2 oX2 rX2, .slice X3 oX3 rX3] 26)
        have hbo : Below w9.heap.size w9 (w9.alloc (.cells #[.slice X1 oX1 rX1, .slice X2 oX2 rX2, .slice X3 oX3 rX3] 26)) := (Below.refl _ w9).alloc (Nat.le_refl _) _
        have hXB : BoxK (w9.alloc (.cells #[.slice X1 oX1 rX1, .slice X2 oX2 rX2, .slice X3 oX3 rX3] 26)) w9.heap.size _ _ _ := blk_top rfl
        have hX2 : Kn (w9.alloc (.cells #[.slice X1 oX1 rX1, .slice X2 oX2 rX2, .slice X3 oX3 rX3] 26)) (fun i => i ≠ w.heap.size ∧ i ≠ w9.heap.size) 1000 _ _ _ (putR (key, val) T) := kn_keep (Nat.le_refl _) hbo.size (fun i _ hl => hbo.block i hl) (fun i hi hl => ⟨by rcases hi with hi | hi; exact hi.1; omega, by omega⟩) hkn
        have hT2 : Kn (w9.alloc (.cells #[.slice X1 oX1 rX1, .slice X2 oX2 rX2, .slice X3 oX3 rX3] 26)) (fun i => i ≠ w.heap.size ∧ i ≠ w9.heap.size) 1000 _ _ _ T := kn_keep (Nat.le_refl _) hbo.size (fun i _ hl => hbo.block i hl) (fun i hi hl => ⟨hi, by omega⟩) (HT1.out.below hb9)
        have hS2 : Sl (w9.alloc (.cells #[.slice X1 oX1 rX1, .slice X2 oX2 rX2, .slice X3 oX3 rX3] 26)) (fun i => i ≠ w.heap.size ∧ i ≠ w9.heap.size) 2 AL (flat T).length (cellsV (flat T)) := (((HSL1.out.below hb9).lt').keep hbo.size (fun i _ hl => hbo.block i hl)).mono (fun i hi => ⟨hi.1, by omega⟩)
        have hB2 := HTB1.out.below hbn
        have hW2 := HBW1.out.trans (hbn.mono HBW1.out.size)
        have hD2 := cell_next HD1.out hbn
        have hlt9 : w.heap.size < w9.heap.size := Nat.lt_of_lt_of_le hbq2 hb9.size
        have hbx0 : w.heap.size ≠ w9.heap.size := by omega
        have HBX0 := hide hbx0
        have hbx1 : w.heap.size ≤ w9.heap.size := by omega
        have HBX1 := hide hbx1
        clear hlt9 hbx0 hbx1
        clear qTB2a qTB2b qTB2c
        have HX2 := hide hX2
        have HT2 := hide hT2
        have HS2 := hide hS2
        have HB2 := hide hB2
        have HW2 := hide hW2
        have HXB := hide hXB
        clear hkn hb9 hbn hbo hXB hX2 hT2 hS2 hB2 hW2 hbq2 HD1 HT1 HTB1 HSL1 HBW1
        cases del with
        | false =>
          go_wp2_with fail
          generalize hxb : w9.heap.size = bX at *
          generalize w9.alloc (.cells #[.slice X1 oX1 rX1, .slice X2 oX2 rX2, .slice X3 oX3 rX3] 26) = wA at *
          clear hxb w9 w8
          have hsz := (Array.getElem?_eq_some_iff.1 HB2.out).1
          refine (rwith_any AL _ cL (flat T) key val _ _ HS2.out (by omega)).mono ?_
          rw [← HFX.out]
          rintro e w_51 ⟨vn, rfl, hon, hb_51⟩
          obtain ⟨AN, cN, rfl, hsn⟩ := hon.slv (V := fun i => i ≠ w.heap.size) (fun i hi => by omega)
          clear HT2
          clear HS2
          have HX3 := hide (HX2.out.below hb_51)
          have HTB3 := hide (HB2.out.below hb_51)
          have HBW3 := hide (HW2.out.trans (hb_51.mono HW2.out.size))
          have HXB3 := hide (HXB.out.below hb_51)
          clear HX2 HB2 HW2 HXB
          clear hb_51 hon hsz HDEL HNO HG
          have HSN := hide hsn
          clear hsn
          clear hD2
          obtain ⟨qXB4a, qXB4b, qXB4c⟩ := HXB3.out.cell
          go_wp2_with fail
          refine (check_any (putR (key, val) T) _ _ _ _ (kn_keep (by omega) (Nat.le_refl _) (fun _ _ _ => rfl) (fun b h _ => trivial) HX3.out)).mono ?_
          rw [HCX.out]
          rintro e w_52 ⟨rfl, hb_52⟩
          have HX5 := hide (HX3.out.below hb_52)
          have HTB5 := hide (HTB3.out.below hb_52)
          have HBW5 := hide (HBW3.out.trans (hb_52.mono HBW3.out.size))
          have HXB5 := hide (HXB3.out.below hb_52)
          have HSL5 := hide (HSN.out.below hb_52)
          clear qXB4a qXB4b qXB4c
          clear HX3 HTB3 HBW3 HXB3 HSN
          clear hb_52
          obtain ⟨qXB6a, qXB6b, qXB6c⟩ := HXB5.out.cell
          go_wp2_with fail
          refine (rdepth_any (putR (key, val) T) _ _ _ _ (kn_keep (Nat.le_refl _) (Nat.le_refl _) (fun _ _ _ => rfl) (fun _ _ _ => trivial) HX5.out) (by have := HHTX.out; omega) (by omega)).mono ?_
          rw [HDX.out]
          rintro e w_53 ⟨rfl, hb_53⟩
          have HX7 := hide (HX5.out.below hb_53)
          have HTB7 := hide (HTB5.out.below hb_53)
          have HBW7 := hide (HBW5.out.trans (hb_53.mono HBW5.out.size))
          have HXB7 := hide (HXB5.out.below hb_53)
          have HSL7 := hide (HSL5.out.below hb_53)
          clear qXB6a qXB6b qXB6c
          clear HX5 HTB5 HBW5 HXB5 HSL5
          clear hb_53
          obtain ⟨qXB8a, qXB8b, qXB8c⟩ := HXB7.out.cell
          go_wp2_with fail
          refine (rcells_any (putR (key, val) T) _ _ _ _ (kn_keep (Nat.le_refl _) (Nat.le_refl _) (fun _ _ _ => rfl) (fun _ _ _ => trivial) HX7.out) (by omega)).mono ?_
          rintro e w_54 ⟨vr, rfl, hor, hb_54⟩
          obtain ⟨AR, cR, rfl, hsr⟩ := hor.sl
          have HX9 := hide (HX7.out.below hb_54)
          have HTB9 := hide (HTB7.out.below hb_54)
          have HBW9 := hide (HBW7.out.trans (hb_54.mono HBW7.out.size))
          have HXB9 := hide (HXB7.out.below hb_54)
          have HSL9 := hide (HSL7.out.below hb_54)
          clear qXB8a qXB8b qXB8c
          clear HX7 HTB7 HBW7 HXB7 HSL7
          clear hb_54 hor
          have HSR := hide hsr
          clear hsr
          obtain ⟨qXB10a, qXB10b, qXB10c⟩ := HXB9.out.cell
          go_wp2_with fail
          refine (rsame_any AR AN _ _ cR cN _ _ _ _ _ HSR.out HSL9.out (by omega)).mono ?_
          rw [same_self]
          rintro e ws ⟨rfl, qs, rfl⟩
          have hbq := below_drewN (Below.refl w_54.heap.size w_54) qs
          have HX11 := hide (HX9.out.below hbq)
          have HTB11 := hide (HTB9.out.below hbq)
          have HBW11 := hide (HBW9.out.trans (hbq.mono HBW9.out.size))
          have HXB11 := hide (HXB9.out.below hbq)
          have HSL11 := hide (HSL9.out.below hbq)
          clear qXB10a qXB10b qXB10c
          clear HX9 HTB9 HBW9 HXB9 HSL9
          clear hbq HSR
          generalize w_54.drewN qs = wS at *
          have hTB := HTB11.out
          have f0 := hTB.frozen 0
          have f1 := hTB.frozen 1
          have f2 := hTB.frozen 2
          obtain ⟨t0, t1, t2⟩ := hTB.cell
          clear hTB
          obtain ⟨qXB12a, qXB12b, qXB12c⟩ := HXB11.out.cell
          clear w_54
          go_wp2_with fail
          have hR : PlayIn w w.heap.size (k + 1) (.slice AN (flat (putR (key, val) T)).length cN) (((wS.setCell ⟨w.heap.size, 0, none⟩ (.slice X1 oX1 rX1)).setCell ⟨w.heap.size, 1, none⟩ (.slice X2 oX2 rX2)).setCell ⟨w.heap.size, 2, none⟩ (.slice X3 oX3 rX3)) :=
            ⟨_, _, _, _, _, _, _, HHX.out, by omega, kn_keep (Nat.le_refl _) (Nat.le_refl _) (fun _ _ _ => rfl) (fun _ hi _ => hi.1) (kn_set3 HX11.out (fun i hi => hi.1)), HTB11.out.set, rfl, sl_set3 HSL11.out (fun i hi => hi), below_set3 HBW11.out (Nat.le_refl _)⟩
          have HR := hide hR
          clear hR
          go_roundw
          case rel => exact ⟨k + 1, by omega, by omega, by go_num, HR.out⟩
          case measure => simp [intOf]; omega
        | true =>
          obtain ⟨qTB3a, qTB3b, qTB3c⟩ := HB2.out.cell
          go_wp2_with fail
          generalize hxb : w9.heap.size = bX at *
          generalize w9.alloc (.cells #[.slice X1 oX1 rX1, .slice X2 oX2 rX2, .slice X3 oX3 rX3] 26) = wA at *
          clear hxb w9 w8
          refine (delw_any key T _ _ _ _ (fun i => i ≠ w.heap.size ∧ i ≠ bX) HT2.out).mono ?_
          rintro e wB ⟨⟨y1, y2, y3, rfl, hky⟩, hbB⟩
          obtain ⟨Y1, oY1, rY1, Y2, oY2, rY2, Y3, oY3, rY3, rfl, rfl, rfl⟩ := kn_shape hky
          have hszA := (Array.getElem?_eq_some_iff.1 HB2.out).1
          have hszX := (Array.getElem?_eq_some_iff.1 HXB.out).1
          have hky2 : Kn wB (fun i => i ≠ w.heap.size ∧ i ≠ bX) 1000 _ _ _ (delR key T) := kn_keep (Nat.le_refl _) (Nat.le_refl _) (fun _ _ _ => rfl) (fun i hi _ => by rcases hi with hi | hi; exact hi.1; exact ⟨by omega, by omega⟩) hky
          clear HX2
          have HT4 := hide (HT2.out.below hbB)
          have HSL4 := hide (HS2.out.below hbB)
          have HTB4 := hide (HB2.out.below hbB)
          have HBW4 := hide (HW2.out.trans (hbB.mono HW2.out.size))
          have HXB4 := hide (HXB.out.below hbB)
          clear qTB3a qTB3b qTB3c
          clear HT2 HS2 HB2 HW2 HXB
          have hXB := HXB4.out
          have g0 := hXB.frozen 0
          have g1 := hXB.frozen 1
          have g2 := hXB.frozen 2
          obtain ⟨g3, g4, g5⟩ := hXB.cell
          have HKY := hide hky2
          have hbne := HBX0.out
          clear hky hbB hky2 hszA hszX hXB hD2
          have hGq := HG.out
          cases G with
          | none =>
            rw [HNO.out hGq.symm]
            clear hGq
            go_wp2_with fail
            have HT3 := hide (kn_set3 (u1 := .slice Y1 oY1 rY1) (u2 := .slice Y2 oY2 rY2) (u3 := .slice Y3 oY3 rY3) HT4.out (fun i hi => hi.2))
            have HY3 := hide (kn_set3 (u1 := .slice Y1 oY1 rY1) (u2 := .slice Y2 oY2 rY2) (u3 := .slice Y3 oY3 rY3) HKY.out (fun i hi => hi.2))
            have HS3 := hide (sl_set3 (u1 := .slice Y1 oY1 rY1) (u2 := .slice Y2 oY2 rY2) (u3 := .slice Y3 oY3 rY3) HSL4.out (fun i hi => hi.2))
            have HB3 := hide (HTB4.out.other (b := bX) (u1 := .slice Y1 oY1 rY1) (u2 := .slice Y2 oY2 rY2) (u3 := .slice Y3 oY3 rY3) hbne)
            have HX3 := hide (HXB4.out.set (u1 := .slice Y1 oY1 rY1) (u2 := .slice Y2 oY2 rY2) (u3 := .slice Y3 oY3 rY3))
            have HW3 := hide (below_set3 (b := bX) (u1 := .slice Y1 oY1 rY1) (u2 := .slice Y2 oY2 rY2) (u3 := .slice Y3 oY3 rY3) HBW4.out HBX1.out)
            clear HKY g0 g1 g2 g3 g4 g5 hbne HBX1 HT4 HSL4 HTB4 HBW4 HXB4
            have hR : PlayIn w w.heap.size (k + 1) (.slice AL (flat T).length cL) (((wB.setCell ⟨bX, 0, none⟩ (.slice Y1 oY1 rY1)).setCell ⟨bX, 1, none⟩ (.slice Y2 oY2 rY2)).setCell ⟨bX, 2, none⟩ (.slice Y3 oY3 rY3)) := ⟨_, _, _, _, _, _, _, HH.out, by omega, kn_keep (Nat.le_refl _) (Nat.le_refl _) (fun _ _ _ => rfl) (fun _ hi _ => hi.1) HT3.out, HB3.out, rfl, HS3.out.mono (fun i hi => hi.1), HW3.out⟩
            have HR := hide hR
            clear hR
            go_roundw
            case rel => exact ⟨k + 1, by omega, by omega, by go_num, HR.out⟩
            case measure => simp [intOf]; omega
          | some gu =>
            obtain ⟨he0, hy, _, HY, hfy⟩ := HDEL.out (by rw [← hGq]; rfl)
            have hly : (flat (delR key T)).length ≤ k + 1 := by rw [hfy]; have := TreeP.without_len_le (flat T) key; omega
            have hcy := chk_small HY (by omega)
            have hdy : depthP (delR key T) = hy := (TreeP.depth_iff (TreeP.inv_pos (by omega) HY)).2 HY
            have hy0 := TreeP.inv_pos (by omega) HY
            have hy27 := TreeP.inv_64 HY (by omega)
            have hhy := TreeP.inv_height (by omega) HY
            rw [he0]
            have HHY := hide HY
            have HFY := hide hfy
            have HCY := hide hcy
            have HDY := hide hdy
            have HHTY := hide hhy
            clear he0 HY hfy hcy hdy hhy hGq
            go_wp2_with fail
            have HT3 := hide (kn_set3 (u1 := .slice Y1 oY1 rY1) (u2 := .slice Y2 oY2 rY2) (u3 := .slice Y3 oY3 rY3) HT4.out (fun i hi => hi.2))
            have HY3 := hide (kn_set3 (u1 := .slice Y1 oY1 rY1) (u2 := .slice Y2 oY2 rY2) (u3 := .slice Y3 oY3 rY3) HKY.out (fun i hi => hi.2))
            have HS3 := hide (sl_set3 (u1 := .slice Y1 oY1 rY1) (u2 := .slice Y2 oY2 rY2) (u3 := .slice Y3 oY3 rY3) HSL4.out (fun i hi => hi.2))
            have HB3 := hide (HTB4.out.other (b := bX) (u1 := .slice Y1 oY1 rY1) (u2 := .slice Y2 oY2 rY2) (u3 := .slice Y3 oY3 rY3) hbne)
            have HX3 := hide (HXB4.out.set (u1 := .slice Y1 oY1 rY1) (u2 := .slice Y2 oY2 rY2) (u3 := .slice Y3 oY3 rY3))
            have HW3 := hide (below_set3 (b := bX) (u1 := .slice Y1 oY1 rY1) (u2 := .slice Y2 oY2 rY2) (u3 := .slice Y3 oY3 rY3) HBW4.out HBX1.out)
            clear HKY g0 g1 g2 g3 g4 g5 hbne HBX1 HT4 HSL4 HTB4 HBW4 HXB4
            generalize ((wB.setCell ⟨bX, 0, none⟩ (.slice Y1 oY1 rY1)).setCell ⟨bX, 1, none⟩ (.slice Y2 oY2 rY2)).setCell ⟨bX, 2, none⟩ (.slice Y3 oY3 rY3) = wC at *
            clear wB
            have hsz := (Array.getElem?_eq_some_iff.1 HB3.out).1
            refine (rwithout_any AL _ cL (flat T) key _ _ HS3.out (by omega)).mono ?_
            rw [← HFY.out]
            rintro e w_91 ⟨vn, rfl, hon, hb_91⟩
            obtain ⟨AN, cN, rfl, hsn⟩ := hon.slv (V := fun i => i ≠ w.heap.size) (fun i hi => by omega)
            clear HT3
            clear HS3
            have HX5 := hide (HY3.out.below hb_91)
            have HTB5 := hide (HB3.out.below hb_91)
            have HBW5 := hide (HW3.out.trans (hb_91.mono HW3.out.size))
            have HXB5 := hide (HX3.out.below hb_91)
            clear HY3 HB3 HW3 HX3
            clear hb_91 hon hsz HDEL HNO HG
            have HSN := hide hsn
            clear hsn
            obtain ⟨qXB6a, qXB6b, qXB6c⟩ := HXB5.out.cell
            go_wp2_with fail
            refine (check_any (delR key T) _ _ _ _ (kn_keep (by omega) (Nat.le_refl _) (fun _ _ _ => rfl) (fun b h _ => trivial) HX5.out)).mono ?_
            rw [HCY.out]
            rintro e w_92 ⟨rfl, hb_92⟩
            have HX7 := hide (HX5.out.below hb_92)
            have HTB7 := hide (HTB5.out.below hb_92)
            have HBW7 := hide (HBW5.out.trans (hb_92.mono HBW5.out.size))
            have HXB7 := hide (HXB5.out.below hb_92)
            have HSL7 := hide (HSN.out.below hb_92)
            clear qXB6a qXB6b qXB6c
            clear HX5 HTB5 HBW5 HXB5 HSN
            clear hb_92
            obtain ⟨qXB8a, qXB8b, qXB8c⟩ := HXB7.out.cell
            go_wp2_with fail
            refine (rdepth_any (delR key T) _ _ _ _ (kn_keep (Nat.le_refl _) (Nat.le_refl _) (fun _ _ _ => rfl) (fun _ _ _ => trivial) HX7.out) (by have := HHTY.out; omega) (by omega)).mono ?_
            rw [HDY.out]
            rintro e w_93 ⟨rfl, hb_93⟩
            have HX9 := hide (HX7.out.below hb_93)
            have HTB9 := hide (HTB7.out.below hb_93)
            have HBW9 := hide (HBW7.out.trans (hb_93.mono HBW7.out.size))
            have HXB9 := hide (HXB7.out.below hb_93)
            have HSL9 := hide (HSL7.out.below hb_93)
            clear qXB8a qXB8b qXB8c
            clear HX7 HTB7 HBW7 HXB7 HSL7
            clear hb_93
            obtain ⟨qXB10a, qXB10b, qXB10c⟩ := HXB9.out.cell
            go_wp2_with fail
            refine (rcells_any (delR key T) _ _ _ _ (kn_keep (Nat.le_refl _) (Nat.le_refl _) (fun _ _ _ => rfl) (fun _ _ _ => trivial) HX9.out) (by omega)).mono ?_
            rintro e w_94 ⟨vr, rfl, hor, hb_94⟩
            obtain ⟨AR, cR, rfl, hsr⟩ := hor.sl
            have HX11 := hide (HX9.out.below hb_94)
            have HTB11 := hide (HTB9.out.below hb_94)
            have HBW11 := hide (HBW9.out.trans (hb_94.mono HBW9.out.size))
            have HXB11 := hide (HXB9.out.below hb_94)
            have HSL11 := hide (HSL9.out.below hb_94)
            clear qXB10a qXB10b qXB10c
            clear HX9 HTB9 HBW9 HXB9 HSL9
            clear hb_94 hor
            have HSR := hide hsr
            clear hsr
            obtain ⟨qXB12a, qXB12b, qXB12c⟩ := HXB11.out.cell
            go_wp2_with fail
            refine (rsame_any AR AN _ _ cR cN _ _ _ _ _ HSR.out HSL11.out (by omega)).mono ?_
            rw [same_self]
            rintro e ws ⟨rfl, qs, rfl⟩
            have hbq := below_drewN (Below.refl w_94.heap.size w_94) qs
            have HX13 := hide (HX11.out.below hbq)
            have HTB13 := hide (HTB11.out.below hbq)
            have HBW13 := hide (HBW11.out.trans (hbq.mono HBW11.out.size))
            have HXB13 := hide (HXB11.out.below hbq)
            have HSL13 := hide (HSL11.out.below hbq)
            clear qXB12a qXB12b qXB12c
            clear HX11 HTB11 HBW11 HXB11 HSL11
            clear hbq HSR
            generalize w_94.drewN qs = wS at *
            have hTB := HTB13.out
            have f0 := hTB.frozen 0
            have f1 := hTB.frozen 1
            have f2 := hTB.frozen 2
            obtain ⟨t0, t1, t2⟩ := hTB.cell
            clear hTB
            obtain ⟨qXB14a, qXB14b, qXB14c⟩ := HXB13.out.cell
            clear w_94
            go_wp2_with fail
            have hR : PlayIn w w.heap.size (k + 1) (.slice AN (flat (delR key T)).length cN) (((wS.setCell ⟨w.heap.size, 0, none⟩ (.slice Y1 oY1 rY1)).setCell ⟨w.heap.size, 1, none⟩ (.slice Y2 oY2 rY2)).setCell ⟨w.heap.size, 2, none⟩ (.slice Y3 oY3 rY3)) :=
              ⟨_, _, _, _, _, _, _, HHY.out, by omega, kn_keep (Nat.le_refl _) (Nat.le_refl _) (fun _ _ _ => rfl) (fun _ hi _ => hi.1) (kn_set3 HX13.out (fun i hi => hi.1)), HTB13.out.set, rfl, sl_set3 HSL13.out (fun i hi => hi), below_set3 HBW13.out (Nat.le_refl _)⟩
            have HR := hide hR
            clear hR
            go_roundw
            case rel => exact ⟨k + 1, by omega, by omega, by go_num, HR.out⟩
            case measure => simp [intOf]; omega
  case rest =>
    clear HP HSA
    obtain ⟨k, hk80, T, h, v1, v2, v3, AL, cL, H, hcnt, hkn, hB, rfl, hsl, hb⟩ := hcut
    obtain ⟨B1, m1, d1, B2, m2, d2, B3, m3, d3, rfl, rfl, rfl⟩ := kn_shape hkn
    have hc0 := chk_small H (by omega)
    have hfg := find_get H frm
    have hat : allP T = flat T := if_pos hc0
    have hdp : depP T = h := by rw [depP, if_pos hc0]; exact TreeP.inv_height (by omega) H
    have hdr : depthP T = h := (TreeP.depth_iff (TreeP.inv_pos (by omega) H)).2 H
    have hbd := depth_bound H
    have h27 := TreeP.inv_64 H (by omega)
    have hhh := TreeP.inv_height (by omega) H
    have hTT : Kn wc (fun _ => True) 1000 _ _ _ T := kn_keep (Nat.le_refl _) (Nat.le_refl _) (fun _ _ _ => rfl) (fun _ _ _ => trivial) hkn
    obtain ⟨L, hL⟩ : ∃ L, L = (flat T).length := ⟨_, rfl⟩
    rw [← hL] at hcnt hbd hsl ⊢
    have H_hc0 := hide hc0
    have H_hfg := hide hfg
    have H_hat := hide hat
    have H_hdp := hide hdp
    have H_hdr := hide hdr
    have H_hbd := hide hbd
    have H_hL := hide hL
    have H_hhh := hide hhh
    have HT0 := hide hTT
    have HTB0 := hide hB
    have HSL0 := hide hsl
    have HBW0 := hide hb
    clear H hc0 hfg hat hdp hdr hbd hL hhh hTT hkn hB hsl hb
    have hL80 : L ≤ 80 := by omega
    go_wp2_with fail
    go_loop [16, 17] (fun nn kk => ∃ j m : Nat, 1 ≤ j ∧ j + m ≤ L + 1 ∧ nn = .int .i64 j ∧ kk = .int .i64 m ∧ Hid (2 ^ (j - 1) * m ≤ L ∧ L < 2 ^ (j - 1) * (m + 1))) (fun _ kk => (intOf kk).toNat)
    case atStart => exact ⟨1, L, by omega, by omega, rfl, rfl, hide (halves_start L)⟩
    case round =>
      obtain ⟨j, m, hj1, hjm, rfl, rfl, hpw⟩ := hrel
      by_cases hm : 1 < m
      · have hm1 : (1 : Int) < (m : Int) := by omega
        have hnx := hide (halves_next hj1 hpw.out)
        clear hpw
        go_wp2_with fail
        go_round
        case rel => exact ⟨j + 1, m / 2, by omega, by omega, by go_num, by go_num, hnx⟩
        case measure => simp [intOf]; omega
      · have hm1 : (m : Int) ≤ 1 := by omega
        have hjh : h ≤ j := halves_end hj1 (by omega) hpw.out.2 H_hbd.out
        have z1 : (h : Int) ≤ (j : Int) := by omega
        have z2 : decide (h ≤ j) = true := decide_eq_true hjh
        clear hpw hm
        obtain ⟨qTB3a, qTB3b, qTB3c⟩ := HTB0.out.cell
        go_wp2_with fail
        obtain ⟨G, hG⟩ : ∃ G, G = TreeP.get (flat T) frm := ⟨_, rfl⟩
        have HG := hide hG
        clear hG
        refine (get_any T frm _ _ _ _ HT0.out).mono ?_
        rw [H_hc0.out, H_hfg.out, ← HG.out, if_pos rfl, if_pos rfl]
        rintro e w_1 ⟨rfl, hb_1⟩
        have HT4 := hide (HT0.out.below hb_1)
        have HTB4 := hide (HTB0.out.below hb_1)
        have HSL4 := hide (HSL0.out.below hb_1)
        have HBW4 := hide (HBW0.out.trans (hb_1.mono HBW0.out.size))
        clear qTB3a qTB3b qTB3c
        clear HT0 HTB0 HSL0 HBW0
        clear hb_1
        cases G with
        | none =>
          simp only [Option.getD_none, Option.isSome_none, Bool.false_eq_true, if_false]
          go_wp2_with fail
          refine (rget_any AL L cL (flat T) frm _ _ HSL4.out (by omega)).mono ?_
          rw [← HG.out]
          rintro e w8 ⟨rfl, rfl⟩
          simp only [Option.getD_none, Option.isSome_none]
          obtain ⟨qTB5a, qTB5b, qTB5c⟩ := HTB4.out.cell
          go_wp2_with fail
          refine (all_any T _ _ _ _ HT4.out (by rw [← H_hL.out]; omega)).mono ?_
          rw [H_hat.out]
          rintro e w_201 ⟨va, rfl, hoa, hb_201⟩
          obtain ⟨AA, cA, rfl, hsa⟩ := hoa.sl
          rw [← H_hL.out] at hsa ⊢
          have HT6 := hide (HT4.out.below hb_201)
          have HTB6 := hide (HTB4.out.below hb_201)
          have HSL6 := hide (HSL4.out.below hb_201)
          have HBW6 := hide (HBW4.out.trans (hb_201.mono HBW4.out.size))
          clear qTB5a qTB5b qTB5c
          clear HT4 HTB4 HSL4 HBW4
          clear hb_201 hoa
          have HSA1 := hide hsa
          clear hsa
          go_wp2_with fail
          refine (rsame_any AA AL _ _ cA cL _ _ _ _ _ HSA1.out HSL6.out (by omega)).mono ?_
          rw [same_self]
          rintro e ws ⟨rfl, qs, rfl⟩
          have hbq := below_drewN (Below.refl w_201.heap.size w_201) qs
          have HT7 := hide (HT6.out.below hbq)
          have HTB7 := hide (HTB6.out.below hbq)
          have HSL7 := hide (HSL6.out.below hbq)
          have HBW7 := hide (HBW6.out.trans (hbq.mono HBW6.out.size))
          clear HT6 HTB6 HSL6 HBW6
          clear hbq HSA1
          generalize w_201.drewN qs = wS at *
          clear w_201
          obtain ⟨qTB8a, qTB8b, qTB8c⟩ := HTB7.out.cell
          go_wp2_with fail
          refine (range_any T frm upt _ _ _ _ HT7.out (by rw [← H_hL.out]; omega)).mono ?_
          rw [H_hat.out]
          rintro e w_202 ⟨vr, rfl, hor, hb_202⟩
          obtain ⟨AR, cR, rfl, hsr⟩ := hor.sl
          have HT9 := hide (HT7.out.below hb_202)
          have HTB9 := hide (HTB7.out.below hb_202)
          have HSL9 := hide (HSL7.out.below hb_202)
          have HBW9 := hide (HBW7.out.trans (hb_202.mono HBW7.out.size))
          clear qTB8a qTB8b qTB8c
          clear HT7 HTB7 HSL7 HBW7
          clear hb_202 hor
          have HSR := hide hsr
          clear hsr
          go_wp2_with fail
          refine (rrange_any AL L cL (flat T) frm upt _ _ HSL9.out (by omega)).mono ?_
          rintro e w_203 ⟨vq, rfl, hoq, hb_203⟩
          obtain ⟨AQ, cQ, rfl, hsq⟩ := hoq.sl
          have HT10 := hide (HT9.out.below hb_203)
          have HTB10 := hide (HTB9.out.below hb_203)
          have HSL10 := hide (HSL9.out.below hb_203)
          have HBW10 := hide (HBW9.out.trans (hb_203.mono HBW9.out.size))
          have HSR10 := hide (HSR.out.below hb_203)
          clear HT9 HTB9 HSL9 HBW9 HSR
          clear hb_203 hoq
          have HSQ := hide hsq
          clear hsq
          go_wp2_with fail
          refine (rsame_any AR AQ _ _ cR cQ _ _ _ _ _ HSR10.out HSQ.out (by have q := List.length_filter_le (fun c : Cell => !kl c.1 frm && (decide (upt = .empty) || kl c.1 upt)) (flat T); have q2 : (TreeP.rangeP frm upt (flat T)).length ≤ (flat T).length := q; rw [← H_hL.out] at q2; omega)).mono ?_
          rw [same_self]
          rintro e wt ⟨rfl, qt, rfl⟩
          clear HSR10
          have hbq := below_drewN (Below.refl w_203.heap.size w_203) qt
          have HT11 := hide (HT10.out.below hbq)
          have HTB11 := hide (HTB10.out.below hbq)
          have HSL11 := hide (HSL10.out.below hbq)
          have HBW11 := hide (HBW10.out.trans (hbq.mono HBW10.out.size))
          clear HT10 HTB10 HSL10 HBW10
          clear hbq HSQ
          generalize w_203.drewN qt = wU at *
          clear w_203
          obtain ⟨qTB12a, qTB12b, qTB12c⟩ := HTB11.out.cell
          go_wp2_with fail
          go_region_held3 (fun w' => w'.cell? ⟨w.heap.size, 0, none⟩ = some (.slice B1 m1 d1) ∧ (w'.cell? ⟨w.heap.size, 1, none⟩ = some (.slice B2 m2 d2) ∧ w'.cell? ⟨w.heap.size, 2, none⟩ = some (.slice B3 m3 d3)))
            ((refine keep3 ⟨qTB12a, qTB12b, qTB12c⟩ ?_; (repeat' (first | exact hc4 | exact hc3 | exact hc2 | exact hc1 | exact Below.refl _ _ | refine bdr ?_ | refine bal ?_ _))))
            (first
              | (go_at_call 18; (with_reducible refine (depth_any T _ _ _ _ ?_).mono ?_); (first | exact HT11.out.below hc2 | exact HT11.out.drew); rw [H_hdp.out]; rintro e wa ⟨rfl, hba⟩; (first | (have hc3 := btr hc2 hba) | (have hc1 := btr (bdr (Below.refl _ _)) hba)); clear hba)
              | (go_at_call 15; (with_reducible refine (rdepth_any T _ _ _ _ ?_ ?_ ?_).mono ?_); exact HT11.out.below hc1; (have := H_hhh.out; omega); (rw [← H_hL.out]; omega); rw [H_hdr.out]; rintro e wb ⟨rfl, hbb⟩; have hc2 := btr hc1 hbb; clear hbb)
              | (go_at_call 19; refine (awake20_any _).mono ?_; rintro e wz ⟨rfl, hz⟩; have hc4 := btr hc3 hz; have hbz := HBW11.out.trans (hc4.mono HBW11.out.size); clear hz))
          all_goals go_wp2_with fail
          all_goals go_ret
          all_goals exact ⟨rfl, hbz⟩
        | some gu =>
          simp only [Option.getD_some, Option.isSome_some, if_true]
          go_wp2_with fail
          refine (rget_any AL L cL (flat T) frm _ _ HSL4.out (by omega)).mono ?_
          rw [← HG.out]
          rintro e w8 ⟨rfl, rfl⟩
          simp only [Option.getD_some, Option.isSome_some]
          obtain ⟨qTB5a, qTB5b, qTB5c⟩ := HTB4.out.cell
          go_wp2_with fail
          refine (all_any T _ _ _ _ HT4.out (by rw [← H_hL.out]; omega)).mono ?_
          rw [H_hat.out]
          rintro e w_301 ⟨va, rfl, hoa, hb_301⟩
          obtain ⟨AA, cA, rfl, hsa⟩ := hoa.sl
          rw [← H_hL.out] at hsa ⊢
          have HT6 := hide (HT4.out.below hb_301)
          have HTB6 := hide (HTB4.out.below hb_301)
          have HSL6 := hide (HSL4.out.below hb_301)
          have HBW6 := hide (HBW4.out.trans (hb_301.mono HBW4.out.size))
          clear qTB5a qTB5b qTB5c
          clear HT4 HTB4 HSL4 HBW4
          clear hb_301 hoa
          have HSA1 := hide hsa
          clear hsa
          go_wp2_with fail
          refine (rsame_any AA AL _ _ cA cL _ _ _ _ _ HSA1.out HSL6.out (by omega)).mono ?_
          rw [same_self]
          rintro e ws ⟨rfl, qs, rfl⟩
          have hbq := below_drewN (Below.refl w_301.heap.size w_301) qs
          have HT7 := hide (HT6.out.below hbq)
          have HTB7 := hide (HTB6.out.below hbq)
          have HSL7 := hide (HSL6.out.below hbq)
          have HBW7 := hide (HBW6.out.trans (hbq.mono HBW6.out.size))
          clear HT6 HTB6 HSL6 HBW6
          clear hbq HSA1
          generalize w_301.drewN qs = wS at *
          clear w_301
          obtain ⟨qTB8a, qTB8b, qTB8c⟩ := HTB7.out.cell
          go_wp2_with fail
          refine (range_any T frm upt _ _ _ _ HT7.out (by rw [← H_hL.out]; omega)).mono ?_
          rw [H_hat.out]
          rintro e w_302 ⟨vr, rfl, hor, hb_302⟩
          obtain ⟨AR, cR, rfl, hsr⟩ := hor.sl
          have HT9 := hide (HT7.out.below hb_302)
          have HTB9 := hide (HTB7.out.below hb_302)
          have HSL9 := hide (HSL7.out.below hb_302)
          have HBW9 := hide (HBW7.out.trans (hb_302.mono HBW7.out.size))
          clear qTB8a qTB8b qTB8c
          clear HT7 HTB7 HSL7 HBW7
          clear hb_302 hor
          have HSR := hide hsr
          clear hsr
          go_wp2_with fail
          refine (rrange_any AL L cL (flat T) frm upt _ _ HSL9.out (by omega)).mono ?_
          rintro e w_303 ⟨vq, rfl, hoq, hb_303⟩
          obtain ⟨AQ, cQ, rfl, hsq⟩ := hoq.sl
          have HT10 := hide (HT9.out.below hb_303)
          have HTB10 := hide (HTB9.out.below hb_303)
          have HSL10 := hide (HSL9.out.below hb_303)
          have HBW10 := hide (HBW9.out.trans (hb_303.mono HBW9.out.size))
          have HSR10 := hide (HSR.out.below hb_303)
          clear HT9 HTB9 HSL9 HBW9 HSR
          clear hb_303 hoq
          have HSQ := hide hsq
          clear hsq
          go_wp2_with fail
          refine (rsame_any AR AQ _ _ cR cQ _ _ _ _ _ HSR10.out HSQ.out (by have q := List.length_filter_le (fun c : Cell => !kl c.1 frm && (decide (upt = .empty) || kl c.1 upt)) (flat T); have q2 : (TreeP.rangeP frm upt (flat T)).length ≤ (flat T).length := q; rw [← H_hL.out] at q2; omega)).mono ?_
          rw [same_self]
          rintro e wt ⟨rfl, qt, rfl⟩
          clear HSR10
          have hbq := below_drewN (Below.refl w_303.heap.size w_303) qt
          have HT11 := hide (HT10.out.below hbq)
          have HTB11 := hide (HTB10.out.below hbq)
          have HSL11 := hide (HSL10.out.below hbq)
          have HBW11 := hide (HBW10.out.trans (hbq.mono HBW10.out.size))
          clear HT10 HTB10 HSL10 HBW10
          clear hbq HSQ
          generalize w_303.drewN qt = wU at *
          clear w_303
          obtain ⟨qTB12a, qTB12b, qTB12c⟩ := HTB11.out.cell
          go_wp2_with fail
          go_region_held3 (fun w' => w'.cell? ⟨w.heap.size, 0, none⟩ = some (.slice B1 m1 d1) ∧ (w'.cell? ⟨w.heap.size, 1, none⟩ = some (.slice B2 m2 d2) ∧ w'.cell? ⟨w.heap.size, 2, none⟩ = some (.slice B3 m3 d3)))
            ((refine keep3 ⟨qTB12a, qTB12b, qTB12c⟩ ?_; (repeat' (first | exact hc4 | exact hc3 | exact hc2 | exact hc1 | exact Below.refl _ _ | refine bdr ?_ | refine bal ?_ _))))
            (first
              | (go_at_call 18; (with_reducible refine (depth_any T _ _ _ _ ?_).mono ?_); (first | exact HT11.out.below hc2 | exact HT11.out.drew); rw [H_hdp.out]; rintro e wa ⟨rfl, hba⟩; (first | (have hc3 := btr hc2 hba) | (have hc1 := btr (bdr (Below.refl _ _)) hba)); clear hba)
              | (go_at_call 15; (with_reducible refine (rdepth_any T _ _ _ _ ?_ ?_ ?_).mono ?_); exact HT11.out.below hc1; (have := H_hhh.out; omega); (rw [← H_hL.out]; omega); rw [H_hdr.out]; rintro e wb ⟨rfl, hbb⟩; have hc2 := btr hc1 hbb; clear hbb)
              | (go_at_call 19; refine (awake20_any _).mono ?_; rintro e wz ⟨rfl, hz⟩; have hc4 := btr hc3 hz; have hbz := HBW11.out.trans (hc4.mono HBW11.out.size); clear hz))
          all_goals go_wp2_with fail
          all_goals go_ret
          all_goals exact ⟨rfl, hbz⟩
end Go.Proofs.Ytkkddnmpehoeoaa
