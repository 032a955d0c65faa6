/- The walk of the law TreeRanges. -/
import Derived.Test.YtkkddnmpehoeoaaTreeBackW
namespace Go.Proofs.Ytkkddnmpehoeoaa
open Go.RowKit
open TreeP (Kt Cell kl flat flatL height Inv InB cutT fewK depthP)
set_option linter.unusedVariables false
attribute [local go_sem ↓] Go.wp_at_zero Go.wp_at_succ

theorem keepR4 {w w' : World} {a b c d : Addr} {x y z u : Value} (h : (w.cell? a = some x ∧ (w.cell? b = some y ∧ w.cell? c = some z)) ∧ w.cell? d = some u) (hb : Below w.heap.size w w') : (w'.cell? a = some x ∧ (w'.cell? b = some y ∧ w'.cell? c = some z)) ∧ w'.cell? d = some u := ⟨keep3 h.1 hb, cell_next h.2 hb⟩

set_option maxRecDepth 100000 in
set_option maxHeartbeats 6400000 in
theorem treeRanges_walk (t : Kt) (frm mid : ByteArray) (v1 v2 v3 : Value) (w : World) (hkn : Kn w (fun _ => True) 9223372036854775807 v1 v2 v3 t) :
    Calls Try.prog 8 #[.agg #[v1, v2, v3], .string frm, .string mid] w fun e w' => e = .returned (.bool true) ∧ Below w.heap.size w w' := by
  obtain ⟨A1, n1, c1, A2, n2, c2, A3, n3, c3, rfl, rfl, rfl⟩ := kn_shape hkn
  have hbA := (Below.refl w.heap.size w).alloc (Nat.le_refl _) (.cells #[.slice A1 n1 c1, .slice A2 n2 c2, .slice A3 n3 c3] 26)
  have hknA := hkn.below hbA
  have kB : BoxK (w.alloc (.cells #[.slice A1 n1 c1, .slice A2 n2 c2, .slice A3 n3 c3] 26)) w.heap.size (.slice A1 n1 c1) (.slice A2 n2 c2) (.slice A3 n3 c3) := blk_top rfl
  have hsA : (w.alloc (.cells #[.slice A1 n1 c1, .slice A2 n2 c2, .slice A3 n3 c3] 26)).heap.size = w.heap.size + 1 := by simp
  have hfew := few_any 4 (by omega) t _ _ _ _ hknA
  have hcount := few4_count t
  have hheight := few4_height t
  generalize fewK 4 t = T at *
  have HF := hide hfew
  have HA := hide hbA
  have KB := hide kB
  have HSA := hide hsA
  clear hkn hbA hknA kB hfew hsA
  go_enter Try.func8, Try.ntmps8
  go_wp2_with fail
  refine HF.out.mono ?_
  rintro e w1 ⟨x1, x2, x3, rfl, hk1, hb1⟩
  obtain ⟨B1, m1, d1, B2, m2, d2, B3, m3, d3, rfl, rfl, rfl⟩ := kn_shape hk1
  have kB1 := KB.out.below hb1
  obtain ⟨q1, q2, q3⟩ := kB1.cell
  have q4 := kB1.frozen 0
  have q5 := kB1.frozen 1
  have q6 := kB1.frozen 2
  have hbB := HA.out.trans (hb1.mono HA.out.size)
  have hkT := (kn_set3 (b := w.heap.size) (u1 := .slice B1 m1 d1) (u2 := .slice B2 m2 d2) (u3 := .slice B3 m3 d3) hk1 (fun b hb => by have := HSA.out; omega)).any
  have kBT := kB1.set (u1 := .slice B1 m1 d1) (u2 := .slice B2 m2 d2) (u3 := .slice B3 m3 d3)
  have hbT := below_set3 (u1 := .slice B1 m1 d1) (u2 := .slice B2 m2 d2) (u3 := .slice B3 m3 d3) hbB (Nat.le_refl w.heap.size)
  have HT0 := hide hkT
  have HBW0 := hide hbT
  have HTB0 := hide kBT
  clear hk1 hkT hb1 hbB HF HA KB HSA hbT kBT kB1
  go_wp2_with fail
  refine (text_any frm _).mono ?_
  rintro e w2 ⟨rfl, rfl⟩
  go_wp2_with fail
  refine (text_any mid _).mono ?_
  rintro e w2 ⟨rfl, rfl⟩
  go_wp2_with fail
  generalize cutT frm = frm at *
  generalize cutT mid = mid at *
  clear q1 q2 q3 q4 q5 q6
  generalize ((w1.setCell ⟨w.heap.size, 0, none⟩ (.slice B1 m1 d1)).setCell ⟨w.heap.size, 1, none⟩ (.slice B2 m2 d2)).setCell ⟨w.heap.size, 2, none⟩ (.slice B3 m3 d3) = wT at *
  clear w1
  by_cases hc : chkP T = 0
  rotate_left
  · have hc1 := chkP_no hc
    refine (check_any T _ _ _ _ (kn_keep (by omega) (Nat.le_refl _) (fun _ _ _ => rfl) (fun b h _ => h) HT0.out)).mono ?_
    rw [hc1]
    rintro e w_1 ⟨rfl, hb_1⟩
    have HT1 := hide (HT0.out.below hb_1)
    have HBW1 := hide (HBW0.out.trans (hb_1.mono HBW0.out.size))
    have HTB1 := hide (HTB0.out.below hb_1)
    clear HT0 HBW0 HTB0
    clear hb_1
    go_wp2_with fail
    refine (awake_box HBW1.out HBW1.out.size).mono ?_
    rintro e w_a ⟨rfl, hb_a⟩
    clear HT1 HTB1 hc hc1
    go_wp2_with fail
    go_ret
    exact ⟨rfl, hb_a⟩
  · obtain ⟨b2, e2⟩ : ∃ b, mid.toList.isEmpty = b := ⟨_, rfl⟩
    obtain ⟨b3, e3⟩ : ∃ b, Op.bytesLess mid.toList frm.toList = b := ⟨_, rfl⟩
    have HCC := hide hc
    clear hc
    cases b2 with
    | true =>
      have e4 : mid.toList = [] := List.isEmpty_iff.1 e2
      clear e2 e3
      refine (check_any T _ _ _ _ (kn_keep (by omega) (Nat.le_refl _) (fun _ _ _ => rfl) (fun b h _ => h) HT0.out)).mono ?_
      rw [HCC.out]
      rintro e w_1 ⟨rfl, hb_1⟩
      have HT1 := hide (HT0.out.below hb_1)
      have HBW1 := hide (HBW0.out.trans (hb_1.mono HBW0.out.size))
      have HTB1 := hide (HTB0.out.below hb_1)
      clear HT0 HBW0 HTB0
      clear hb_1
      go_wp2_with fail
      refine (awake_box HBW1.out HBW1.out.size).mono ?_
      rintro e w_a ⟨rfl, hb_a⟩
      clear HT1 HTB1 HCC
      go_wp2_with fail
      go_ret
      exact ⟨rfl, hb_a⟩
    | false =>
      have hne : mid ≠ .empty := by rw [empty_list] at e2; exact of_decide_eq_false e2
      have HNE := hide hne
      clear hne
      cases b3 with
      | true =>
        refine (check_any T _ _ _ _ (kn_keep (by omega) (Nat.le_refl _) (fun _ _ _ => rfl) (fun b h _ => h) HT0.out)).mono ?_
        rw [HCC.out]
        rintro e w_1 ⟨rfl, hb_1⟩
        have HT1 := hide (HT0.out.below hb_1)
        have HBW1 := hide (HBW0.out.trans (hb_1.mono HBW0.out.size))
        have HTB1 := hide (HTB0.out.below hb_1)
        clear HT0 HBW0 HTB0
        clear hb_1
        go_wp2_with fail
        refine (awake_box HBW1.out HBW1.out.size).mono ?_
        rintro e w_a ⟨rfl, hb_a⟩
        clear HT1 HTB1 HCC HNE
        go_wp2_with fail
        go_ret
        exact ⟨rfl, hb_a⟩
      | false =>
        obtain ⟨h, H, _⟩ := chkP_ok.1 HCC.out
        have hrise := (TreeP.inv_inB (by omega) H).2
        have hcut := TreeP.range_cut HNE.out (show kl mid frm = false from e3) hrise
        have hat : allP T = flat T := if_pos HCC.out
        have hget : ∀ c ∈ TreeP.rangeP frm .empty (flat T), TreeP.findP c.1 T = some c.2 ∧ kl c.1 frm = false := fun c hm => by
          unfold TreeP.rangeP at hm
          rw [List.mem_filter] at hm
          refine ⟨by rw [find_get H]; exact TreeP.get_mem hrise hm.1, ?_⟩
          have := hm.2
          simp only [decide_true, Bool.true_or, Bool.and_true, Bool.not_eq_true'] at this
          exact this
        have hlen : ∀ a b, (TreeP.rangeP a b (flat T)).length ≤ 20000 := fun a b => Nat.le_trans (List.length_filter_le _ _) hcount
        have hlT : (flat T).length ≤ 1000000000 := by omega
        obtain ⟨LA, hLA⟩ : ∃ LA, LA = TreeP.rangeP frm mid (flat T) := ⟨_, rfl⟩
        obtain ⟨LB, hLB⟩ : ∃ LB, LB = TreeP.rangeP mid .empty (flat T) := ⟨_, rfl⟩
        obtain ⟨LC, hLC⟩ : ∃ LC, LC = TreeP.rangeP frm .empty (flat T) := ⟨_, rfl⟩
        have lA := hlen frm mid
        have lB := hlen mid .empty
        have lC := hlen frm .empty
        rw [← hLA] at lA hcut
        rw [← hLB] at lB hcut
        rw [← hLC] at lC hcut hget
        rw [← hat] at hLA hLB hLC
        replace hLB : LB = TreeP.rangeP mid ⟨#[]⟩ (allP T) := hLB
        replace hLC : LC = TreeP.rangeP frm ⟨#[]⟩ (allP T) := hLC
        have H_hcut := hide hcut
        have H_hget := hide hget
        have H_hLA := hide hLA
        have H_hLB := hide hLB
        have H_hLC := hide hLC
        clear H hrise hcut hat hget hlen hLA hLB hLC hcount hheight
        refine (check_any T _ _ _ _ (kn_keep (by omega) (Nat.le_refl _) (fun _ _ _ => rfl) (fun b h _ => h) HT0.out)).mono ?_
        rw [HCC.out]
        rintro e w_1 ⟨rfl, hb_1⟩
        have HT1 := hide (HT0.out.below hb_1)
        have HBW1 := hide (HBW0.out.trans (hb_1.mono HBW0.out.size))
        have HTB1 := hide (HTB0.out.below hb_1)
        clear HT0 HBW0 HTB0
        clear hb_1
        obtain ⟨qTB2a, qTB2b, qTB2c⟩ := HTB1.out.cell
        go_wp2_with fail
        go_region_held3 (fun w' => w'.cell? ⟨w.heap.size, 0, none⟩ = some (.slice B1 m1 d1) ∧ (w'.cell? ⟨w.heap.size, 1, none⟩ = some (.slice B2 m2 d2) ∧ w'.cell? ⟨w.heap.size, 2, none⟩ = some (.slice B3 m3 d3)))
          ((refine keep3 ⟨qTB2a, qTB2b, qTB2c⟩ ?_; (repeat' (first | exact hc3 | exact hc2 | exact hc1 | exact Below.refl _ _ | refine bdr ?_ | refine bal ?_ _))))
          (first
            | (go_at_call 24; (with_reducible refine (range_any T frm mid _ _ _ _ ?_ hlT).mono ?_); exact HT1.out.drew; rw [← H_hLA.out]; rintro e wa ⟨va, rfl, hoa, hba⟩; obtain ⟨AA, cA, rfl, hsa⟩ := hoa.sl; clear hoa; have hc1 := btr (bdr (Below.refl _ _)) hba; clear hba)
            | (go_at_call 24; (with_reducible refine (range_any T mid ⟨#[]⟩ _ _ _ _ ?_ hlT).mono ?_); exact HT1.out.below hc1; rw [← H_hLB.out]; rintro e wb ⟨vb, rfl, hob, hbb⟩; obtain ⟨AB, cB, rfl, hsb⟩ := hob.sl; clear hob; have hsa2 := hsa.below hbb; have hc2 := btr hc1 hbb; clear hbb hsa)
            | (go_at_call 24; (with_reducible refine (range_any T frm ⟨#[]⟩ _ _ _ _ ?_ hlT).mono ?_); exact HT1.out.below hc2; rw [← H_hLC.out]; rintro e wd ⟨vd, rfl, hod, hbd⟩; obtain ⟨AC, cC, rfl, hsc⟩ := hod.sl; clear hod; have hsa3 := hsa2.below hbd; have hsb3 := hsb.below hbd; have hc3 := btr hc2 hbd; clear hbd hsa2 hsb))
        have HT3 := hide (HT1.out.below hc3)
        have HBW3 := hide (HBW1.out.trans (hc3.mono HBW1.out.size))
        have HTB3 := hide (HTB1.out.below hc3)
        clear qTB2a qTB2b qTB2c
        clear HT1 HBW1 HTB1
        clear hc1 hc2 hc3
        have HSA := hide hsa3
        have HSB := hide hsb3
        have HSC := hide hsc
        clear hsa3 hsb3 hsc
        have HOA := hide (cellsV_one LA)
        have HOB := hide (cellsV_one LB)
        have hal := (Below.refl wd.heap.size wd).alloc (Nat.le_refl _) (.cells #[] 44)
        have HAL := hide hal
        clear hal
        have k1 : 0 + LA.length ≤ 1000000000000 := by omega
        have k2 : 0 + LA.length + LB.length ≤ 1000000000000 := by omega
        go_wp2_with (at_builtin; refine app_C rfl _ _ rfl wd.heap.size _ _ _ (own_emptyC _ _ (Nat.le_refl _)) rfl _ _ _ _ (cellsV LA) rfl (HSA.out.below HAL.out) HOA.out k1 HAL.out.size ?_; intro v1 wx hA1; have hbx := hA1.below (own_emptyC _ _ (Nat.le_refl _)) HAL.out (Nat.le_refl _) HAL.out.size; have hsbx := HSB.out.below hbx; go_wp2_with (at_builtin; refine app_C rfl _ _ rfl wd.heap.size _ _ _ hA1.own rfl _ _ _ _ (cellsV LB) rfl hsbx HOB.out k2 hbx.size ?_; intro v2 wy hA2))
        have hbz := hA2.below hA1.own hbx (Nat.le_refl _) hbx.size
        have hoz : OwnC wy wd.heap.size v2 (LA ++ LB) := by
          have q := hA2.own
          rw [List.nil_append, ← cellsV_append, Nat.zero_add, ← List.length_append] at q
          exact q
        obtain ⟨AZ, cZ, rfl, hsz⟩ := hoz.sl
        clear hA1 hA2 hbx hsbx hoz HSA HSB HOA HOB HAL k1 k2
        have HT4 := hide (HT3.out.below hbz)
        have HBW4 := hide (HBW3.out.trans (hbz.mono HBW3.out.size))
        have HTB4 := hide (HTB3.out.below hbz)
        have HSC4 := hide (HSC.out.below hbz)
        clear HT3 HBW3 HTB3 HSC
        clear hbz
        have HSZ := hide hsz
        clear hsz
        refine (rsame_any AZ AC _ _ cZ cC _ _ _ _ _ HSZ.out HSC4.out (by rw [List.length_append]; omega)).mono ?_
        rw [H_hcut.out, same_self]
        rintro e ws ⟨rfl, qs, rfl⟩
        have hbq := below_drewN (Below.refl wy.heap.size wy) qs
        have HT5 := hide (HT4.out.below hbq)
        have HBW5 := hide (HBW4.out.trans (hbq.mono HBW4.out.size))
        have HTB5 := hide (HTB4.out.below hbq)
        have HSC5 := hide (HSC4.out.below hbq)
        clear HT4 HBW4 HTB4 HSC4
        clear hbq HSZ
        generalize wy.drewN qs = wS at *
        clear wy
        obtain ⟨nC, hnC⟩ : ∃ nC, nC = LC.length := ⟨_, rfl⟩
        go_wp2_with fail
        rw [← hnC] at lC ⊢
        have hsc : Sl wS (fun _ => True) 2 AC nC (cellsV LC) := by rw [hnC]; exact HSC5.out
        have HSCC := hide hsc
        have HNC := hide hnC
        clear hsc hnC HSC5
        go_loopw [10] (fun i wr => ∃ (k : Nat), k ≤ nC ∧ i = .int .i64 k ∧ Below wS.heap.size wS wr) (fun i _ => nC - (intOf i).toNat)
        case atStart => exact ⟨0, Nat.zero_le _, rfl, Below.refl _ _⟩
        case round =>
          obtain ⟨k, hk, rfl, hb⟩ := hrel
          have hbr := HBW5.out.trans (hb.mono HBW5.out.size)
          by_cases hlt : k < nC
          · obtain ⟨ad, x, eA, hx, hc1, hc2⟩ := (HSCC.out.below hb).cell hlt
            subst eA
            obtain ⟨hfx, hlx⟩ := H_hget.out x (List.mem_of_getElem? hx)
            have hTB := HTB5.out.below hb
            obtain ⟨q1, q2, q3⟩ := hTB.cell
            have hTk := HT5.out.below hb
            have hge : (0 : Int) ≤ (k : Int) := by omega
            have hgl : (k : Int) < (nC : Int) := by omega
            have z1 : Op.bytesLess x.1.toList frm.toList = false := hlx
            have HFX := hide hfx
            have HTK := hide hTk
            have HBR := hide hbr
            clear hx hfx hlx hTB hTk hbr
            go_wp2_with fail
            go_region_held3 (fun w' => (w'.cell? ⟨w.heap.size, 0, none⟩ = some (.slice B1 m1 d1) ∧ (w'.cell? ⟨w.heap.size, 1, none⟩ = some (.slice B2 m2 d2) ∧ w'.cell? ⟨w.heap.size, 2, none⟩ = some (.slice B3 m3 d3))) ∧ w'.cell? (ad.add (k * 2)) = some (.string x.1))
              ((refine keepR4 ⟨⟨q1, q2, q3⟩, hc1⟩ ?_; (repeat' (first | exact hg1 | exact Below.refl _ _ | refine bdr ?_ | refine bal ?_ _))))
              ((go_at_call 14; (with_reducible refine (get_any T x.1 _ _ _ _ ?_).mono ?_); exact HTK.out.drew; rw [HCC.out, HFX.out, if_pos rfl, if_pos rfl]; rintro e wg ⟨rfl, hbg⟩; have hg1 := btr (bdr (Below.refl _ _)) hbg; clear hbg))
            try simp only [Option.getD_some, Option.isSome_some, if_true]
            have hc3 := cell_next hc1 hg1
            have hc4 := cell_next hc2 hg1
            have hb2 := hb.trans (hg1.mono hb.size)
            have HB2 := hide hb2
            clear hc1 hc2 q1 q2 q3 hg1 hb hb2
            go_wp2_with fail
            go_roundw
            case rel => exact ⟨k + 1, by omega, by go_num, HB2.out⟩
            case measure => simp [intOf]; omega
          · obtain rfl : k = nC := by omega
            have hsz := hbr.size
            clear hb hlt
            go_wp2_with fail
            refine (awake_box hbr hsz).mono ?_
            rintro e w_a ⟨rfl, hb_a⟩
            clear hbr hsz
            go_wp2_with fail
            go_ret
            exact ⟨rfl, hb_a⟩
end Go.Proofs.Ytkkddnmpehoeoaa
