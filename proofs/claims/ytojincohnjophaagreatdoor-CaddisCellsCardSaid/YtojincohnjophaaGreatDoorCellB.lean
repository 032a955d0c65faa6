/- CaddisCells: the walk (seat c). -/
import Derived.Test.YtojincohnjophaaGreatDoorKeepS
namespace Go.Proofs.YtojincohnjophaaGreatDoor
open Go.RowKit
open TreeP (Kt Cell kl flat flatL Inv)
open DiskP (Bytes Disk Wr Fate noughts)
open KeepP (Cut Head K Kept okC okH pagesP saveP beginP openP)
open LogP (Log zeroL Live okL Holds)
set_option linter.unusedVariables false

set_option maxRecDepth 100000 in
set_option maxHeartbeats 6400000 in
theorem cells_walk (A : Option Addr) (n c : Nat) (keys : List ByteArray) (FA : Option Addr) (fn fc : Nat) (f : Fate) (m : Int) (w : World) (hs : Sl w (fun _ => True) 1 A n (strs keys)) (hn : n ≤ 9223372036854775807) (hF : Ft w (fun _ => True) FA fn fc f) (hc1 : fn ≤ fc) (hc2 : fc ≤ 9223372036854775807) (hm : w.cell? ⟨0, 0, none⟩ = some (.int .i64 m)) :
    Calls Tryz.prog 3 #[.slice A n c, ftv FA fn fc f] w fun q w' => q = .returned (.bool true) ∧ Below w.heap.size w w' := by
  have hkl : keys.length = n := by have := hs.1; rw [strs_length] at this; omega
  have kF := Box.new w 25 #[.slice FA fn fc, .int .i64 f.torn, .int .i64 f.cut]
  have hbF := (Below.refl w.heap.size w).alloc (Nat.le_refl _) (.cells #[.slice FA fn fc, .int .i64 f.torn, .int .i64 f.cut] 25)
  obtain ⟨wf, hwf⟩ : ∃ y, y = w.alloc (.cells #[.slice FA fn fc, .int .i64 f.torn, .int .i64 f.cut] 25) := ⟨_, rfl⟩
  have hszf : wf.heap.size = w.heap.size + 1 := by rw [hwf]; exact World.size_alloc w _
  rw [← hwf] at kF hbF
  have HSA := hide (hs.below hbF)
  have HFT := hide hF
  have HMX := hide hm
  have HBF := hide hbF
  have HKF := hide kF
  have hts := tree_start wf
  rw [hszf] at hts
  have HTS := hide hts
  have HWF := hide hwf
  clear hs hF hm hbF kF hwf hts
  go_enter Tryz.func3, Tryz.ntmps3
  go_upto_block 0 with (fail)
  have HWE : Hid ((w.alloc (.cells #[.slice FA fn fc, .int .i64 f.torn, .int .i64 f.cut] 25)).alloc (.cells #[.slice none 0 0, .slice none 0 0, .slice none 0 0] 29) = wf.alloc (.cells #[.slice none 0 0, .slice none 0 0, .slice none 0 0] 29)) := hide (by rw [HWF.out])
  rw [HWE.out]
  clear HWE
  go_cut [6] (fun vl we => ∃ cs : List ByteArray, cs.length ≤ 20 ∧ (∀ s ∈ cs, s.size ≤ 100) ∧ TreeIn wf (w.heap.size + 1) cs vl we)
  case first =>
    go_wp2_with fail
    go_loopw [6, 7] (fun vl i wr => ∃ (k : Nat) (cs : List ByteArray), k ≤ n ∧ k ≤ 20 ∧ i = .int .i64 k ∧ cs.length = k ∧ (∀ s ∈ cs, s.size ≤ 100) ∧ TreeIn wf (w.heap.size + 1) cs vl wr) (fun _ i _ => n - (intOf i).toNat)
    case atStart => exact ⟨0, [], by omega, by omega, rfl, rfl, by simp, HTS.out⟩
    case round =>
      obtain ⟨k, cs, hk, hk20, rfl, rfl, hsz, T, h, t1, t2, t3, HI, hfl, hkn, hbx, hown, hb, hszr⟩ := hrel
      obtain ⟨k, hke⟩ : ∃ k, k = cs.length := ⟨_, rfl⟩
      rw [← hke] at hk hk20 hown ⊢
      have HKE := hide hke
      clear hke
      by_cases hlt : k < n ∧ k < 20
      · obtain ⟨hlt, hlt20⟩ := hlt
        have hbw : Below wf.heap.size wf wr := by rw [hszf]; exact hb
        obtain ⟨ad, s0, eA, hs0, hcs⟩ := (HSA.out.below hbw).str hlt
        subst eA
        have hge : (0 : Int) ≤ (k : Int) := by omega
        have hgl : (k : Int) < (n : Int) := by omega
        have hg20 : (k : Int) < 20 := by omega
        obtain ⟨B1, m1, d1, B2, m2, d2, B3, m3, d3, rfl, rfl, rfl⟩ := kn_shape hkn
        obtain ⟨VA, Vc, rfl⟩ := own_shape hown
        go_upto_if 48 with (fail)
        go_cut [8] from 49 to 50 (fun v we => v = .string (cutS s0) ∧ we = wr)
        case first =>
          by_cases h100 : 100 < s0.size
          · have h1 : (100 : Int) < (s0.size : Int) := by omega
            have h2 : (100 : Int) ≤ (s0.size : Int) := by omega
            have e : cutS s0 = s0.extract 0 100 := by unfold cutS; rw [if_pos h100]
            have HE := hide e
            clear e
            go_wp2_with fail
            go_meet
            exact ⟨by rw [HE.out], rfl⟩
          · have h1 : ¬ (100 : Int) < (s0.size : Int) := by omega
            have e : cutS s0 = s0 := by unfold cutS; rw [if_neg h100]
            have HE := hide e
            clear e
            go_wp2_with fail
            go_meet
            exact ⟨by rw [HE.out], rfl⟩
        case rest =>
          obtain ⟨rfl, rfl⟩ := hcut
          have hss := cutS_size s0
          obtain ⟨s, hse⟩ : ∃ s, s = cutS s0 := ⟨_, rfl⟩
          rw [← hse] at hss ⊢
          clear hse hcs hs0
          obtain ⟨q1, q2, q3⟩ := hbx.cell
          have hcv := key_conv wc k (by omega)
          go_wp2_with fail
          have hcT := chk_ok HI (by rw [hfl, cellsK_length, ← HKE.out]; omega)
          have hb0 := (Below.refl wc.heap.size wc).alloc (Nat.le_refl _) (.cells #[.int .u8 (k : Nat)] 5)
          refine (putw_any (keyOf k, s) T _ _ _ _ (fun i => (i ≠ w.heap.size + 1 ∧ some i ≠ (Value.slice VA k Vc).ownBlock) ∧ i < wc.heap.size) (kn_keep (Nat.le_refl _) hb0.size (fun i _ hl => hb0.block i hl) (fun i hi hl => ⟨hi, hl⟩) hkn)).mono ?_
          rw [hcT]
          rintro e w1 ⟨⟨x1, x2, x3, rfl, hk1⟩, hb1⟩
          obtain ⟨X1, a1, b1, X2, a2, b2, X3, a3, b3, rfl, rfl, rfl⟩ := kn_shape hk1
          have hsc : wc.heap.size < w1.heap.size := by have := hb1.size; simp at this; omega
          have hbc1 : Below wc.heap.size wc w1 := hb0.trans (hb1.mono hb0.size)
          have hbx1 := hbx.below hbc1
          obtain ⟨p1, p2, p3⟩ := hbx1.cell
          have f1 := hbx1.frozen 0
          have f2 := hbx1.frozen 1
          have f3 := hbx1.frozen 2
          have hbx2 := BoxK.below hbx1 ((Below.refl w1.heap.size w1).alloc (Nat.le_refl _) (.cells #[.slice X1 a1 b1, .slice X2 a2 b2, .slice X3 a3 b3] 29))
          obtain ⟨g1, g2, g3⟩ := hbx2.cell
          have r1 := hbx2.frozen 0
          have r2 := hbx2.frozen 1
          have r3 := hbx2.frozen 2
          have hown1 : w1.ownsRow (w.heap.size + 1 + 1) 9 1 (.slice VA k Vc) k (strs cs) := own_below hown hbc1
          have HI1 := hide HI
          have HFL := hide hfl
          have HK1 := hide hk1
          have HB := hide hb
          have HOC := hide hown
          have HBXC := hide hbx
          have HZ := hide hszr
          have h0w := hide hb0.size
          have HBC := hide hbc1
          have HO1 := hide hown1
          have HBX := hide hbx1
          clear HI hfl hkn hbx hown hb hcT hb0 hb1 hk1 hbc1 hown1 hbx1 hbx2 hcv q1 q2 q3
          go_upto_region 13 with (fail)
          obtain ⟨w2, hw2⟩ : ∃ y, y = ((((w1.alloc (.cells #[.slice X1 a1 b1, .slice X2 a2 b2, .slice X3 a3 b3] 29)).setCell ⟨w.heap.size + 1, 0, none⟩ (.slice X1 a1 b1)).setCell ⟨w.heap.size + 1, 1, none⟩ (.slice X2 a2 b2)).setCell ⟨w.heap.size + 1, 2, none⟩ (.slice X3 a3 b3)) := ⟨_, rfl⟩
          rw [← hw2]
          obtain ⟨hk2, hbx2, hown2, hb2, hs2⟩ := tree_put HB.out HZ.out HBXC.out HOC.out h0w.out HBC.out HK1.out hw2
          obtain ⟨h', HI2, hf2⟩ := putR_in (keyOf k, s) HI1.out (by rw [HFL.out, cellsK_length, ← HKE.out]; omega)
          rw [HFL.out] at hf2
          have hke := HKE.out
          subst hke
          rw [withC_next cs s (by omega)] at hf2
          have HI2 := hide HI2
          have HF2 := hide hf2
          have HK2 := hide hk2
          have HBX2 := hide hbx2
          have HB2 := hide hb2
          have HSZ := hide hsz
          clear hf2 hk2 hbx2 hb2 hw2 HB HZ HBXC HOC h0w HBC HK1 HI1 HFL HKE HO1 HBX f1 f2 f3 g1 g2 g3 r1 r2 r3 p1 p2 p3 hsz
          go_wp2_with (at_builtin; refine wp_app_str rfl _ _ rfl (w.heap.size + 1 + 1) (.slice VA cs.length Vc) cs.length cs hown2 rfl s rfl (by omega) hs2 ?_; intro v' w3 hA)
          have hR := tree_step HI2.out HF2.out HK2.out HBX2.out hown2 HB2.out hs2 hA
          go_roundw
          case rel => exact ⟨cs.length + 1, cs ++ [s], by omega, by omega, by go_num, by simp, by intro x hx; rcases List.mem_append.1 hx with h | h; exact HSZ.out x h; obtain rfl := List.mem_singleton.1 h; exact hss, hR⟩
          case measure => simp [intOf]; omega
      · have hR : TreeIn wf (w.heap.size + 1) cs _ wr := ⟨T, h, t1, t2, t3, HI, hfl, hkn, hbx, HKE.out ▸ hown, hb, hszr⟩
        have HR := hide hR
        have HSZ := hide hsz
        have h20 : cs.length ≤ 20 := by rw [← HKE.out]; omega
        clear HI hfl hkn hbx hown hb hszr hR hsz
        by_cases hkn' : k < n
        · have hg20 : k = 20 := by omega
          have hge : (k : Int) < (n : Int) := by omega
          subst hg20
          go_wp2_with fail
          go_meet
          exact ⟨cs, h20, HSZ.out, HR.out⟩
        · have hkn2 : k = n := by omega
          subst hkn2
          go_wp2_with fail
          go_meet
          exact ⟨cs, h20, HSZ.out, HR.out⟩
  case rest =>
    obtain ⟨cs, h20, hsz, T, h, t1, t2, t3, HI, hfl, hkn, hbx, hown, hb, hszr⟩ := hcut
    obtain ⟨B1, m1, d1, B2, m2, d2, B3, m3, d3, rfl, rfl, rfl⟩ := kn_shape hkn
    obtain ⟨VA, Vc, rfl⟩ := own_shape hown
    obtain ⟨q1, q2, q3⟩ := hbx.cell
    have hcT := chk_ok HI (by rw [hfl, cellsK_length]; omega)
    have hall := all_any T (.slice B1 m1 d1) (.slice B2 m2 d2) (.slice B3 m3 d3) wc (kn_keep (Nat.le_refl _) (Nat.le_refl _) (fun _ _ _ => rfl) (fun _ _ _ => trivial) hkn) (by rw [hfl, cellsK_length]; omega)
    rw [show allP T = cellsK cs by unfold allP; rw [if_pos hcT, hfl]] at hall
    have hbw : Below wf.heap.size wf wc := by rw [hszf]; exact hb
    have hbt : Below w.heap.size w wc := HBF.out.trans (hb.mono (by omega))
    have HAL := hide hall
    have hsl := (Sl.of_own hown).any
    have HKC := hide (HKF.out.belowS hbw)
    have HBT := hide hbt
    have HSZ := hide hsz
    clear HI hfl hkn hbx hb hszr hcT hall hbw hbt hown hsz
    go_wp2_with fail
    refine HAL.out.mono ?_
    rintro q wa ⟨v, rfl, hoc, hba⟩
    obtain ⟨AA, ac, rfl, hsa⟩ := hoc.sl
    rw [cellsK_length] at hsa ⊢
    have HAA := hide hsa
    have HCE := hide (hsl.below hba)
    have HKA := hide (HKC.out.belowS hba)
    have HBA := hide (HBT.out.trans (hba.mono HBT.out.size))
    obtain ⟨nn, hnn⟩ : ∃ x, x = cs.length := ⟨_, rfl⟩
    rw [← hnn] at HAA HCE ⊢
    have HNN := hide hnn
    have hn20 : nn ≤ 20 := by omega
    clear hoc hsa hsl hba HKC HBT HAL q1 q2 q3 hnn h20 HTS HWF
    go_upto_block 2 with (fail)
    go_cut [11] (fun vb we => ∃ Z z, vb = .slice Z nn z ∧ Sl we (fun _ => True) 1 Z nn (strs cs) ∧ Below wa.heap.size wa we)
    case first =>
      go_wp2_with fail
      go_loopw [11, 13] (fun vb i wr => ∃ k : Nat, k ≤ nn ∧ i = .int .i64 k ∧ wr.ownsRow wa.heap.size 9 1 vb k (strs (cs.take k)) ∧ Below wa.heap.size wa wr) (fun _ i _ => nn - (intOf i).toNat)
      case atStart => exact ⟨0, by omega, rfl, by simpa [strs] using World.ownsRow_nil wa wa.heap.size 9 1, Below.refl _ _⟩
      case round =>
        obtain ⟨k, hk, rfl, hown, hb⟩ := hrel
        by_cases hlt : k < nn
        · obtain ⟨ad, cc, eA, hcc, hc1, hc2⟩ := (HAA.out.below hb).cell hlt
          subst eA
          have hkc : k < cs.length := by rw [← HNN.out]; exact hlt
          rw [cellsK_get cs k hkc] at hcc
          have he : cc = (keyOf k, cs[k]) := (Option.some.inj hcc).symm
          subst he
          have etk : cs.take (k + 1) = cs.take k ++ [cs[k]] := (List.take_append_getElem hkc).symm
          have ETK := hide etk
          obtain ⟨s, hse⟩ : ∃ s, s = cs[k] := ⟨_, rfl⟩
          have HSE := hide hse
          dsimp only at hc1 hc2
          rw [← hse] at hc2
          obtain ⟨BA, Bc, rfl⟩ := own_shape hown
          have hge : (0 : Int) ≤ (k : Int) := by omega
          have hgl : (k : Int) < (nn : Int) := by omega
          have HB := hide hb
          have hbz := hb.size
          clear hcc etk hse hb
          go_wp2_with (at_builtin; refine wp_app_str rfl _ _ rfl wa.heap.size (.slice BA k Bc) k (cs.take k) hown rfl s rfl (by omega) hbz ?_; intro v' w3 hA)
          have hb3 := hA.below hown HB.out (Nat.le_refl _) hbz
          have hown3 : w3.ownsRow wa.heap.size 9 1 v' (k + 1) (strs (cs.take (k + 1))) := by rw [ETK.out, ← HSE.out]; exact hA.own
          clear hA hown
          go_roundw
          case rel => exact ⟨k + 1, by omega, by go_num, hown3, hb3⟩
          case measure => simp [intOf]; omega
        · obtain rfl : k = nn := by omega
          obtain ⟨BA, Bc, rfl⟩ := own_shape hown
          have hsl : Sl wr (fun _ => True) 1 BA k (strs cs) := by
            have := (Sl.of_own hown).any
            rw [List.take_of_length_le (by rw [HNN.out]; exact Nat.le_refl _)] at this
            exact this
          have HSL := hide hsl
          have HB := hide hb
          clear hown hsl hb
          go_wp2_with fail
          go_meet
          exact ⟨BA, Bc, rfl, HSL.out, HB.out⟩
    case rest =>
      obtain ⟨ZA, Zc, rfl, hsl, hb⟩ := hcut
      have hcl : cs.length = nn := HNN.out.symm
      have hfy := fill_yes ZA nn Zc cs (fun _ => True) wc hsl (by omega) (fun s h => by have := HSZ.out s h; omega)
      have HFY := hide hfy
      have HBK := hide hsl
      have HB2 := hide hb
      clear hfy hsl hb hcl
      go_wp2_with fail
      refine HFY.out.mono ?_
      rintro q w3 ⟨v, vals, ll, rfl, hol, hrows, hll, hb3⟩
      obtain ⟨hfit, hflat, hlle⟩ := fill_lists hll HSZ.out
      obtain ⟨LA, Lc, rfl⟩ := own_shape hol
      have hb23 := HB2.out.trans (hb3.mono HB2.out.size)
      have HSM := hide (same_self (c := Zc) (d := Vc) (HBK.out.below hb3) (HCE.out.below hb23) (by omega))
      have HOL := hide (Sl.of_own hol).any
      have HRW := hide hrows
      have HB3 := hide hb23
      have HFT2 := hide hfit
      have HFL := hide hflat
      clear hol hrows hll hb3 hfit hflat hb23 HFY HBK HB2
      go_wp2_with fail
      refine HSM.out.mono ?_
      rintro q w4 ⟨rfl, hb4⟩
      have HOL4 := hide (HOL.out.below hb4)
      have HRW4 := hide (HRW.out.keep (V' := fun _ => True) hb4.size (fun b _ hl => ⟨hb4.block b hl, trivial⟩))
      have hb34 := HB3.out.trans (hb4.mono HB3.out.size)
      have HB4 := hide hb34
      clear hb4 hb34 HOL HRW HB3 HSM
      obtain ⟨nl, hnl⟩ : ∃ x, x = ll.length := ⟨_, rfl⟩
      rw [← hnl] at HOL4 ⊢
      have HNL := hide hnl
      have hlle2 : ll.length ≤ 20 := by rw [← HNN.out] at hlle; omega
      clear hlle
      have htot : tot cs ≤ 2000 := by have := tot_le cs HSZ.out; rw [← HNN.out] at this; omega
      clear hnl
      go_upto_block 4 with (fail)
      go_cut [16] (fun vt we => ∃ tx : ByteArray, vt = .string tx ∧ tx.size ≤ 2000 ∧ Below w4.heap.size w4 we)
      case first =>
        have hnlb : nl ≤ 20 := by rw [HNL.out]; omega
        go_wp2_with fail
        go_loopw [16, 17] (fun vt i wr => ∃ (k : Nat) (tx : ByteArray), k ≤ nl ∧ i = .int .i64 k ∧ vt = .string tx ∧ tx.size + tot (ll.drop k).flatten = tot cs ∧ Below w4.heap.size w4 wr) (fun _ i _ => nl - (intOf i).toNat)
        case atStart => exact ⟨0, .empty, by omega, rfl, rfl, by rw [List.drop_zero, HFL.out]; simp, Below.refl _ _⟩
        case round =>
          obtain ⟨k, tx, hk, rfl, rfl, htx, hb⟩ := hrel
          by_cases hlt : k < nl
          · have hkl : k < ll.length := by rw [← HNL.out]; exact hlt
            have hlk : ll[k]? = some ll[k] := List.getElem?_eq_getElem hkl
            obtain ⟨l, hle⟩ : ∃ l, l = ll[k] := ⟨_, rfl⟩
            rw [← hle] at hlk
            have hfl := HFT2.out l (by rw [hle]; exact List.getElem_mem hkl)
            obtain ⟨XA, Xc, hvk, hslx⟩ := HRW4.out.2 k l hlk
            obtain ⟨ad, hLA, _, _, hcell⟩ := (HOL4.out.below hb).2 (by omega)
            have hc1 := hcell k _ hvk
            subst hLA
            have hd := tot_drop hlk
            rw [hd] at htx
            have HSX := hide (hslx.below hb)
            have hge : (0 : Int) ≤ (k : Int) := by omega
            have hgl : (k : Int) < (nl : Int) := by omega
            have HL := hide (lay_yes XA l.length Xc l wr (hslx.below hb) hfl)
            have HFI := hide hfl
            have HB := hide hb
            have HLK := hide hlk
            have HTX := hide htx
            clear hle hfl hvk hslx hcell hd htx hb hlk hkl
            go_wp2_with fail
            refine HL.out.mono ?_
            rintro q w5 ⟨rfl, hb5⟩
            have hc5 : w5.cell? (ad.add k) = some (.slice XA l.length Xc) := cell_next hc1 hb5
            have HRD := hide (fun ww => read_pg HFI.out ww)
            have hl40 := fits_40 HFI.out
            obtain ⟨pg, hpg⟩ : ∃ p : ByteArray, p = ⟨(SlotP.lay (octs l)).toArray⟩ := ⟨_, rfl⟩
            rw [← hpg] at HRD ⊢
            have HS5 := hide (HSX.out.below hb5)
            have HB5 := hide (HB.out.trans (hb5.mono HB.out.size))
            clear hpg hb5 hc1 HL HSX HB HFI
            go_wp2_with fail
            refine (HRD.out _).mono ?_
            rintro q w6 ⟨M, mc, rfl, hs6, hb6⟩
            have hc6 : w6.cell? (ad.add k) = some (.slice XA l.length Xc) := cell_next hc5 hb6
            have HSE := hide (same_self (c := mc) (d := Xc) hs6 (HS5.out.below hb6) (by omega))
            have HS6 := hide hs6
            have HB6 := hide (HB5.out.trans (hb6.mono HB5.out.size))
            clear hs6 hb6 hc5 HS5 HB5 HRD
            go_wp2_with fail
            refine HSE.out.mono ?_
            rintro q w7 ⟨rfl, hb7⟩
            have HS7 := hide (HS6.out.below hb7)
            have HB7 := hide (HB6.out.trans (hb7.mono HB6.out.size))
            obtain ⟨lm, hlm⟩ : ∃ x, x = l.length := ⟨_, rfl⟩
            rw [← hlm] at HS7 hl40 ⊢
            have HLM := hide hlm
            clear hb7 hc6 HS6 HB6 HSE hlm
            go_upto_block 6 with (fail)
            go_wp2_with fail
            go_loopw [16, 22] (fun vt i wr => ∃ (j : Nat) (ty : ByteArray), j ≤ lm ∧ i = .int .i64 j ∧ vt = .string ty ∧ ty.size + (tot (l.drop j) + tot (ll.drop (k + 1)).flatten) = tot cs ∧ wr = w7) (fun _ i _ => lm - (intOf i).toNat)
            case atStart => exact ⟨0, tx, by omega, rfl, rfl, by rw [List.drop_zero]; exact HTX.out, rfl⟩
            case round =>
              obtain ⟨j, ty, hj, rfl, rfl, hty, rfl⟩ := hrel
              by_cases hjl : j < lm
              · obtain ⟨am, u, eM, hu, hcu⟩ := HS7.out.str hjl
                subst eM
                have hd := tot_drop1 hu
                rw [hd] at hty
                have h63 : ¬ 9223372036854775807 < ty.size + u.size := by omega
                have h64 : ¬ (9223372036854775807 : Int) < (ty.size : Int) + (u.size : Int) := by omega
                have hge : (0 : Int) ≤ (j : Int) := by omega
                have hgl : (j : Int) < (lm : Int) := by omega
                have HTY := hide hty
                clear hd hu hty
                go_wp2_with fail
                go_roundw
                case rel => exact ⟨j + 1, ty ++ u, by omega, by go_num, rfl, by have := HTY.out; rw [ByteArray.size_append]; omega, by first | rfl | trivial⟩
                case measure => simp [intOf]; omega
              · obtain rfl : j = lm := by omega
                have HTY : Hid (ty.size + tot (ll.drop (k + 1)).flatten = tot cs) := by
                  refine hide ?_
                  rw [List.drop_of_length_le (by rw [HLM.out]; exact Nat.le_refl _)] at hty
                  simpa [tot] using hty
                clear hty
                go_wp2_with fail
                go_roundw
                case rel => exact ⟨k + 1, ty, by omega, by go_num, rfl, HTY.out, HB7.out⟩
                case measure => simp [intOf]; omega
          · obtain rfl : k = nl := by omega
            have htz : tx.size ≤ 2000 := by omega
            have HB := hide hb
            clear htx hb
            go_wp2_with fail
            go_meet
            exact ⟨tx, rfl, htz, HB.out⟩
      case rest =>
        obtain ⟨tx, rfl, htz, hb5⟩ := hcut
        have hba := HB4.out.trans (hb5.mono HB4.out.size)
        have hbt := HBA.out.trans (hba.mono HBA.out.size)
        have kC := Box.new wc 46 #[.int .i64 60, .int .i64 6]
        have hb6 := (Below.refl wc.heap.size wc).alloc (Nat.le_refl _) (.cells #[.int .i64 60, .int .i64 6] 46)
        obtain ⟨w8, hw8⟩ : ∃ y, y = wc.alloc (.cells #[.int .i64 60, .int .i64 6] 46) := ⟨_, rfl⟩
        obtain ⟨bc, hbc⟩ : ∃ x, x = wc.heap.size := ⟨_, rfl⟩
        rw [← hw8, ← hbc] at kC
        rw [← hw8] at hb6
        have hba8 := hba.trans (hb6.mono hba.size)
        have hbt8 := hbt.trans (hb6.mono hbt.size)
        have HAA8 := hide (HAA.out.below hba8)
        have HKA8 := hide (HKA.out.belowS hba8)
        have HBT8 := hide hbt8
        have HKC8 := hide kC
        obtain ⟨q0, q1⟩ := kC.cell2
        have hlc := kC.lt
        obtain ⟨cu, hcc⟩ : ∃ c : Cut, c = ⟨60, 6⟩ := ⟨_, rfl⟩
        have hcl : cu.log = 60 := by rw [hcc]
        have hcp : cu.pages = 6 := by rw [hcc]
        have hco : okC cu := by rw [hcc]; exact ⟨by decide, by decide, by decide, by decide⟩
        have hfm : Calls Tryz.prog 10 #[.agg #[.int .i64 60, .int .i64 6], .string tx] w8 fun q w' => ∃ b d', q = .returned (.tuple #[.pointer (some ⟨b, 0, none⟩), .int .i64 0]) ∧ KM w' (fun x => w8.heap.size ≤ x) b (fmtK cu (oct tx) d') ∧ Kept (fmtK cu (oct tx) d') ∧ d'.left = -1 ∧ w8.heap.size ≤ b ∧ Below w8.heap.size w8 w' := by
          have := km_format cu tx w8 hco (by omega) (by rw [hcp]; exact pages_6 htz)
          rw [hcl, hcp] at this
          exact this
        have HFM := hide hfm
        have HCL := hide hcl
        have HCP := hide hcp
        have HW8 := hide hw8
        clear hcc hcl hcp hco hfm hba hbt hb6 hba8 hbt8 hb5 hw8 kC HB4 HBA HKA HCE HOL4 HRW4 HFL HNL HFT2 HKF HBF HSA
        go_upto_region 36 with (fail)
        rw [← HW8.out, ← hbc]
        clear HW8 hbc
        go_wp2_with fail
        refine HFM.out.mono ?_
        rintro q w9 ⟨b1, d1, rfl, hM9, hk9, hl9, hb19, hb9⟩
        obtain ⟨k9, hk9e⟩ : ∃ k, k = fmtK cu (oct tx) d1 := ⟨_, rfl⟩
        have e1 : k9.cut = cu := by rw [hk9e]
        have e3 : k9.head.seq = 1 := by rw [hk9e]
        have e4 : k9.text = oct tx := by rw [hk9e]
        have e5 : k9.records = [] := by rw [hk9e]
        have e6 : k9.drive.left = -1 := by rw [hk9e]; exact hl9
        rw [← hk9e] at hM9 hk9
        have HK0 := hide (show ∃ k : K, KM w9 (fun x => w8.heap.size ≤ x) b1 k ∧ Kept k ∧ k.drive.left = -1 ∧ k.cut = cu ∧ k.text = oct tx ∧ k.head.seq = 1 ∧ k.records = (recK cs).take 0 ∧ Below w8.heap.size w8 w9 from ⟨k9, hM9, hk9, e6, e1, e4, e3, by rw [e5]; rfl, hb9⟩)
        clear hM9 hk9 e1 e3 e4 e5 e6 hk9e hl9 hb9 HFM q0 q1
        go_upto_block 8 with (fail)
        go_cut [] (fun we => ∃ k : K, KM we (fun x => w8.heap.size ≤ x) b1 k ∧ Kept k ∧ k.drive.left = -1 ∧ k.cut = cu ∧ k.text = oct tx ∧ k.head.seq = 1 ∧ k.records = recK cs ∧ Below w8.heap.size w8 we)
        case first =>
          go_wp2_with fail
          go_loopw [26] (fun i wr => ∃ j : Nat, j ≤ nn ∧ i = .int .i64 j ∧ ∃ k : K, KM wr (fun x => w8.heap.size ≤ x) b1 k ∧ Kept k ∧ k.drive.left = -1 ∧ k.cut = cu ∧ k.text = oct tx ∧ k.head.seq = 1 ∧ k.records = (recK cs).take j ∧ Below w8.heap.size w8 wr) (fun i _ => nn - (intOf i).toNat)
          case atStart => exact ⟨0, by omega, rfl, HK0.out⟩
          case round =>
            obtain ⟨j, hj, rfl, k, hM, hk, hl, hcut, htext, hseq, hrec, hb⟩ := hrel
            by_cases hlt : j < nn
            · have hjc : j < cs.length := by rw [← HNN.out]; exact hlt
              obtain ⟨ad, cc, eA, hcc, hc1, hc2⟩ := (HAA8.out.below hb).cell hlt
              subst eA
              rw [cellsK_get cs j hjc] at hcc
              have he : cc = (keyOf j, cs[j]) := (Option.some.inj hcc).symm
              subst he
              have hr := recK_take cs j hjc
              have hz := HSZ.out cs[j] (List.getElem_mem hjc)
              have hkz : (keyOf j).size = 1 := rfl
              obtain ⟨s, hse⟩ : ∃ s, s = cs[j] := ⟨_, rfl⟩
              obtain ⟨ky, hky⟩ : ∃ s, s = keyOf j := ⟨_, rfl⟩
              dsimp only at hc1 hc2
              rw [← hse] at hc2 hr hz
              rw [← hky] at hc1 hr hkz
              have hrz : k.records.length = j := by rw [hrec, List.length_take, recK_length]; omega
              have hsum : LogP.sum k.records = j := by
                rw [sum_small _ fun r hr' => recK_small HSZ.out r (List.mem_of_mem_take (hrec ▸ hr')), hrz]
              have hsz2 : (ky ++ s).size ≤ 101 := by rw [ByteArray.size_append]; omega
              have HAD : Hid (∀ ww, Below wr.heap.size wr ww → Calls Tryz.prog 11 #[.pointer (some ⟨b1, 0, none⟩), .string (ky ++ s)] ww fun q w' => ∃ k' : K, q = .returned (.int .i64 0) ∧ KM w' (fun x => w8.heap.size ≤ x) b1 k' ∧ Kept k' ∧ k'.drive.left = -1 ∧ k'.cut = cu ∧ k'.text = oct tx ∧ k'.head.seq = 1 ∧ k'.records = (recK cs).take (j + 1) ∧ Below w8.heap.size w8 w') := hide fun ww hbw => by
                refine (km_add (hM.below hbw) hk (by rw [hseq, hrz]; show 1 + j ≤ LogP.maxSeq; unfold LogP.maxSeq; omega) hl (ky ++ s) (by omega) (by omega) (by rw [hsum, secs_one (by omega), hcut, HCL.out]; omega)).mono ?_
                rintro q w' ⟨d', l', h1, h2, h3, h4, h5⟩
                have hz8 := hb.size
                have hzw := hbw.size
                exact ⟨_, h1, h2.mono fun x hx _ => (by rcases hx with h | h; exact h; omega), h3, h4, hcut, htext, hseq, by show k.records ++ [oct (ky ++ s)] = _; rw [hrec, hr], (hb.trans (hbw.mono hz8)).trans (h5.toBelow (fun x hx => hx) (by omega))⟩
              have HS : Hid (∀ ww, Below wr.heap.size wr ww → ww.cell? (ad.add (j * 2)) = some (.string ky) ∧ ww.cell? ⟨(ad.add (j * 2)).block, (ad.add (j * 2)).off + 1, none⟩ = some (.string s)) := hide fun ww hbw => ⟨cell_next hc1 hbw, cell_next hc2 hbw⟩
              have HS8 : Hid (∀ ww, Below w8.heap.size w8 ww → ww.cell? (ad.add (j * 2)) = some (.string ky) ∧ ww.cell? ⟨(ad.add (j * 2)).block, (ad.add (j * 2)).off + 1, none⟩ = some (.string s)) := hide fun ww hbw => by
                obtain ⟨ad', cc', eA', hcc', h1, h2⟩ := (HAA8.out.below hbw).cell hlt
                obtain rfl := Option.some.inj eA'
                rw [cellsK_get cs j hjc] at hcc'
                obtain rfl := Option.some.inj hcc'
                exact ⟨by rw [hky]; exact h1, by rw [hse]; exact h2⟩
              have hbx : Below wr.heap.size wr wr.drew := (Below.refl _ _).drew
              have hge : (0 : Int) ≤ (j : Int) := by omega
              have hgl : (j : Int) < (nn : Int) := by omega
              have h63 : ¬ 9223372036854775807 < ky.size + s.size := by omega
              have h64 : ¬ (9223372036854775807 : Int) < (ky.size : Int) + (s.size : Int) := by omega
              have h65 : ¬ 9223372036854775807 < 1 + s.size := by omega
              have h66 : ¬ (9223372036854775807 : Int) < 1 + (s.size : Int) := by omega
              clear hM hk hl hcut htext hseq hrec hb hcc hr hse hky hrz hsum hsz2 hc1 hc2 hkz hz hjc
              go_wp2_with fail
              go_region_held3 (fun ww => ww.cell? (ad.add (j * 2)) = some (.string ky) ∧ ww.cell? ⟨(ad.add (j * 2)).block, (ad.add (j * 2)).off + 1, none⟩ = some (.string s))
                (first | (with_reducible exact HS.out _ hbx) | (with_reducible exact HS8.out _ hb8))
                (((with_reducible refine (HAD.out _ hbx).mono ?_); (rintro q wn ⟨k', rfl, hM', hk', hl', hcut', htext', hseq', hrec', hb8⟩)))
              have HR := hide (And.intro hM' (And.intro hk' (And.intro hl' (And.intro hcut' (And.intro htext' (And.intro hseq' (And.intro hrec' hb8)))))))
              clear hM' hk' hl' hcut' htext' hseq' hrec' hb8 hbx
              go_wp2_with fail
              go_roundw
              case rel => exact ⟨j + 1, by omega, by go_num, k', HR.out⟩
              case measure => simp [intOf]; omega
            · obtain rfl : j = nn := by omega
              have hre : k.records = recK cs := by rw [hrec, List.take_of_length_le (by rw [recK_length, HNN.out]; exact Nat.le_refl _)]
              have HR := hide (And.intro hM (And.intro hk (And.intro hl (And.intro hcut (And.intro htext (And.intro hseq (And.intro hre hb)))))))
              clear hM hk hl hcut htext hseq hrec hre hb
              go_wp2_with fail
              go_meet
              exact ⟨k, HR.out⟩
        case rest =>
          obtain ⟨k, hM, hk, hl, hcut, htext, hseq, hrec, hb⟩ := hcut
          obtain ⟨ff, hff⟩ : ∃ ff, ff = fates f := ⟨_, rfl⟩
          have HFF : Hid (∀ ww, Below w.heap.size w ww → Calls Tryz.prog 15 #[.agg #[.slice FA fn fc, .int .i64 f.torn, .int .i64 f.cut]] ww fun e w' => ∃ n, e = .returned (.agg #[.slice FA n fc, .int .i64 ff.torn, .int .i64 ff.cut]) ∧ Below ww.heap.size ww w' ∧ Ft w' (fun _ => True) FA n fc ff) := hide fun ww hbw => by
            refine (fates_any FA fn fc f _ ww (HFT.out.below hbw) hc1 hc2).mono ?_
            rintro e w' ⟨n, h1, _, h2, h3⟩
            rw [hff]
            exact ⟨n, h1, h2, h3⟩
          have hbt := HBT8.out.trans (hb.mono HBT8.out.size)
          have kC := HKC8.out.belowS hb
          have kF := HKA8.out.belowS hb
          have HDI := hide (reo_disk hM)
          obtain ⟨d5, hd5⟩ : ∃ d5, d5 = DiskP.crash k.drive ff := ⟨_, rfl⟩
          have hk5 : Kept { k with drive := d5 } := by rw [hd5]; exact hk.crash _
          have HCR := hide (reo_crash hk.log.live.may hd5)
          obtain ⟨k5, hk5e⟩ : ∃ k5 : K, k5 = { k with drive := d5 } := ⟨_, rfl⟩
          have hdr : k5.drive = d5 := by rw [hk5e]
          have g1 : k5.cut = cu := by rw [hk5e]; exact hcut
          have g4 : k5.text = oct tx := by rw [hk5e]; exact htext
          have g5 : k5.records = recK cs := by rw [hk5e]; exact hrec
          rw [← hk5e] at hk5
          have hop := reo_open hk5 (show (k5.cut.log : Int) = 60 by rw [g1, HCL.out]; rfl) (show (k5.cut.pages : Int) = 6 by rw [g1, HCP.out]; rfl)
          rw [hdr] at hop
          have HOP := hide hop
          have HTE := hide g4
          have HRE := hide g5
          have HSS : Hid (∀ (ww : World), Below wc.heap.size wc ww → (ww.cell? ⟨bc, 0, none⟩ = some (.int .i64 60) ∧ ww.cell? ⟨bc, 1, none⟩ = some (.int .i64 6)) ∧ ww.cell? ⟨w.heap.size, 0, none⟩ = some (.slice FA fn fc) ∧ ww.cell? ⟨w.heap.size, 1, none⟩ = some (.int .i64 f.torn) ∧ ww.cell? ⟨w.heap.size, 2, none⟩ = some (.int .i64 f.cut)) := hide fun ww hb => ⟨(kC.belowS hb).cell2, (kF.belowS hb).cellAt rfl, (kF.belowS hb).cellAt rfl, (kF.belowS hb).cellAt rfl⟩
          have HBW := hide hbt
          have HAAC := hide (HAA8.out.below hb)
          clear hff hbt kC kF hd5 hk5 hk5e hdr g1 g4 g5 hop hM hk hl hcut htext hseq hrec hb HFT HKC8 HKA8 HBT8 HAA8 HCL HCP HK0
          go_upto_region 44 with (fail)
          have hbx : Below wc.heap.size wc wc.drew := (Below.refl _ _).drew
          go_region_held3 (fun ww => (ww.cell? ⟨bc, 0, none⟩ = some (.int .i64 60) ∧ ww.cell? ⟨bc, 1, none⟩ = some (.int .i64 6)) ∧ ww.cell? ⟨w.heap.size, 0, none⟩ = some (.slice FA fn fc) ∧ ww.cell? ⟨w.heap.size, 1, none⟩ = some (.int .i64 f.torn) ∧ ww.cell? ⟨w.heap.size, 2, none⟩ = some (.int .i64 f.cut))
            (first | (with_reducible exact (HSS.out wc (Below.refl _ _))) | (with_reducible exact (HSS.out _ hbx)))
            (first
              | ((with_reducible refine (HDI.out _ hbx).mono ?_); rintro q wn ⟨A4, n4, c4, B4, m4, x4, rfl, hD4, hbn⟩; have hbx := hbx.trans (hbn.mono hbx.size); have HD4 := hide hD4; clear hD4)
              | ((with_reducible refine (HFF.out _ (HBW.out.trans (hbx.mono HBW.out.size))).mono ?_); rintro q wf ⟨g4, rfl, hbf, hG4⟩; have hbx := hbx.trans (hbf.mono hbx.size); have HD4 := hide (HD4.out.below hbf); have HG4 := hide hG4; clear hG4)
              | ((with_reducible refine (HCR.out _ _ _ _ _ _ _ _ _ _ HD4.out HG4.out).mono ?_); rintro q wm ⟨A5, n5, c5, B5, m5, x5, rfl, hD5, hbm⟩; have hz5 := hbx.size; have hbx := hbx.trans (hbm.mono hbx.size); have HD5 := hide hD5; clear hD5)
              | ((with_reducible refine (HOP.out _ _ _ _ _ _ _ _ HD5.out).mono ?_); rintro q wo ⟨b5, rfl, hM5, hbl5, hbo⟩; have hz6 := hbx.size; have hbx := hbx.trans (hbo.mono hbx.size)))
          have HTX := hide (reo_text hM5 HTE.out)
          have HRC := hide (reo_records hM5 (n := nn) (by rw [HRE.out, recK_length, ← HNN.out]; omega) HRE.out (by rw [recK_length]; exact HNN.out))
          have HAAO := hide (HAAC.out.below hbx)
          have HBO := hide (HBW.out.trans (hbx.mono HBW.out.size))
          clear hM5 hbl5 hz5 hz6 hbo hbm hbf hbn hbx HD4 HG4 HD5 HDI HFF HCR HOP HSS HTE HRE HAAC HBW
          go_wp2_with fail
          refine (HTX.out _ (Below.refl _ _)).mono ?_
          rintro q w7 ⟨rfl, rfl⟩
          go_wp2_with fail
          refine (HRC.out _ (Below.refl _ _)).mono ?_
          rintro q wp ⟨X0, xc0, rfl, _, hbp⟩
          have HBP := hide hbp
          clear hbp
          go_wp2_with fail
          refine (HRC.out _ HBP.out).mono ?_
          rintro q wq ⟨XA, xc, rfl, hsx, hbq⟩
          have hboq := HBP.out.trans (hbq.mono HBP.out.size)
          have HAAQ := hide (HAAO.out.below hboq)
          have HSX := hide hsx
          have HBQ := hide (HBO.out.trans (hboq.mono HBO.out.size))
          clear hsx hbq hboq HTX HRC HAAO HBO HBP
          go_upto_block 10 with (fail)
          go_cut [] (fun we => Below wq.heap.size wq we)
          case first =>
            go_wp2_with fail
            go_loopw [30] (fun i wr => ∃ k : Nat, k ≤ nn ∧ i = .int .i64 k ∧ Below wq.heap.size wq wr) (fun i _ => nn - (intOf i).toNat)
            case atStart => exact ⟨0, by omega, rfl, Below.refl _ _⟩
            case round =>
              obtain ⟨i, hi, rfl, hb⟩ := hrel
              by_cases hlt : i < nn
              · have hjc : i < cs.length := by rw [← HNN.out]; exact hlt
                obtain ⟨ad, cc, eA, hcc, _, _⟩ := (HAAQ.out.below hb).cell hlt
                subst eA
                rw [cellsK_get cs i hjc] at hcc
                have he : cc = (keyOf i, cs[i]) := (Option.some.inj hcc).symm
                obtain ⟨ax, eX, _, _, hcx⟩ := (HSX.out.below hb).2 (by omega)
                subst eX
                have hz := HSZ.out cs[i] (List.getElem_mem hjc)
                have hkz : (keyOf i).size = 1 := rfl
                obtain ⟨s, hse⟩ : ∃ s, s = cs[i] := ⟨_, rfl⟩
                obtain ⟨ky, hky⟩ : ∃ s, s = keyOf i := ⟨_, rfl⟩
                obtain ⟨rr, hrr⟩ : ∃ r, r = ky ++ s := ⟨_, rfl⟩
                have hrc := recK_get cs i hjc
                rw [← hse] at hz hrc
                rw [← hky] at hkz hrc
                rw [← hrr] at hrc
                have hrz : rr.size ≤ 101 := by rw [hrr, ByteArray.size_append]; omega
                have HS : Hid (∀ ww, Below wq.heap.size wq ww → (ww.cell? (ax.add i) = some (.string rr) ∧ ww.cell? (ad.add (i * 2)) = some (.string ky)) ∧ ww.cell? ⟨(ad.add (i * 2)).block, (ad.add (i * 2)).off + 1, none⟩ = some (.string s)) := hide fun ww hbw => by
                  obtain ⟨ad', cc', eA', hcc', h1, h2⟩ := (HAAQ.out.below hbw).cell hlt
                  obtain rfl := Option.some.inj eA'
                  rw [cellsK_get cs i hjc] at hcc'
                  obtain rfl := Option.some.inj hcc'
                  obtain ⟨ax', eX', _, _, hcx'⟩ := (HSX.out.below hbw).2 (by omega)
                  obtain rfl := Option.some.inj eX'
                  refine ⟨⟨?_, by rw [hky]; exact h1⟩, by rw [hse]; exact h2⟩
                  have := hcx' i (.string (mkB (oct rr))) (by rw [secV_get, hrc]; rfl)
                  rw [mkB_oct] at this
                  exact this
                have HSEC : Hid (∀ ww, Calls Tryz.prog 18 #[.int .i64 (rr.size : Nat)] ww fun q w' => q = .returned (.int .i64 1) ∧ ww = w') := hide fun ww => by
                  have := sectors_any rr.size ww (by omega)
                  rw [secs_one (by omega)] at this
                  exact this
                have hbx : Below wq.heap.size wq wr.drew := hb.drew
                have hge : (0 : Int) ≤ (i : Int) := by omega
                have hgl : (i : Int) < (nn : Int) := by omega
                have h63 : ¬ 9223372036854775807 < ky.size + s.size := by omega
                have h64 : ¬ (9223372036854775807 : Int) < (ky.size : Int) + (s.size : Int) := by omega
                have h65 : ¬ 9223372036854775807 < 1 + s.size := by omega
                have h66 : ¬ (9223372036854775807 : Int) < 1 + (s.size : Int) := by omega
                have hcat : ky ++ s = rr := hrr.symm
                clear hcc he hcx hse hky hrr hrc hkz hz hjc hb hrz
                go_wp2_with fail
                go_region_held3 (fun ww => (ww.cell? (ax.add i) = some (.string rr) ∧ ww.cell? (ad.add (i * 2)) = some (.string ky)) ∧ ww.cell? ⟨(ad.add (i * 2)).block, (ad.add (i * 2)).off + 1, none⟩ = some (.string s))
                  (first | (with_reducible exact HS.out _ hbx))
                  (((with_reducible refine (HSEC.out _).mono ?_); (rintro q wn ⟨rfl, rfl⟩)))
                have HBR := hide hbx
                clear hbx
                go_wp2_with fail
                go_roundw
                case rel => exact ⟨i + 1, by omega, by go_num, HBR.out⟩
                case measure => simp [intOf]; omega
              · obtain rfl : i = nn := by omega
                have HB := hide hb
                clear hb
                go_wp2_with fail
                go_meet
                exact HB.out
          case rest =>
            have HBZ := hide (HBQ.out.trans (hcut.mono HBQ.out.size))
            have hlm := World.block_lt_of_cell? _ _ HMX.out
            have HWK := hide (works_any m wc ((HBZ.out.cell hlm).trans HMX.out))
            clear hcut HBQ HMX
            go_wp2_with fail
            refine HWK.out.mono ?_
            rintro q wz ⟨rfl, hbz⟩
            have HBE := hide (HBZ.out.trans (hbz.mono HBZ.out.size))
            clear hbz
            go_wp2_with fail
            go_ret
            exact ⟨rfl, HBE.out⟩
end Go.Proofs.YtojincohnjophaaGreatDoor
