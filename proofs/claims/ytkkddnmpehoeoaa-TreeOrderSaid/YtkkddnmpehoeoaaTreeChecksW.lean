/- The walk of the law TreeChecks. -/
import Derived.Test.YtkkddnmpehoeoaaTreeAwake
import Derived.Test.YtkkddnmpehoeoaaTreeFewB
import Derived.Test.YtkkddnmpehoeoaaTreeRDepth
namespace Go.Proofs.Ytkkddnmpehoeoaa
open Go.RowKit
open TreeP (Kt Cell kl flat flatL height Inv InB cutT fewK depthP)
set_option linter.unusedVariables false
attribute [local go_sem ↓] Go.wp_at_zero Go.wp_at_succ

theorem few4_count (t : Kt) : (flat (fewK 4 t)).length ≤ 20000 := Nat.le_trans (TreeP.few_count 4 t) (by decide)
theorem few4_height (t : Kt) : height (fewK 4 t) ≤ 5 := TreeP.few_height 4 t
theorem chk_depth {t : Kt} (h : height t ≤ 64) : chkP t = if depthP t = 0 then 1 else 0 := by
  unfold chkP
  rw [TreeP.check_depth h]
  by_cases e : depthP t = 0 <;> simp [e]
theorem same_self (l : List Cell) : decide (l = l) = true := by simp
theorem awake_box {w0 w : World} {b : Nat} (hb : Below b w0 w) (hs : b ≤ w.heap.size) : Calls Try.prog 19 #[] w fun e w' => e = .returned (.bool true) ∧ Below b w0 w' :=
  (awake20_any w).mono fun _ _ ⟨h1, h2⟩ => ⟨h1, hb.trans (h2.mono hs)⟩

set_option maxRecDepth 100000 in
set_option maxHeartbeats 6400000 in
theorem treeChecks_walk (t : Kt) (key val : ByteArray) (v1 v2 v3 : Value) (w : World) (hkn : Kn w (fun _ => True) 9223372036854775807 v1 v2 v3 t) :
    Calls Try.prog 3 #[.agg #[v1, v2, v3], .string key, .string val] w fun e w' => e = .returned (.bool true) ∧ Below w.heap.size w w' := by
  obtain ⟨A1, n1, c1, A2, n2, c2, A3, n3, c3, rfl, rfl, rfl⟩ := kn_shape hkn
  have hbA := (Below.refl w.heap.size w).alloc (Nat.le_refl _) (.cells #[.slice A1 n1 c1, .slice A2 n2 c2, .slice A3 n3 c3] 26)
  have hknA := hkn.below hbA
  have kB : BoxK (w.alloc (.cells #[.slice A1 n1 c1, .slice A2 n2 c2, .slice A3 n3 c3] 26)) w.heap.size (.slice A1 n1 c1) (.slice A2 n2 c2) (.slice A3 n3 c3) := blk_top rfl
  have hsA : (w.alloc (.cells #[.slice A1 n1 c1, .slice A2 n2 c2, .slice A3 n3 c3] 26)).heap.size = w.heap.size + 1 := by simp
  have hfew := few_any 4 (by omega) t _ _ _ _ hknA
  have hcount := few4_count t
  have hheight := few4_height t
  generalize fewK 4 t = T at *
  have HF := hide hfew
  have HA := hide hbA
  have KB := hide kB
  have HSA := hide hsA
  clear hkn hbA hknA kB hfew hsA
  go_enter Try.func3, Try.ntmps3
  go_wp2_with fail
  refine HF.out.mono ?_
  rintro e w1 ⟨x1, x2, x3, rfl, hk1, hb1⟩
  obtain ⟨B1, m1, d1, B2, m2, d2, B3, m3, d3, rfl, rfl, rfl⟩ := kn_shape hk1
  have kB1 := KB.out.below hb1
  obtain ⟨q1, q2, q3⟩ := kB1.cell
  have q4 := kB1.frozen 0
  have q5 := kB1.frozen 1
  have q6 := kB1.frozen 2
  have hbB := HA.out.trans (hb1.mono HA.out.size)
  have hk1' := kn_set3 (b := w.heap.size) (u1 := .slice B1 m1 d1) (u2 := .slice B2 m2 d2) (u3 := .slice B3 m3 d3) hk1 (fun b hb => by have := HSA.out; omega)
  have hkT := hk1'.any
  have kBT := kB1.set (u1 := .slice B1 m1 d1) (u2 := .slice B2 m2 d2) (u3 := .slice B3 m3 d3)
  have hbT := below_set3 (u1 := .slice B1 m1 d1) (u2 := .slice B2 m2 d2) (u3 := .slice B3 m3 d3) hbB (Nat.le_refl w.heap.size)
  have HKT := hide hkT
  have HBT := hide hbT
  have KBT := hide kBT
  clear hk1 hk1' hkT hb1 hbB HF HA KB HSA hbT kBT kB1
  go_wp2_with fail
  refine (text_any key _).mono ?_
  rintro e w2 ⟨rfl, rfl⟩
  go_wp2_with fail
  refine (text_any val _).mono ?_
  rintro e w2 ⟨rfl, rfl⟩
  go_wp2_with fail
  generalize cutT key = key at *
  generalize cutT val = val at *
  clear q1 q2 q3 q4 q5 q6
  generalize ((w1.setCell ⟨w.heap.size, 0, none⟩ (.slice B1 m1 d1)).setCell ⟨w.heap.size, 1, none⟩ (.slice B2 m2 d2)).setCell ⟨w.heap.size, 2, none⟩ (.slice B3 m3 d3) = wT at *
  clear w1
  have hsT := HBT.out.size
  refine (rcells_any T _ _ _ _ HKT.out (by omega)).mono ?_
  rintro e w3 ⟨vl, rfl, hol, hb3⟩
  obtain ⟨AL, cL, rfl, hsl⟩ := hol.sl
  have hB3 := KBT.out.below hb3
  have hK3 := HKT.out.below hb3
  have hbw3 := HBT.out.trans (hb3.mono hsT)
  obtain ⟨q1, q2, q3⟩ := hB3.cell
  have HSL := hide hsl
  have HK3 := hide hK3
  have KB3 := hide hB3
  have HB3 := hide hbw3
  clear hol hb3 hsl hK3 hB3 hbw3 HKT HBT KBT hsT
  go_wp2_with fail
  refine (putw_any (key, val) T _ _ _ _ (fun _ => True) HK3.out).mono ?_
  rintro e w4 ⟨⟨y1, y2, y3, rfl, hkx⟩, hb4⟩
  obtain ⟨C1, o1, r1, C2, o2, r2, C3, o3, r3, rfl, rfl, rfl⟩ := kn_shape hkx
  have hb4' := hb4.alloc hb4.size (.cells #[.slice C1 o1 r1, .slice C2 o2 r2, .slice C3 o3 r3] 26)
  have hB4 := KB3.out.below hb4'
  have hX4 : BoxK (w4.alloc (.cells #[.slice C1 o1 r1, .slice C2 o2 r2, .slice C3 o3 r3] 26)) w4.heap.size _ _ _ := blk_top rfl
  have hKX := hkx.any.below ((Below.refl _ w4).alloc (Nat.le_refl _) (.cells #[.slice C1 o1 r1, .slice C2 o2 r2, .slice C3 o3 r3] 26))
  have hK4 := HK3.out.below hb4'
  have hS4 := HSL.out.below hb4'
  have hbw4 := HB3.out.trans (hb4'.mono HB3.out.size)
  obtain ⟨q1', q2', q3'⟩ := hB4.cell
  clear q1 q2 q3
  have HK4 := hide hK4
  have HS4 := hide hS4
  have KB4 := hide hB4
  have KX4 := hide hX4
  have HKX := hide hKX
  have HB4 := hide hbw4
  clear hkx hb4 hb4' hB4 hX4 hKX hK4 hS4 hbw4 HK3 HSL KB3 HB3
  go_wp2_with fail
  generalize hxb : w4.heap.size = xb at *
  generalize w4.alloc (.cells #[.slice C1 o1 r1, .slice C2 o2 r2, .slice C3 o3 r3] 26) = w5 at *
  clear hxb w4
  refine (delw_any key T _ _ _ _ (fun _ => True) HK4.out).mono ?_
  rintro e w6 ⟨⟨y1, y2, y3, rfl, hky⟩, hb6⟩
  obtain ⟨D1, p1, s1, D2, p2, s2, D3, p3, s3, rfl, rfl, rfl⟩ := kn_shape hky
  have hb6' := hb6.alloc hb6.size (.cells #[.slice D1 p1 s1, .slice D2 p2 s2, .slice D3 p3 s3] 26)
  have hB6 := KB4.out.below hb6'
  have hX6 := KX4.out.below hb6'
  have hY6 : BoxK (w6.alloc (.cells #[.slice D1 p1 s1, .slice D2 p2 s2, .slice D3 p3 s3] 26)) w6.heap.size _ _ _ := blk_top rfl
  have hKY := hky.any.below ((Below.refl _ w6).alloc (Nat.le_refl _) (.cells #[.slice D1 p1 s1, .slice D2 p2 s2, .slice D3 p3 s3] 26))
  have hKX6 := HKX.out.below hb6'
  have hK6 := HK4.out.below hb6'
  have hS6 := HS4.out.below hb6'
  have hbw6 := HB4.out.trans (hb6'.mono HB4.out.size)
  clear q1' q2' q3'
  obtain ⟨q1, q2, q3⟩ := hB6.cell
  have HK6 := hide hK6
  have HS6 := hide hS6
  have KB6 := hide hB6
  have KX6 := hide hX6
  have KY6 := hide hY6
  have HKX6 := hide hKX6
  have HKY6 := hide hKY
  have HB6 := hide hbw6
  clear hky hb6 hb6' hB6 hX6 hY6 hKY hKX6 hK6 hS6 hbw6 HK4 HS4 KB4 KX4 HKX HB4
  go_wp2_with fail
  generalize hyb : w6.heap.size = yb at *
  generalize w6.alloc (.cells #[.slice D1 p1 s1, .slice D2 p2 s2, .slice D3 p3 s3] 26) = w7 at *
  clear hyb w6 w5
  refine (get_any T key _ _ _ _ HK6.out).mono ?_
  rintro e w8 ⟨rfl, hb8⟩
  have hB8 := KB6.out.below hb8
  have hX8 := KX6.out.below hb8
  have hY8 := KY6.out.below hb8
  have hKX8 := HKX6.out.below hb8
  have hKY8 := HKY6.out.below hb8
  have hK8 := HK6.out.below hb8
  have hS8 := HS6.out.below hb8
  have hbw8 := HB6.out.trans (hb8.mono HB6.out.size)
  clear q1 q2 q3
  have HK8 := hide hK8
  have HS8 := hide hS8
  have KB8 := hide hB8
  have KX8 := hide hX8
  have KY8 := hide hY8
  have HKX8 := hide hKX8
  have HKY8 := hide hKY8
  have HB8 := hide hbw8
  clear hb8 hB8 hX8 hY8 hKX8 hKY8 hK8 hS8 hbw8 HK6 HS6 KB6 KX6 KY6 HKX6 HKY6 HB6
  have hchk := chk_depth (t := T) (by omega)
  by_cases hdz : depthP T = 0
  · rw [if_pos hdz] at hchk
    have hde : delE key T = 1 := by rw [delE, hchk]; rfl
    have hal : allP T = [] := by rw [allP, hchk]; rfl
    have hdp : depP T = 0 := by rw [depP, hchk]; rfl
    have hrd := rdepth_any T _ _ _ _ HK8.out (by omega) (by omega)
    rw [hdz] at hrd
    obtain ⟨q1, q2, q3⟩ := KB8.out.cell
    rw [hchk, hde]
    rw [if_neg (by decide), if_neg (by decide)]
    have HRD := hide hrd
    have HAL := hide hal
    have HDP := hide hdp
    have HCK := hide hchk
    clear hdz hde hal hdp hrd hchk HS8 KX8 KY8 HKX8 HKY8
    go_wp2_with fail
    refine HRD.out.mono ?_
    rintro e w9 ⟨rfl, hb9⟩
    have hB9 := KB8.out.below hb9
    have hbw9 := HB8.out.trans (hb9.mono HB8.out.size)
    have hK9 := HK8.out.below hb9
    clear q1 q2 q3
    obtain ⟨q1, q2, q3⟩ := hB9.cell
    have HK9 := hide hK9
    have KB9 := hide hB9
    have HB9 := hide hbw9
    clear hb9 hB9 hbw9 hK9 HRD HK8 KB8 HB8 w8
    go_wp2_with fail
    refine (check_any T _ _ _ _ (kn_keep (by omega) (Nat.le_refl _) (fun _ _ _ => rfl) (fun b h _ => h) HK9.out)).mono ?_
    rw [HCK.out]
    rintro e w10 ⟨rfl, hb10⟩
    have hB10 := KB9.out.below hb10
    have hbw10 := HB9.out.trans (hb10.mono HB9.out.size)
    have hK10 := HK9.out.below hb10
    clear q1 q2 q3
    obtain ⟨q1, q2, q3⟩ := hB10.cell
    have HK10 := hide hK10
    have KB10 := hide hB10
    have HB10 := hide hbw10
    clear hb10 hB10 hbw10 hK10 HK9 KB9 HB9
    go_wp2_with fail
    refine (all_any T _ _ _ _ HK10.out (by omega)).mono ?_
    rw [HAL.out]
    rintro e w11 ⟨v11, rfl, ho11, hb11⟩
    obtain ⟨A11, c11, rfl, _⟩ := ho11.sl
    have hB11 := KB10.out.below hb11
    have hbw11 := HB10.out.trans (hb11.mono HB10.out.size)
    have hK11 := HK10.out.below hb11
    clear q1 q2 q3
    obtain ⟨q1, q2, q3⟩ := hB11.cell
    have HK11 := hide hK11
    have HB11 := hide hbw11
    clear hb11 hB11 hbw11 hK11 HK10 KB10 HB10 ho11
    simp only [List.length_nil]
    go_wp2_with fail
    refine (depth_any T _ _ _ _ HK11.out).mono ?_
    rw [HDP.out]
    rintro e w12 ⟨rfl, hb12⟩
    have hbw12 := HB11.out.trans (hb12.mono HB11.out.size)
    have hs12 := hbw12.size
    clear q1 q2 q3 hb12 HK11 HB11
    go_wp2_with fail
    refine (awake_box hbw12 hs12).mono ?_
    rintro e w13 ⟨rfl, hb13⟩
    clear hbw12 hs12
    go_wp2_with fail
    go_ret
    exact ⟨rfl, hb13⟩
  · rw [if_neg hdz] at hchk
    have H := (TreeP.depth_iff hdz).1 rfl
    have hcnt : (flat T).length ≤ 100000000 := by omega
    obtain ⟨hx, _, HX, hfx⟩ := putR_ok (key, val) H hcnt
    have hdt : depP T = depthP T := by rw [depP, if_pos hchk]; exact TreeP.inv_height (by omega) H
    have hfg := find_get H key
    have hrise := (TreeP.inv_inB (by omega) H).2
    have hdx : depthP (putR (key, val) T) = hx := (TreeP.depth_iff (TreeP.inv_pos (by omega) HX)).2 HX
    have hhx : hx ≤ 27 := TreeP.inv_64 HX (by rw [hfx]; have := TreeP.withC_len_le (flat T) (key, val); omega)
    have hhtx := TreeP.inv_height (by omega) HX
    have hcx : (flat (putR (key, val) T)).length ≤ 1000000000 := by rw [hfx]; have := TreeP.withC_len_le (flat T) (key, val); omega
    have hx0 := TreeP.inv_pos (by omega) HX
    have hrdx := fun ww v1 v2 v3 hk => rdepth_any (putR (key, val) T) v1 v2 v3 ww hk (by omega) hcx
    have hrcx := fun ww v1 v2 v3 hk => rcells_any (putR (key, val) T) v1 v2 v3 ww hk hcx
    rw [hfx] at hrcx
    rw [hdx] at hrdx
    have hrd := fun ww v1 v2 v3 hk => rdepth_any T v1 v2 v3 ww hk (by omega) (by omega)
    have hdep := fun ww v1 v2 v3 hk => depth_any T v1 v2 v3 ww hk
    rw [hdt] at hdep
    have hd0 : ((depthP T : Int) == 0) = false := by simp; omega
    have hx0' : ((hx : Int) == 0) = false := by simp; omega
    have hch := fun ww v1 v2 v3 hk => check_any T v1 v2 v3 ww hk
    rw [hchk] at hch
    generalize depthP T = dT at *
    have hde : delE key T = if (TreeP.get (flat T) key).isSome then 0 else 6 := by rw [delE, if_pos hchk, hfg]
    have hgt := fun ww A c hs => rget_any A (flat T).length c (flat T) key (fun _ => True) ww hs (by omega)
    have hdel := fun hg => delR_ok (key := key) H hcnt hg
    obtain ⟨q1, q2, q3⟩ := KB8.out.cell
    rw [hchk, hde, hfg, if_pos rfl, if_pos rfl]
    have HRD := hide hrd
    have HDEP := hide hdep
    have HCH := hide hch
    have HRDX := hide hrdx
    have HRCX := hide hrcx
    have HGT := hide hgt
    have HDEL := hide hdel
    have HFX := hide hfx
    have HRISE := hide hrise
    have HCX := hide hcx
    clear hrd hdep hch hrdx hrcx hgt hdel hfx hfg hrise hdx hhtx hcx hde hdt hcnt HX H hdz hheight
    generalize putR (key, val) T = X at *
    cases hG : TreeP.get (flat T) key with
    | none =>
      have HG := hide hG
      clear hG HDEL
      simp only [Option.getD_none, Option.isSome_none, Bool.false_eq_true, if_false]
      go_wp2_with fail
      refine (HRD.out _ _ _ _ HK8.out).mono ?_
      rintro e w9 ⟨rfl, hb9⟩
      have hB9 := KB8.out.below hb9
      have hbw9 := HB8.out.trans (hb9.mono HB8.out.size)
      have hK9 := HK8.out.below hb9
      have hS9 := HS8.out.below hb9
      have hX9 := KX8.out.below hb9
      have hKX9 := HKX8.out.below hb9
      clear q1 q2 q3
      obtain ⟨q1, q2, q3⟩ := hB9.cell
      have HK9 := hide hK9
      have KB9 := hide hB9
      have HB9 := hide hbw9
      have HS9 := hide hS9
      have KX9 := hide hX9
      have HKX9 := hide hKX9
      clear hb9 hB9 hbw9 hK9 hS9 hX9 hKX9 HK8 KB8 HB8 HS8 KX8 HKX8 KY8 HKY8 w8
      go_wp2_with fail
      refine (HGT.out _ _ _ HS9.out).mono ?_
      rw [HG.out]
      rintro e w10 ⟨rfl, rfl⟩
      simp only [Option.getD_none, Option.isSome_none]
      go_wp2_with fail
      have hk1000 := fun ww (hb : Below w10.heap.size w10 ww) => HK9.out.below hb
      go_region_held3 (fun w' => w'.cell? ⟨w.heap.size, 0, none⟩ = some (.slice B1 m1 d1) ∧ (w'.cell? ⟨w.heap.size, 1, none⟩ = some (.slice B2 m2 d2) ∧ w'.cell? ⟨w.heap.size, 2, none⟩ = some (.slice B3 m3 d3)))
        ((refine keep3 ⟨q1, q2, q3⟩ ?_; (repeat' (first | exact hc3 | exact hc2 | exact hc1 | exact Below.refl _ _ | refine bdr ?_ | refine bal ?_ _))))
        (first
          | (go_at_call 16; refine (HCH.out _ _ _ _ ?_).mono ?_; exact kn_keep (by omega) (Nat.le_refl _) (fun _ _ _ => rfl) (fun b h _ => h) HK9.out.drew; rintro e wa ⟨rfl, hba⟩; have hc1 : Below w10.heap.size w10 wa := btr (bdr (Below.refl _ _)) hba; clear hba)
          | (go_at_call 18; refine (HDEP.out _ _ _ _ ?_).mono ?_; exact hk1000 _ hc1; rintro e wb ⟨rfl, hbb⟩; have hc2 : Below w10.heap.size w10 wb := btr hc1 hbb; clear hbb)
          | (go_at_call 15; refine (HRD.out _ _ _ _ ?_).mono ?_; exact hk1000 _ hc2; rintro e wd ⟨rfl, hbd⟩; have hc3 : Below w10.heap.size w10 wd := btr hc2 hbd; clear hbd))
      have hK11 := HK9.out.below hc3
      have hS11 := HS9.out.below hc3
      have hX11 := KX9.out.below hc3
      have hKX11 := HKX9.out.below hc3
      have hB11 := KB9.out.below hc3
      have hbw11 := HB9.out.trans (hc3.mono HB9.out.size)
      clear q1 q2 q3
      obtain ⟨q1, q2, q3⟩ := hX11.cell
      have HK11 := hide hK11
      have HS11 := hide hS11
      have KX11 := hide hX11
      have HKX11 := hide hKX11
      have KB11 := hide hB11
      have HB11 := hide hbw11
      clear hc1 hc2 hc3 hk1000 hK11 hS11 hX11 hKX11 hB11 hbw11 HK9 HS9 KX9 HKX9 KB9 HB9
      go_wp2_with fail
      refine (HRDX.out _ _ _ _ HKX11.out).mono ?_
      rintro e we ⟨rfl, hbe⟩
      have hX12 := KX11.out.below hbe
      have hKX12 := HKX11.out.below hbe
      clear q1 q2 q3
      obtain ⟨q1, q2, q3⟩ := hX12.cell
      have HKX12 := hide hKX12
      have HBE := hide hbe
      clear hX12 hKX12 hbe HKX11 KX11 HRDX
      go_wp2_with fail
      refine (HRCX.out _ _ _ _ HKX12.out).mono ?_
      rintro e wf ⟨vf, rfl, hof, hbf⟩
      obtain ⟨AF, cF, rfl, hsf⟩ := hof.sl
      have hbf' := btr HBE.out hbf
      have HSF := hide hsf
      have HBF := hide hbf'
      clear hof hsf hbf hbf' q1 q2 q3 HBE HKX12 HRCX
      go_wp2_with fail
      refine (rwith_any AL _ cL (flat T) key val (fun _ => True) _ (HS11.out.below HBF.out) (by omega)).mono ?_
      rintro e wg ⟨vg, rfl, hog, hbg⟩
      obtain ⟨AG, cG, rfl, hsg⟩ := hog.sl
      have HSG := hide hsg
      have HSF2 := hide (HSF.out.below hbg)
      have HBG := hide (btr HBF.out hbg)
      clear hog hsg hbg HBF HSF
      go_wp2_with fail
      refine (rsame_any AF AG _ _ cF cG _ _ _ _ _ HSF2.out HSG.out (by have := HCX.out; rw [HFX.out] at this; exact this)).mono ?_
      rw [same_self]
      rintro e wh ⟨rfl, qh, rfl⟩
      have hbh := below_drewN HBG.out qh
      have hB13 := KB11.out.below hbh
      obtain ⟨q1, q2, q3⟩ := hB13.cell
      have HBH := hide hbh
      generalize wg.drewN qh = wi at *
      clear hbh hB13 HSF2 HSG HBG wg
      go_wp2_with fail
      refine (rcells_any T _ _ _ _ (HK11.out.below HBH.out) (by omega)).mono ?_
      rintro e wj ⟨vj, rfl, hoj, hbj⟩
      obtain ⟨AJ, cJ, rfl, hsj⟩ := hoj.sl
      have hbj' := btr HBH.out hbj
      have HSJ := hide hsj
      have HBJ := hide hbj'
      clear hoj hsj hbj hbj' q1 q2 q3 HBH
      go_wp2_with fail
      refine (rsame_any AJ AL _ _ cJ cL _ _ _ _ _ HSJ.out (HS11.out.below HBJ.out) (by omega)).mono ?_
      rw [same_self]
      rintro e wk ⟨rfl, qk, rfl⟩
      have hbk := below_drewN HBJ.out qk
      have HBK := hide hbk
      generalize wj.drewN qk = wl at *
      clear hbk HSJ HBJ wj
      have hbwl := HB11.out.trans (HBK.out.mono HB11.out.size)
      have hszl := hbwl.size
      go_wp2_with fail
      refine (awake_box hbwl hszl).mono ?_
      rintro e wm ⟨rfl, hbm⟩
      clear hbwl hszl
      go_wp2_with fail
      go_ret
      exact ⟨rfl, hbm⟩
    | some u =>
      have HG := hide hG
      obtain ⟨_, hy, _, HY, hfy⟩ := HDEL.out (by rw [hG]; rfl)
      have hhy : hy ≤ 27 := TreeP.inv_64 HY (by rw [hfy]; have := TreeP.without_len_le (flat T) key; omega)
      have hdy : depthP (delR key T) = hy := (TreeP.depth_iff (TreeP.inv_pos (by omega) HY)).2 HY
      have hhty := TreeP.inv_height (by omega) HY
      have hcy : (flat (delR key T)).length ≤ 1000000000 := by rw [hfy]; have := TreeP.without_len_le (flat T) key; omega
      have hy0 := TreeP.inv_pos (by omega) HY
      have hrdy := fun ww v1 v2 v3 hk => rdepth_any (delR key T) v1 v2 v3 ww hk (by omega) hcy
      have hrcy := fun ww v1 v2 v3 hk => rcells_any (delR key T) v1 v2 v3 ww hk hcy
      rw [hfy] at hrcy
      rw [hdy] at hrdy
      have hgy : (0 : Int) < (hy : Int) := by omega
      have HRDY := hide hrdy
      have HRCY := hide hrcy
      clear hrdy hrcy hdy hhty HY hfy hcy hy0
      clear hG HDEL
      simp only [Option.getD_some, Option.isSome_some, if_true]
      go_wp2_with fail
      refine (HRD.out _ _ _ _ HK8.out).mono ?_
      rintro e w9 ⟨rfl, hb9⟩
      have hB9 := KB8.out.below hb9
      have hbw9 := HB8.out.trans (hb9.mono HB8.out.size)
      have hK9 := HK8.out.below hb9
      have hS9 := HS8.out.below hb9
      have hX9 := KX8.out.below hb9
      have hKX9 := HKX8.out.below hb9
      have hY9 := KY8.out.below hb9
      have hKY9 := HKY8.out.below hb9
      have KY9 := hide hY9
      have HKY9 := hide hKY9
      clear hY9 hKY9
      clear q1 q2 q3
      obtain ⟨q1, q2, q3⟩ := hB9.cell
      have HK9 := hide hK9
      have KB9 := hide hB9
      have HB9 := hide hbw9
      have HS9 := hide hS9
      have KX9 := hide hX9
      have HKX9 := hide hKX9
      clear hb9 hB9 hbw9 hK9 hS9 hX9 hKX9 HK8 KB8 HB8 HS8 KX8 HKX8 KY8 HKY8 w8
      go_wp2_with fail
      refine (HGT.out _ _ _ HS9.out).mono ?_
      rw [HG.out]
      rintro e w10 ⟨rfl, rfl⟩
      simp only [Option.getD_some, Option.isSome_some]
      go_wp2_with fail
      have hk1000 := fun ww (hb : Below w10.heap.size w10 ww) => HK9.out.below hb
      go_region_held3 (fun w' => w'.cell? ⟨w.heap.size, 0, none⟩ = some (.slice B1 m1 d1) ∧ (w'.cell? ⟨w.heap.size, 1, none⟩ = some (.slice B2 m2 d2) ∧ w'.cell? ⟨w.heap.size, 2, none⟩ = some (.slice B3 m3 d3)))
        ((refine keep3 ⟨q1, q2, q3⟩ ?_; (repeat' (first | exact hc3 | exact hc2 | exact hc1 | exact Below.refl _ _ | refine bdr ?_ | refine bal ?_ _))))
        (first
          | (go_at_call 16; refine (HCH.out _ _ _ _ ?_).mono ?_; exact kn_keep (by omega) (Nat.le_refl _) (fun _ _ _ => rfl) (fun b h _ => h) HK9.out.drew; rintro e wa ⟨rfl, hba⟩; have hc1 : Below w10.heap.size w10 wa := btr (bdr (Below.refl _ _)) hba; clear hba)
          | (go_at_call 18; refine (HDEP.out _ _ _ _ ?_).mono ?_; exact hk1000 _ hc1; rintro e wb ⟨rfl, hbb⟩; have hc2 : Below w10.heap.size w10 wb := btr hc1 hbb; clear hbb)
          | (go_at_call 15; refine (HRD.out _ _ _ _ ?_).mono ?_; exact hk1000 _ hc2; rintro e wd ⟨rfl, hbd⟩; have hc3 : Below w10.heap.size w10 wd := btr hc2 hbd; clear hbd))
      have hK11 := HK9.out.below hc3
      have hS11 := HS9.out.below hc3
      have hX11 := KX9.out.below hc3
      have hKX11 := HKX9.out.below hc3
      have hB11 := KB9.out.below hc3
      have hbw11 := HB9.out.trans (hc3.mono HB9.out.size)
      have hY11 := KY9.out.below hc3
      have hKY11 := HKY9.out.below hc3
      have KY11 := hide hY11
      have HKY11 := hide hKY11
      clear hY11 hKY11 KY9 HKY9
      clear q1 q2 q3
      obtain ⟨q1, q2, q3⟩ := hX11.cell
      have HK11 := hide hK11
      have HS11 := hide hS11
      have KX11 := hide hX11
      have HKX11 := hide hKX11
      have KB11 := hide hB11
      have HB11 := hide hbw11
      clear hc1 hc2 hc3 hk1000 hK11 hS11 hX11 hKX11 hB11 hbw11 HK9 HS9 KX9 HKX9 KB9 HB9
      go_wp2_with fail
      refine (HRDX.out _ _ _ _ HKX11.out).mono ?_
      rintro e we ⟨rfl, hbe⟩
      have hX12 := KX11.out.below hbe
      have hKX12 := HKX11.out.below hbe
      clear q1 q2 q3
      obtain ⟨q1, q2, q3⟩ := hX12.cell
      have HKX12 := hide hKX12
      have HBE := hide hbe
      clear hX12 hKX12 hbe HKX11 KX11 HRDX
      go_wp2_with fail
      refine (HRCX.out _ _ _ _ HKX12.out).mono ?_
      rintro e wf ⟨vf, rfl, hof, hbf⟩
      obtain ⟨AF, cF, rfl, hsf⟩ := hof.sl
      have hbf' := btr HBE.out hbf
      have HSF := hide hsf
      have HBF := hide hbf'
      clear hof hsf hbf hbf' q1 q2 q3 HBE HKX12 HRCX
      go_wp2_with fail
      refine (rwith_any AL _ cL (flat T) key val (fun _ => True) _ (HS11.out.below HBF.out) (by omega)).mono ?_
      rintro e wg ⟨vg, rfl, hog, hbg⟩
      obtain ⟨AG, cG, rfl, hsg⟩ := hog.sl
      have HSG := hide hsg
      have HSF2 := hide (HSF.out.below hbg)
      have HBG := hide (btr HBF.out hbg)
      clear hog hsg hbg HBF HSF
      go_wp2_with fail
      refine (rsame_any AF AG _ _ cF cG _ _ _ _ _ HSF2.out HSG.out (by have := HCX.out; rw [HFX.out] at this; exact this)).mono ?_
      rw [same_self]
      rintro e wh ⟨rfl, qh, rfl⟩
      have hbh := below_drewN HBG.out qh
      have hB13 := KB11.out.below hbh
      obtain ⟨q1, q2, q3⟩ := hB13.cell
      have HBH := hide hbh
      generalize wg.drewN qh = wi at *
      clear hbh hB13 HSF2 HSG HBG wg
      go_wp2_with fail
      refine (rcells_any T _ _ _ _ (HK11.out.below HBH.out) (by omega)).mono ?_
      rintro e wj ⟨vj, rfl, hoj, hbj⟩
      obtain ⟨AJ, cJ, rfl, hsj⟩ := hoj.sl
      have hbj' := btr HBH.out hbj
      have HSJ := hide hsj
      have HBJ := hide hbj'
      clear hoj hsj hbj hbj' q1 q2 q3 HBH
      go_wp2_with fail
      refine (rsame_any AJ AL _ _ cJ cL _ _ _ _ _ HSJ.out (HS11.out.below HBJ.out) (by omega)).mono ?_
      rw [same_self]
      rintro e wk ⟨rfl, qk, rfl⟩
      have hbk := below_drewN HBJ.out qk
      have HBK := hide hbk
      generalize wj.drewN qk = wl at *
      clear hbk HSJ HBJ wj
      have hY15 := KY11.out.below HBK.out
      obtain ⟨q1, q2, q3⟩ := hY15.cell
      clear hY15
      go_wp2_with fail
      refine (HRDY.out _ _ _ _ (HKY11.out.below HBK.out)).mono ?_
      rintro e wm ⟨rfl, hbm⟩
      have hbm' := btr HBK.out hbm
      have hY16 := KY11.out.below hbm'
      clear q1 q2 q3
      obtain ⟨q1, q2, q3⟩ := hY16.cell
      have HBM := hide hbm'
      clear hbm hbm' hY16 HBK HRDY
      go_wp2_with fail
      refine (HRCY.out _ _ _ _ (HKY11.out.below HBM.out)).mono ?_
      rintro e wn ⟨vn, rfl, hon, hbn⟩
      obtain ⟨AN, cN, rfl, hsn⟩ := hon.sl
      have HSN := hide hsn
      have HBN := hide (btr HBM.out hbn)
      clear hon hsn hbn q1 q2 q3 HBM HRCY
      go_wp2_with fail
      refine (rwithout_any AL _ cL (flat T) key (fun _ => True) _ (HS11.out.below HBN.out) (by omega)).mono ?_
      rintro e wo ⟨vo, rfl, hoo, hbo⟩
      obtain ⟨AO, cO, rfl, hso⟩ := hoo.sl
      have HSO := hide hso
      have HSN2 := hide (HSN.out.below hbo)
      have HBO := hide (btr HBN.out hbo)
      clear hoo hso hbo HBN HSN
      go_wp2_with fail
      refine (rsame_any AN AO _ _ cN cO _ _ _ _ _ HSN2.out HSO.out (by have := TreeP.without_len_le (flat T) key; omega)).mono ?_
      rw [same_self]
      rintro e wp ⟨rfl, qp, rfl⟩
      have hbp := below_drewN HBO.out qp
      have HBP := hide hbp
      generalize wo.drewN qp = wq at *
      clear hbp HSO HSN2 HBO wo
      have hbwl := HB11.out.trans (HBP.out.mono HB11.out.size)
      have hszl := hbwl.size
      go_wp2_with fail
      refine (awake_box hbwl hszl).mono ?_
      rintro e wm ⟨rfl, hbm⟩
      clear hbwl hszl
      go_wp2_with fail
      go_ret
      exact ⟨rfl, hbm⟩
end Go.Proofs.Ytkkddnmpehoeoaa
