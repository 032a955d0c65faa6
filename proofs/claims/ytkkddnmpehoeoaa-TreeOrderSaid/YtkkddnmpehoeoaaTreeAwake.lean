/- The walk of layer 20's awake. -/
import Derived.Test.YtkkddnmpehoeoaaTreeDelV
import Derived.Test.YtkkddnmpehoeoaaTreeEx
import Derived.Deep.DeepCutAuto
import Derived.Deep.CutBlock
namespace Go.Proofs.Ytkkddnmpehoeoaa
open Go.RowKit
open TreeP (Kt Cell kl flat flatL Inv InB exK exL exM)
set_option linter.unusedVariables false
attribute [local go_sem ↓] Go.wp_at_zero Go.wp_at_succ

theorem chk_small {t : Kt} {h : Nat} (H : Inv 0 2 h none none t) (hc : (flat t).length ≤ 100000000) : chkP t = 0 := chkP_ok.2 ⟨h, H, by have := TreeP.inv_64 H hc; omega⟩
theorem find_get {t : Kt} {h : Nat} (H : Inv 0 2 h none none t) (key : ByteArray) : TreeP.findP key t = TreeP.get (flat t) key := TreeP.find_ok (by omega) H (TreeP.inB_none _)
theorem putR_ok {t : Kt} {h : Nat} (c : Cell) (H : Inv 0 2 h none none t) (hc : (flat t).length ≤ 100000000) : ∃ h', (h' = h ∨ h' = h + 1) ∧ Inv 0 2 h' none none (putR c t) ∧ flat (putR c t) = TreeP.withC (flat t) c := by
  rw [putR, if_pos (chk_small H hc)]
  obtain ⟨h1 | h1, h2⟩ := TreeP.putT_ok (c := c) H
  · exact ⟨h, .inl rfl, h1, h2⟩
  · exact ⟨h + 1, .inr rfl, h1, h2⟩
theorem delR_ok {t : Kt} {h : Nat} {key : ByteArray} (H : Inv 0 2 h none none t) (hc : (flat t).length ≤ 100000000) (hg : (TreeP.get (flat t) key).isSome = true) :
    delE key t = 0 ∧ ∃ h', (h' = h ∨ h' + 1 = h) ∧ Inv 0 2 h' none none (delR key t) ∧ flat (delR key t) = TreeP.without (flat t) key := by
  have he : delE key t = 0 := by rw [delE, if_pos (chk_small H hc), find_get H, if_pos hg]
  refine ⟨he, ?_⟩
  rw [delR, if_pos he]
  obtain ⟨h1 | ⟨h0, h1⟩, h2⟩ := TreeP.delT_ok H hg
  · exact ⟨h, .inl rfl, h1, h2⟩
  · exact ⟨h - 1, .inr (by omega), h1, h2⟩
theorem delE_no {t : Kt} {h : Nat} {key : ByteArray} (H : Inv 0 2 h none none t) (hc : (flat t).length ≤ 100000000) (hg : TreeP.get (flat t) key = none) : delE key t = 6 := by
  rw [delE, if_pos (chk_small H hc), find_get H, hg]; rfl

/-- a tree in a box, whose cells are known -/
def TreeIn (w0 : World) (b : Nat) (l : List Cell) (w : World) : Prop :=
  ∃ T h v1 v2 v3, Inv 0 2 h none none T ∧ flat T = l ∧ Kn w (fun i => i ≠ b) 1000 v1 v2 v3 T ∧ BoxK w b v1 v2 v3 ∧ Below b w0 w
/-- five keys, as cells -/
def exV : Array Value := #[.string ⟨#[99]⟩, .string ⟨#[97]⟩, .string ⟨#[101]⟩, .string ⟨#[98]⟩, .string ⟨#[100]⟩]
theorem ex_sl {w : World} {g : Nat} (h : w.heap[g]? = some (.cells exV 9 (0, 0))) : Sl w (fun _ => True) 1 (some ⟨g, 0, none⟩) 5 (strs exK) := sl_blk (n := 5) h (by simp)
theorem ex_at {w : World} {g k : Nat} {s : ByteArray} (h : w.heap[g]? = some (.cells exV 9 (0, 0))) (hs : exK[k]? = some s) : w.cell? ⟨g, k, none⟩ = some (.string s) := by
  unfold World.cell?
  simp only [h]
  match k, hs with
  | 0, hs | 1, hs | 2, hs | 3, hs | 4, hs =>
    simp only [exK, List.getElem?_cons_zero, List.getElem?_cons_succ, Option.some.injEq] at hs
    subst hs
    rfl
  | k + 5, hs => simp [exK] at hs

set_option maxRecDepth 100000 in
set_option maxHeartbeats 1600000 in
theorem awake20_any (w : World) :
    Calls Try.prog 19 #[] w fun e w' => e = .returned (.bool true) ∧ Below w.heap.size w w' := by
  have hb0 : Below w.heap.size w (w.alloc (.cells #[.slice none 0 0, .slice none 0 0, .slice none 0 0] 26)) := (Below.refl _ w).alloc (Nat.le_refl _) _
  have hbA : Below w.heap.size w ((w.alloc (.cells #[.slice none 0 0, .slice none 0 0, .slice none 0 0] 26)).alloc (.cells exV 9)) := hb0.alloc hb0.size _
  have hkA : BoxK ((w.alloc (.cells #[.slice none 0 0, .slice none 0 0, .slice none 0 0] 26)).alloc (.cells exV 9)) w.heap.size (.slice none 0 0) (.slice none 0 0) (.slice none 0 0) := blk_under (blk_top rfl)
  have hxA : ((w.alloc (.cells #[.slice none 0 0, .slice none 0 0, .slice none 0 0] 26)).alloc (.cells exV 9)).heap[w.heap.size + 1]? = some (.cells exV 9 (0, 0)) := blk_top (by simp)
  have HS := hide (⟨.mk [] [] [], 1, _, _, _, TreeP.inv_none, rfl, kn_none _, hkA, hbA⟩ : TreeIn w w.heap.size (exL 0) _)
  have HX := hide hxA
  clear hb0 hbA hkA hxA
  go_enter Try.func19, Try.ntmps19
  go_upto_block 0 with (fail)
  go_cut [] (fun wc => TreeIn w w.heap.size (exL 5) wc)
  case first =>
    go_wp2_with fail
    go_loopw [16] (fun i wr => ∃ (k : Nat), k ≤ 5 ∧ i = .int .i64 k ∧ wr.heap[w.heap.size + 1]? = some (.cells exV 9 (0, 0)) ∧ TreeIn w w.heap.size (exL k) wr) (fun i _ => 5 - (intOf i).toNat)
    case atStart => exact ⟨0, by omega, rfl, HX.out, HS.out⟩
    case round =>
      clear HX HS
      obtain ⟨k, hk, rfl, hx, T, h, v1, v2, v3, H, hT, hkn, hB, hb⟩ := hrel
      have HXR := hide hx
      have HTT := hide hT
      by_cases hlt : k < 5
      · obtain ⟨s, hs⟩ : ∃ s, exK[k]? = some s := ⟨_, List.getElem?_eq_getElem (show k < exK.length from hlt)⟩
        have hc := ex_at hx hs
        obtain ⟨B1, m1, d1, B2, m2, d2, B3, m3, d3, rfl, rfl, rfl⟩ := kn_shape hkn
        obtain ⟨q1, q2, q3⟩ := hB.cell
        have hcnt : (flat T).length ≤ 100000000 := by rw [hT]; have := TreeP.exL_len k; omega
        obtain ⟨h', _, H', hT'⟩ := putR_ok (s, s) H hcnt
        rw [hT, TreeP.exL_succ hs] at hT'
        have hput := putw_any (s, s) T _ _ _ wr (fun i => i ≠ w.heap.size) hkn
        rw [chk_small H hcnt] at hput
        have HP := hide hput
        have HH := hide H'
        have HT' := hide hT'
        have hge : (0 : Int) ≤ (k : Int) := by omega
        have hgl : (k : Int) < 5 := by omega
        clear hx hs hcnt H H' hT hT' hput hkn HTT
        go_wp2_with fail
        refine HP.out.mono ?_
        rintro e w2 ⟨⟨x1, x2, x3, rfl, hkn2⟩, hb2⟩
        obtain ⟨D1, o1, r1, D2, o2, r2, D3, o3, r3, rfl, rfl, rfl⟩ := kn_shape hkn2
        have hB2 := hB.below hb2
        have hx2 := blk_below HXR.out hb2
        have hbw := hb.trans (hb2.mono hb.size)
        have hsz := (Array.getElem?_eq_some_iff.1 hB).1
        have hB3 : BoxK (w2.alloc (.cells #[.slice D1 o1 r1, .slice D2 o2 r2, .slice D3 o3 r3] 26)) _ _ _ _ := blk_under hB2
        obtain ⟨p1, p2, p3⟩ := hB3.cell
        have p4 := hB3.frozen 0
        have p5 := hB3.frozen 1
        have p6 := hB3.frozen 2
        have HX2 := hide (blk_under (o' := .cells #[.slice D1 o1 r1, .slice D2 o2 r2, .slice D3 o3 r3] 26) hx2)
        have hb3 := hbw.alloc hbw.size (.cells #[.slice D1 o1 r1, .slice D2 o2 r2, .slice D3 o3 r3] 26)
        have hkn3 : Kn (w2.alloc (.cells #[.slice D1 o1 r1, .slice D2 o2 r2, .slice D3 o3 r3] 26)) (fun i => i ≠ w.heap.size) 1000 _ _ _ _ :=
          (kn_keep (Nat.le_refl _) (Nat.le_refl _) (fun _ _ _ => rfl) (fun b hb _ => by rcases hb with hb | hb; exact hb.1; omega) hkn2 : Kn w2 (fun i => i ≠ w.heap.size) 1000 _ _ _ _).below ((Below.refl _ _).alloc (Nat.le_refl _) _)
        have HK3 := hide hkn3
        clear hkn2 hx2 hbw q1 q2 q3 hB2 HXR HP hkn3 hb2 hc
        go_wp2_with fail
        have hR : TreeIn w w.heap.size (exL (k + 1)) ((((w2.alloc (.cells #[.slice D1 o1 r1, .slice D2 o2 r2, .slice D3 o3 r3] 26)).setCell ⟨w.heap.size, 0, none⟩ (.slice D1 o1 r1)).setCell ⟨w.heap.size, 1, none⟩ (.slice D2 o2 r2)).setCell ⟨w.heap.size, 2, none⟩ (.slice D3 o3 r3)) :=
          ⟨_, _, _, _, _, HH.out, HT'.out, kn_set3 HK3.out (fun b hb => hb), hB3.set, below_set3 hb3 (Nat.le_refl _)⟩
        go_roundw
        case rel => exact ⟨k + 1, by omega, by go_num, by rw [heap_set3 (by omega)]; exact HX2.out, hR⟩
        case measure => simp [intOf]; omega
      · obtain rfl : k = 5 := by omega
        have hR : TreeIn w w.heap.size (exL 5) wr := ⟨T, h, v1, v2, v3, H, hT, hkn, hB, hb⟩
        clear hx H hT hkn hB hb HXR HTT
        go_wp2_with fail
        go_meet
        exact hR
  case rest =>
    clear HX HS
    obtain ⟨T, h, v1, v2, v3, H, hT, hkn, hB, hb⟩ := hcut
    have h2 := TreeP.five_two H (by rw [hT]; rfl)
    obtain ⟨Tc, Ty, Td⟩ := T
    simp only [Kt.kids] at h2
    have hkn' := hkn
    obtain ⟨⟨A1, c1, rfl, _⟩, ⟨A2, c2, rfl, _⟩, A3, c3, vals, rfl, _⟩ := kn_mk.1 hkn'
    rw [h2] at hkn hB
    generalize Tc.length = nc at *
    generalize Ty.length = nk at *
    obtain ⟨q1, q2, q3⟩ := hB.cell
    have hsz := (Array.getElem?_eq_some_iff.1 hB).1
    have hb1 := hb.alloc hb.size (.cells exV 9)
    have hB1 : BoxK (wc.alloc (.cells exV 9)) _ _ _ _ := blk_under hB
    have hx1 : (wc.alloc (.cells exV 9)).heap[wc.heap.size]? = some (.cells exV 9 (0, 0)) := blk_top rfl
    have HS := hide (⟨.mk Tc Ty Td, h, _, _, _, H, hT, hkn.below ((Below.refl _ _).alloc (Nat.le_refl _) _), hB1, hb1⟩ : TreeIn w w.heap.size (exM 0) (wc.alloc (.cells exV 9)))
    have HX := hide hx1
    clear H hT hkn hkn' hB hb h2 hb1 hB1 hx1
    go_upto_block 2 with (fail)
    go_cut [] (fun we => TreeIn w w.heap.size [] we)
    case first =>
      go_wp2_with fail
      go_loopw [36] (fun i wr => ∃ (k : Nat), k ≤ 5 ∧ i = .int .i64 k ∧ wr.heap[wc.heap.size]? = some (.cells exV 9 (0, 0)) ∧ TreeIn w w.heap.size (exM k) wr) (fun i _ => 5 - (intOf i).toNat)
      case atStart => exact ⟨0, by omega, rfl, HX.out, HS.out⟩
      case round =>
        clear HX HS q1 q2 q3
        obtain ⟨k, hk, rfl, hx, T, h, v1, v2, v3, H, hT, hkn, hB, hb⟩ := hrel
        have HXR := hide hx
        by_cases hlt : k < 5
        · obtain ⟨s, hs⟩ : ∃ s, exK[k]? = some s := ⟨_, List.getElem?_eq_getElem (show k < exK.length from hlt)⟩
          have hc := ex_at hx hs
          obtain ⟨B1, m1, d1, B2, m2, d2, B3, m3, d3, rfl, rfl, rfl⟩ := kn_shape hkn
          obtain ⟨q1, q2, q3⟩ := hB.cell
          have hcnt : (flat T).length ≤ 100000000 := by rw [hT]; have := TreeP.exM_len k; omega
          obtain ⟨e1, e2⟩ := TreeP.exM_succ hs
          obtain ⟨he, h', _, H', hT'⟩ := delR_ok H hcnt (key := s) (by rw [hT]; exact e2)
          rw [hT, e1] at hT'
          have hput := delw_any s T _ _ _ wr (fun i => i ≠ w.heap.size) hkn
          rw [he] at hput
          have HP := hide hput
          have HH := hide H'
          have HT' := hide hT'
          have hge : (0 : Int) ≤ (k : Int) := by omega
          have hgl : (k : Int) < 5 := by omega
          clear hx hs hcnt H H' hT hT' hput hkn e1 e2 he
          go_wp2_with fail
          refine HP.out.mono ?_
          rintro e w2 ⟨⟨x1, x2, x3, rfl, hkn2⟩, hb2⟩
          obtain ⟨D1, o1, r1, D2, o2, r2, D3, o3, r3, rfl, rfl, rfl⟩ := kn_shape hkn2
          have hB2 := hB.below hb2
          have hx2 := blk_below HXR.out hb2
          have hbw := hb.trans (hb2.mono hb.size)
          have hszr := (Array.getElem?_eq_some_iff.1 hB).1
          have hB3 : BoxK (w2.alloc (.cells #[.slice D1 o1 r1, .slice D2 o2 r2, .slice D3 o3 r3] 26)) _ _ _ _ := blk_under hB2
          obtain ⟨p1, p2, p3⟩ := hB3.cell
          have p4 := hB3.frozen 0
          have p5 := hB3.frozen 1
          have p6 := hB3.frozen 2
          have HX2 := hide (blk_under (o' := .cells #[.slice D1 o1 r1, .slice D2 o2 r2, .slice D3 o3 r3] 26) hx2)
          have hb3 := hbw.alloc hbw.size (.cells #[.slice D1 o1 r1, .slice D2 o2 r2, .slice D3 o3 r3] 26)
          have hkn3 : Kn (w2.alloc (.cells #[.slice D1 o1 r1, .slice D2 o2 r2, .slice D3 o3 r3] 26)) (fun i => i ≠ w.heap.size) 1000 _ _ _ _ :=
            (kn_keep (Nat.le_refl _) (Nat.le_refl _) (fun _ _ _ => rfl) (fun b hb _ => by rcases hb with hb | hb; exact hb.1; omega) hkn2 : Kn w2 (fun i => i ≠ w.heap.size) 1000 _ _ _ _).below ((Below.refl _ _).alloc (Nat.le_refl _) _)
          have HK3 := hide hkn3
          clear hkn2 hx2 hbw q1 q2 q3 hB2 HXR HP hkn3 hb2 hc
          go_wp2_with fail
          have hR : TreeIn w w.heap.size (exM (k + 1)) ((((w2.alloc (.cells #[.slice D1 o1 r1, .slice D2 o2 r2, .slice D3 o3 r3] 26)).setCell ⟨w.heap.size, 0, none⟩ (.slice D1 o1 r1)).setCell ⟨w.heap.size, 1, none⟩ (.slice D2 o2 r2)).setCell ⟨w.heap.size, 2, none⟩ (.slice D3 o3 r3)) :=
            ⟨_, _, _, _, _, HH.out, HT'.out, kn_set3 HK3.out (fun b hb => hb), hB3.set, below_set3 hb3 (Nat.le_refl _)⟩
          go_roundw
          case rel => exact ⟨k + 1, by omega, by go_num, by rw [heap_set3 (by omega)]; exact HX2.out, hR⟩
          case measure => simp [intOf]; omega
        · obtain rfl : k = 5 := by omega
          have hR : TreeIn w w.heap.size [] wr := ⟨T, h, v1, v2, v3, H, hT, hkn, hB, hb⟩
          clear hx H hT hkn hB hb HXR
          go_wp2_with fail
          go_meet
          exact hR
    case rest =>
      clear HX HS q1 q2 q3
      obtain ⟨T, h, v1, v2, v3, H, hT, hkn, hB, hb⟩ := hcut
      obtain ⟨e1, e2, rfl⟩ := TreeP.none_leaf H hT
      obtain ⟨Tc, Ty, Td⟩ := T
      simp only [Kt.kids, Kt.cells] at e1 e2
      subst e1 e2
      have hcnt : (flat (.mk [] Ty [])).length ≤ 100000000 := by rw [hT]; simp
      have hc0 := chk_small H hcnt
      have hfn : TreeP.findP ⟨#[97]⟩ (.mk [] Ty []) = none := by rw [find_get H, hT]; rfl
      have hkT : Kn wc (fun _ => True) 1000 v1 v2 v3 (.mk [] Ty []) := kn_keep (Nat.le_refl _) (Nat.le_refl _) (fun _ _ _ => rfl) (fun _ _ _ => trivial) hkn
      have hget := get_any (.mk [] Ty []) ⟨#[97]⟩ _ _ _ _ hkT
      rw [hc0, hfn] at hget
      have hdp : depP (.mk [] Ty []) = 1 := by rw [depP, if_pos hc0]; simp [TreeP.height, TreeP.heightL]
      have HG := hide hget
      have HDP := hide hdp
      have HK := hide hkT
      clear H hT hcnt hc0 hfn hkT hget hdp
      obtain ⟨⟨E1, d1, rfl, _⟩, ⟨E2, d2, rfl, _⟩, E3, d3, vls, rfl, _⟩ := kn_mk.1 hkn
      simp only [List.length_nil] at hB
      clear hkn
      obtain ⟨q1, q2, q3⟩ := hB.cell
      go_wp2_with fail
      refine HG.out.mono ?_
      rintro e w2 ⟨rfl, hb2⟩
      have hB2 := hB.below hb2
      obtain ⟨p1, p2, p3⟩ := hB2.cell
      have hbw := hb.trans (hb2.mono hb.size)
      have hdep := depth_any (.mk [] Ty []) _ _ _ _ (HK.out.below hb2)
      rw [HDP.out] at hdep
      have HDE := hide hdep
      clear q1 q2 q3 hb2 hdep hB HG
      simp only [if_true, Option.isSome_none, Bool.false_eq_true, if_false, Option.getD_none]
      go_wp2_with fail
      refine HDE.out.mono ?_
      rintro e w3 ⟨rfl, hb3⟩
      have hbx := hbw.trans (hb3.mono hbw.size)
      clear HDE p1 p2 p3 hB2 hb3
      go_wp2_with fail
      go_ret
      exact ⟨rfl, hbx⟩
end Go.Proofs.Ytkkddnmpehoeoaa
