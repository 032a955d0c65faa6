/- The walks of layer 20's All and Range, and of the reference's Cells. -/
import Derived.Test.YtkkddnmpehoeoaaTreeCells
namespace Go.Proofs.Ytkkddnmpehoeoaa
open Go.RowKit
open TreeP (Kt Cell kl flat flatL WS Inv InvL InB)
set_option linter.unusedVariables false
attribute [local go_sem ↓] Go.wp_at_zero Go.wp_at_succ

/-- All's answer -/
def allP (t : Kt) : List Cell := if chkP t = 0 then flat t else []
theorem allP_le (t : Kt) : (allP t).length ≤ (flat t).length := by
  unfold allP; split
  · exact Nat.le_refl _
  · simp

set_option maxRecDepth 100000 in
set_option maxHeartbeats 800000 in
theorem all_any (t : Kt) (v1 v2 v3 : Value) (w : World) (hkn : Kn w (fun _ => True) 1000 v1 v2 v3 t) (hlen : (flat t).length ≤ 1000000000) :
    Calls Try.prog 17 #[.agg #[v1, v2, v3]] w fun e w' => ∃ v, e = .returned v ∧ OwnC w' w.heap.size v (allP t) ∧ Below w.heap.size w w' := by
  obtain ⟨R, hR⟩ : ∃ R, R = allP t := ⟨_, rfl⟩
  rw [← hR]
  have HR := hide hR
  obtain ⟨A1, n1, c1, A2, n2, c2, A3, n3, c3, rfl, rfl, rfl⟩ := kn_shape hkn
  have hbA := (Below.refl w.heap.size w).alloc (Nat.le_refl _) (.cells #[.slice A1 n1 c1, .slice A2 n2 c2, .slice A3 n3 c3] 26)
  have hknA := hkn.lt.below hbA
  have kB : BoxK (w.alloc (.cells #[.slice A1 n1 c1, .slice A2 n2 c2, .slice A3 n3 c3] 26)) w.heap.size (.slice A1 n1 c1) (.slice A2 n2 c2) (.slice A3 n3 c3) := blk_top rfl
  have HK := hide hknA
  have HA := hide hbA
  have KB := hide kB
  clear hkn hbA hknA kB hR
  go_enter Try.func17, Try.ntmps17
  go_wp2_with fail
  refine (check_any t _ _ _ _ ?_).mono ?_
  · exact kn_keep (by omega) (Nat.le_refl _) (fun _ _ _ => rfl) (fun b h _ => trivial) HK.out
  rintro e w1 ⟨rfl, hb1⟩
  obtain ⟨k1, k2, k3⟩ := (KB.out.below hb1).cell
  have hkn1 := HK.out.below hb1
  have hbB := HA.out.trans (hb1.mono HA.out.size)
  have HK1 := hide hkn1
  have HB1 := hide hbB
  clear hkn1 hbB hb1
  by_cases hc : chkP t = 0
  · have hx : R = flat t := by rw [HR.out, allP, if_pos hc]
    subst hx
    rw [hc]
    clear hc HR HK HA KB
    go_wp2_with fail
    refine (cells_any t w.heap.size _ 0 [] _ _ _ _ (World.ownsRow_nil _ _ _ _) HB1.out.size HK1.out (by omega)).mono ?_
    rintro e w2 ⟨v, rfl, hA⟩
    have hb2 := hA.below (World.ownsRow_nil _ _ _ _) HB1.out (Nat.le_refl _) HB1.out.size
    have ho : OwnC w2 w.heap.size v (flat t) := by
      have := hA.own
      rw [Nat.zero_add, List.nil_append] at this
      exact this
    clear hA
    go_wp2_with fail
    go_ret
    exact ⟨_, rfl, ho, hb2⟩
  · have hx : R = [] := by rw [HR.out, allP, if_neg hc]
    subst hx
    have hc1 := chkP_no hc
    rw [hc1]
    clear hc hc1 HR
    go_wp2_with fail
    go_ret
    exact ⟨_, rfl, OwnC.nil _ _, HB1.out⟩

theorem cell_box {w : World} {b : Nat} {x y : Value} (h : w.heap[b]? = some (.cells #[x, y] 44 (0, 0))) : w.cell? ⟨b, 0, none⟩ = some x ∧ w.cell? ⟨b, 1, none⟩ = some y := by
  refine ⟨?_, ?_⟩ <;> simp [World.cell?, h]

set_option maxRecDepth 100000 in
set_option maxHeartbeats 800000 in
theorem range_any (t : Kt) (frm to : ByteArray) (v1 v2 v3 : Value) (w : World) (hkn : Kn w (fun _ => True) 1000 v1 v2 v3 t) (hlen : (flat t).length ≤ 1000000000) :
    Calls Try.prog 24 #[.agg #[v1, v2, v3], .string frm, .string to] w fun e w' => ∃ v, e = .returned v ∧ OwnC w' w.heap.size v (TreeP.rangeP frm to (allP t)) ∧ Below w.heap.size w w' := by
  obtain ⟨L, hL⟩ : ∃ L, L = allP t := ⟨_, rfl⟩
  have hLl : L.length ≤ 1000000000 := by rw [hL]; exact Nat.le_trans (allP_le t) hlen
  obtain ⟨p, hp⟩ : ∃ p : Cell → Bool, p = fun c => !kl c.1 frm && (decide (to = .empty) || kl c.1 to) := ⟨_, rfl⟩
  have hR : TreeP.rangeP frm to L = L.filter p := by rw [hp]; rfl
  rw [← hL, hR]
  have HP := hide hp
  have HLL := hide hL
  obtain ⟨A1, n1, c1, A2, n2, c2, A3, n3, c3, rfl, rfl, rfl⟩ := kn_shape hkn
  have hbA := (Below.refl w.heap.size w).alloc (Nat.le_refl _) (.cells #[.slice A1 n1 c1, .slice A2 n2 c2, .slice A3 n3 c3] 26)
  have hknA := hkn.below hbA
  have HK := hide hknA
  have HA := hide hbA
  clear hkn hbA hknA hR hp hL
  go_enter Try.func24, Try.ntmps24
  go_wp2_with fail
  refine (all_any t _ _ _ _ HK.out hlen).mono ?_
  rw [← HLL.out]
  rintro e w1 ⟨v, rfl, ho, hb1⟩
  obtain ⟨A, c, rfl, hs⟩ := ho.sl
  have hbB := HA.out.trans (hb1.mono HA.out.size)
  have hsz : w.heap.size ≤ w1.heap.size := hbB.size
  obtain ⟨n, hn⟩ : ∃ n, n = L.length := ⟨_, rfl⟩
  rw [← hn] at hs hLl ⊢
  have HL := hide hn.symm
  clear HK HA hb1 ho HLL hlen hn
  go_wp2_with fail
  go_loopw [7, 9, 13] (fun v x i wr => ∃ k : Nat, k ≤ n ∧ i = .int .i64 k ∧ wr.ownsRow w1.heap.size 44 2 v (filtK p L k).length (cellsV (filtK p L k)) ∧ Below w1.heap.size w1 wr) (fun _ _ i _ => n - (intOf i).toNat)
  case atStart => exact ⟨0, Nat.zero_le _, rfl, OwnC.nil _ _, Below.refl _ _⟩
  case round =>
    obtain ⟨k, hkn, rfl, hown, hb⟩ := hrel
    have hle := filtK_le p L k
    by_cases hlt : k < n
    · obtain ⟨ad, x, hA, hx, hc1, hc2⟩ := (hs.below hb).cell hlt
      subst hA
      have HX := hide hx
      have hge : (0 : Int) ≤ (k : Int) := by omega
      have hgl : (k : Int) < (n : Int) := by omega
      clear hx hs
      have kB : (wr.alloc (.cells #[.string x.1, .string x.2] 44)).heap[wr.heap.size]? = some (.cells #[.string x.1, .string x.2] 44 (0, 0)) := blk_top rfl
      obtain ⟨k1, k2⟩ := cell_box kB
      have hbA := hb.alloc hb.size (.cells #[.string x.1, .string x.2] 44)
      have hownA := hown.alloc (.cells #[.string x.1, .string x.2] 44)
      obtain ⟨b1, e1⟩ : ∃ b, Op.bytesLess x.1.toList frm.toList = b := ⟨_, rfl⟩
      obtain ⟨b2, e2⟩ : ∃ b, to.toList.isEmpty = b := ⟨_, rfl⟩
      obtain ⟨b3, e3⟩ : ∃ b, Op.bytesLess x.1.toList to.toList = b := ⟨_, rfl⟩
      have hpx : p x = (!b1 && (b2 || b3)) := by
        rw [HP.out, ← e1, ← e2, ← e3, empty_list]; rfl
      clear kB hown hb
      cases b1 with
      | true =>
        have hp1 : p x = false := by rw [hpx]; rfl
        have E := hide (filtK_no HX.out hp1)
        clear hpx hp1
        go_wp2_with fail
        rw [E.out] at hownA
        go_roundw
        case rel => exact ⟨k + 1, by omega, by go_num, hownA, hbA⟩
        case measure => simp [intOf]; omega
      | false =>
        cases b2 with
        | true =>
          have e4 : to.toList = [] := List.isEmpty_iff.1 e2
          clear e2 e3
          have hp1 : p x = true := by rw [hpx]; rfl
          have E := hide (filtK_yes HX.out hp1)
          clear hpx hp1
          go_wp2_with (at_builtin; refine appn_C rfl _ _ rfl w1.heap.size _ _ _ hownA rfl [.string x.1, .string x.2] (by first | rfl | simp [go_sem]) rfl (one2 _ _) (by omega) hbA.size ?_; intro v' w2 hA)
          have hb2 := hA.below hownA hbA (Nat.le_refl _) hbA.size
          have ho2 : OwnC w2 w1.heap.size v' (filtK p L (k + 1)) := OwnC.of_app hA.own rfl E.out
          go_roundw
          case rel => exact ⟨k + 1, by omega, by go_num, ho2, hb2⟩
          case measure => simp [intOf]; omega
        | false =>
          cases b3 with
          | true =>
            have hp1 : p x = true := by rw [hpx]; rfl
            have E := hide (filtK_yes HX.out hp1)
            clear hpx hp1
            go_wp2_with (at_builtin; refine appn_C rfl _ _ rfl w1.heap.size _ _ _ hownA rfl [.string x.1, .string x.2] (by first | rfl | simp [go_sem]) rfl (one2 _ _) (by omega) hbA.size ?_; intro v' w2 hA)
            have hb2 := hA.below hownA hbA (Nat.le_refl _) hbA.size
            have ho2 : OwnC w2 w1.heap.size v' (filtK p L (k + 1)) := OwnC.of_app hA.own rfl E.out
            go_roundw
            case rel => exact ⟨k + 1, by omega, by go_num, ho2, hb2⟩
            case measure => simp [intOf]; omega
          | false =>
            have hp1 : p x = false := by rw [hpx]; rfl
            have E := hide (filtK_no HX.out hp1)
            clear hpx hp1
            go_wp2_with fail
            rw [E.out] at hownA
            go_roundw
            case rel => exact ⟨k + 1, by omega, by go_num, hownA, hbA⟩
            case measure => simp [intOf]; omega
    · obtain rfl : k = n := by omega
      rw [filtK_all HL.out] at hown
      go_wp2_with fail
      go_ret
      exact ⟨_, rfl, OwnC.mono hown hsz, hbB.trans (hb.mono hsz)⟩
end Go.Proofs.Ytkkddnmpehoeoaa
