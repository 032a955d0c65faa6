/- The walk of layer 20's reference, Cells. -/
import Derived.Test.YtkkddnmpehoeoaaTreeAll
namespace Go.Proofs.Ytkkddnmpehoeoaa
open Go.RowKit
open TreeP (Kt Cell kl flat flatL WS Inv InvL InB)
set_option linter.unusedVariables false
attribute [local go_sem ↓] Go.wp_at_zero Go.wp_at_succ

theorem own_emptyC (w : World) (base : Nat) (hb : base ≤ w.heap.size) : (w.alloc (.cells #[] 44)).ownsRow base 44 2 (.slice (some ⟨w.heap.size, 0, none⟩) 0 0) 0 [] :=
  World.ownsRow_lit (base := base) (e := 44) (size := 2) w #[] 0 hb (by simp [maxLen]) rfl

set_option maxRecDepth 100000 in
set_option maxHeartbeats 1600000 in
theorem rcells_any (t : Kt) : ∀ (v1 v2 v3 : Value) (w : World), Kn w (fun _ => True) 1000 v1 v2 v3 t → (flat t).length ≤ 1000000000 →
    Calls Try.prog 11 #[.agg #[v1, v2, v3]] w fun e w' => ∃ v, e = .returned v ∧ OwnC w' w.heap.size v (flat t) ∧ Below w.heap.size w w' := by
  refine TreeP.ind (P := fun t => ∀ (v1 v2 v3 : Value) (w : World), Kn w (fun _ => True) 1000 v1 v2 v3 t → (flat t).length ≤ 1000000000 →
    Calls Try.prog 11 #[.agg #[v1, v2, v3]] w fun e w' => ∃ v, e = .returned v ∧ OwnC w' w.heap.size v (flat t) ∧ Below w.heap.size w w') ?_ t
  intro cells keys kids ih v1 v2 v3 w hkn hlen
  rw [flat] at hlen ⊢
  obtain ⟨⟨A1, c1, rfl, g1, g1', s1⟩, ⟨A2, c2, rfl, g2, _, s2⟩, A3, c3, vals, rfl, g3, g3', s3, k3⟩ := kn_mk.1 hkn
  obtain ⟨nc, hnc⟩ : ∃ nc, nc = cells.length := ⟨_, rfl⟩
  obtain ⟨nd, hnd⟩ : ∃ nd, nd = kids.length := ⟨_, rfl⟩
  rw [← hnc] at g1 g1' s1 ⊢
  rw [← hnd] at g3 g3' s3 ⊢
  generalize keys.length = nk at *
  have hbA : Below w.heap.size w (w.alloc (.cells #[.slice A1 nc c1, .slice A2 nk c2, .slice A3 nd c3] 26)) := (Below.refl _ w).alloc (Nat.le_refl _) _
  have kB : BoxK (w.alloc (.cells #[.slice A1 nc c1, .slice A2 nk c2, .slice A3 nd c3] 26)) w.heap.size (.slice A1 nc c1) (.slice A2 nk c2) (.slice A3 nd c3) := blk_top rfl
  have hszA : (w.alloc (.cells #[.slice A1 nc c1, .slice A2 nk c2, .slice A3 nd c3] 26)).heap.size = w.heap.size + 1 := by simp
  have HBA := hide hbA
  have HKB := hide kB
  have HSZ := hide hszA
  have HO := hide (cellsV_one cells)
  have HNC := hide hnc
  have HND := hide hnd
  have HLEN := hide hlen
  have hnn : 0 + nc ≤ 1000000000000 := by omega
  have S1 := hide s1
  have S3 := hide s3
  have K3 := hide k3
  have IH := hide ih
  clear hnc hnd hlen hkn s1 s2 s3 k3 ih hbA kB hszA
  go_enter Try.func11, Try.ntmps11
  go_wp2_with (at_builtin; refine app_C rfl _ _ rfl (w.heap.size + 1) _ _ _ (own_emptyC _ _ (Nat.le_of_eq HSZ.out.symm)) (by first | rfl | simp [go_sem]) _ _ _ _ (cellsV cells) rfl ((S1.out.below HBA.out).below ((Below.refl _ _).alloc (Nat.le_refl _) _)) HO.out hnn (by have := HSZ.out; rw [World.size_alloc]; omega) ?_; intro vA wB hA)
  have hbB1 : Below (w.heap.size + 1) (w.alloc (.cells #[.slice A1 nc c1, .slice A2 nk c2, .slice A3 nd c3] 26)) wB := by
    exact hA.below (own_emptyC _ _ (Nat.le_of_eq HSZ.out.symm)) ((Below.refl _ _).alloc (Nat.le_of_eq HSZ.out.symm) _) (Nat.le_refl _) (by have := HSZ.out; rw [World.size_alloc]; omega)
  have kB1 : BoxK wB w.heap.size (.slice A1 nc c1) (.slice A2 nk c2) (.slice A3 nd c3) := HKB.out.below (hbB1.mono (by have := HSZ.out; omega))
  have hbw : Below w.heap.size w wB := HBA.out.trans (hbB1.mono (by omega))
  have hsz : w.heap.size + 1 ≤ wB.heap.size := by have := hbB1.size; have := HSZ.out; omega
  have ho : OwnC wB (w.heap.size + 1) vA cells := by
    have := hA.own
    rw [List.nil_append, Nat.zero_add, HNC.out] at this
    exact this
  clear hA hbB1 HBA HKB HSZ HO
  go_loopw [3, 4] (fun x i wr => ∃ (k : Nat), k ≤ nd ∧ i = .int .i64 k ∧ OwnC wr (w.heap.size + 1) x (cells ++ flatL (kids.take k)) ∧ Below (w.heap.size + 1) wB wr) (fun _ i _ => nd - (intOf i).toNat)
  case atStart => exact ⟨0, Nat.zero_le _, rfl, by simpa [flatL] using ho, Below.refl _ _⟩
  case round =>
    clear ho
    obtain ⟨k, hk, rfl, hown, hb⟩ := hrel
    have hbr : Below w.heap.size w wr := hbw.trans (hb.mono (by omega))
    have hszr := Nat.le_trans hsz hb.size
    obtain ⟨q1, q2, q3⟩ := (BoxK.cell (w := wr) (b := w.heap.size) (v1 := .slice A1 nc c1) (v2 := .slice A2 nk c2) (v3 := .slice A3 nd c3) (by unfold BoxK at *; rw [hb.block _ (by omega)]; exact kB1))
    by_cases hlt : k < nd
    · obtain ⟨kid, hkid⟩ : ∃ kid, kids[k]? = some kid := ⟨_, List.getElem?_eq_getElem (by have := HND.out; omega)⟩
      obtain ⟨ad, x1, x2, x3, e, f1, f2, f3, f4⟩ := kid_at (S3.out.below hbr) (K3.out.below hbr) hkid
      subst e
      obtain ⟨B1, m1, d1, B2, m2, d2, B3, m3, d3, rfl, rfl, rfl⟩ := kn_shape f4
      have hft := flatL_take_succ hkid
      have hfl := flatL_take_le (l := kids) (k := k + 1)
      have hL := HLEN.out
      rw [List.length_append] at hL
      have hsum : (cells ++ flatL (kids.take k)).length + (flat kid).length ≤ 1000000000000 := by
        rw [hft, List.length_append] at hfl
        rw [List.length_append]; omega
      have hc := IH.out kid (List.mem_of_getElem? hkid) _ _ _ wr f4 (by have := TreeP.flat_mem_le (List.mem_of_getElem? hkid); omega)
      have HC := hide hc
      have HFT := hide hft
      have hge : (0 : Int) ≤ (k : Int) := by omega
      have hgl : (k : Int) < (nd : Int) := by omega
      clear hc hft hfl hL f4 hkid S1 S3 K3 IH HLEN
      go_wp2_with fail
      refine HC.out.mono ?_
      rintro e w2 ⟨v2, rfl, ho2, hb2⟩
      obtain ⟨D, cd, rfl, sd⟩ := ho2.sl
      have hown2 : OwnC w2 (w.heap.size + 1) u3 (cells ++ flatL (kids.take k)) := hown.below hb2
      have hbr2 : Below (w.heap.size + 1) wB w2 := hb.trans (hb2.mono hszr)
      have hsz2 := Nat.le_trans hszr hb2.size
      have HO2 := hide (cellsV_one (flat kid))
      clear ho2 hown hb2 HC
      go_wp2_with (at_builtin; refine app_C rfl _ _ rfl (w.heap.size + 1) _ _ _ hown2 rfl _ _ _ _ (cellsV (flat kid)) rfl sd HO2.out hsum hsz2 ?_; intro v3 w3 hA)
      have hb3 := hA.below hown2 hbr2 (Nat.le_refl _) hsz2
      have ho3 : OwnC w3 (w.heap.size + 1) v3 (cells ++ flatL (kids.take (k + 1))) := by
        have := hA.own
        rw [← cellsV_append, ← List.length_append, List.append_assoc, ← HFT.out] at this
        exact this
      clear hA
      go_roundw
      case rel => exact ⟨k + 1, by omega, by go_num, ho3, hb3⟩
      case measure => simp [intOf]; omega
    · obtain rfl : k = nd := by omega
      rw [HND.out, List.take_length] at hown
      go_wp2_with fail
      go_ret
      exact ⟨_, rfl, OwnC.mono hown (by omega), hbr⟩
end Go.Proofs.Ytkkddnmpehoeoaa
