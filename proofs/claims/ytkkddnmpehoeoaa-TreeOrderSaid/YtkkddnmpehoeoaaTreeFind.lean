/- The walk of layer 20's find. -/
import Derived.Test.YtkkddnmpehoeoaaTreePut
namespace Go.Proofs.Ytkkddnmpehoeoaa
open Go.RowKit
open TreeP (Kt Cell kl flat flatL Inv InvL InB)
set_option linter.unusedVariables false
attribute [local go_sem ↓] Go.wp_at_zero Go.wp_at_succ

/-- a box that holds a knot -/
def BoxK (w : World) (b : Nat) (v1 v2 v3 : Value) : Prop := w.heap[b]? = some (.cells #[v1, v2, v3] 26 (0, 0))
theorem BoxK.cell {w : World} {b : Nat} {v1 v2 v3 : Value} (h : BoxK w b v1 v2 v3) : w.cell? ⟨b, 0, none⟩ = some v1 ∧ w.cell? ⟨b, 1, none⟩ = some v2 ∧ w.cell? ⟨b, 2, none⟩ = some v3 := by
  unfold BoxK at h
  refine ⟨?_, ?_, ?_⟩ <;> simp [World.cell?, h]
theorem BoxK.frozen {w : World} {b : Nat} {v1 v2 v3 : Value} (h : BoxK w b v1 v2 v3) (i : Nat) : w.frozen? ⟨b, i, none⟩ = false := by
  unfold BoxK at h
  simp [World.frozen?, h]
theorem BoxK.new (w : World) (v1 v2 v3 : Value) : BoxK (w.alloc (.cells #[v1, v2, v3] 26)) w.heap.size v1 v2 v3 := heap_alloc_new w _
theorem BoxK.below {w w' : World} {b : Nat} {v1 v2 v3 : Value} (h : BoxK w b v1 v2 v3) (hb : Below w.heap.size w w') : BoxK w' b v1 v2 v3 := blk_below h hb

theorem kn_shape {w : World} {V : Nat → Prop} {B : Nat} {a b c : Value} {t : Kt} (h : Kn w V B a b c t) : ∃ A1 n1 c1 A2 n2 c2 A3 n3 c3, a = .slice A1 n1 c1 ∧ b = .slice A2 n2 c2 ∧ c = .slice A3 n3 c3 := by
  obtain ⟨cells, keys, kids⟩ := t
  obtain ⟨⟨A1, c1, rfl, _⟩, ⟨A2, c2, rfl, _⟩, A3, c3, vals, rfl, _⟩ := kn_mk.1 h
  exact ⟨_, _, _, _, _, _, _, _, _, rfl, rfl, rfl⟩
theorem BoxK.set {w : World} {b : Nat} {v1 v2 v3 u1 u2 u3 : Value} (h : BoxK w b v1 v2 v3) : BoxK (((w.setCell ⟨b, 0, none⟩ u1).setCell ⟨b, 1, none⟩ u2).setCell ⟨b, 2, none⟩ u3) b u1 u2 u3 := by
  unfold BoxK at *
  have hlt : b < w.heap.size := (Array.getElem?_eq_some_iff.1 h).1
  have h' : w.heap[b] = .cells #[v1, v2, v3] 26 (0, 0) := (Array.getElem?_eq_some_iff.1 h).2
  simp [World.setCell, Array.getElem?_modify, h]

set_option maxRecDepth 100000 in
set_option maxHeartbeats 800000 in
theorem find_any (key : ByteArray) (t0 : Kt) (ml0 h0 : Nat) (lo0 hi0 : Option ByteArray) (a1 a2 a3 : Value) (w : World) (H0 : Inv ml0 2 h0 lo0 hi0 t0) (hc0 : InB lo0 hi0 (key, key)) (hkn0 : Kn w (fun _ => True) 1000 a1 a2 a3 t0) :
    Calls Try.prog 27 #[.agg #[a1, a2, a3], .string key] w fun e w' => e = .returned (.tuple #[.string ((TreeP.findP key t0).getD .empty), .bool (TreeP.findP key t0).isSome]) ∧ Below w.heap.size w w' := by
  obtain ⟨R, hR⟩ : ∃ R, R = TreeP.findP key t0 := ⟨_, rfl⟩
  rw [← hR]
  have hBx := BoxK.new w a1 a2 a3
  have hbx := (Below.refl w.heap.size w).alloc (Nat.le_refl _) (.cells #[a1, a2, a3] 26)
  have HR := hide hR
  have HH0 := hide H0
  have HC0 := hide hc0
  have HK0 := hide hkn0
  clear hR H0 hc0 hkn0
  go_enter Try.func27, Try.ntmps27
  go_wp2_with fail
  go_loopg [8] h0 (fun k x wr => ∃ (t : Kt) (ml : Nat) (lo hi : Option ByteArray) (v1 v2 v3 : Value), Inv ml 2 k lo hi t ∧ InB lo hi (key, key) ∧ TreeP.findP key t = R ∧ Kn w (fun _ => True) 1000 v1 v2 v3 t ∧ BoxK wr w.heap.size v1 v2 v3 ∧ Below w.heap.size w wr)
  case atStart => exact ⟨t0, ml0, lo0, hi0, a1, a2, a3, HH0.out, HC0.out, HR.out.symm, HK0.out, hBx, hbx⟩
  case round =>
    clear hBx hbx HR HH0 HC0 HK0
    obtain ⟨t, ml, lo, hi, v1, v2, v3, H, hc, hf, hkn, hB, hb⟩ := hrel
    obtain ⟨cells, keys, kids⟩ := t
    obtain ⟨hd1, hd2, hd3⟩ := hB.cell
    have hknr := hkn.below hb
    obtain ⟨⟨A1, c1, rfl, g1, _, s1⟩, ⟨A2, c2, rfl, g2, _, s2⟩, A3, c3, vals, rfl, g3, _, s3, k3⟩ := kn_mk.1 hkn
    cases kids with
    | nil =>
      obtain ⟨rfl, rfl, h1, h2, h3, h4⟩ := TreeP.inv_leaf H (by omega)
      rw [TreeP.findP] at hf
      simp only [List.isEmpty_nil, if_true] at hf
      simp only [List.length_nil] at hB hd2 hd3 hknr
      have hpl := place_any _ _ _ _ key _ _ hknr
      simp only [Kt.cells] at hpl
      have s1r := s1.below hb
      clear h4 H hc s2 s3 k3 hkn hknr
      cases hq : TreeP.placed cells key with
      | false =>
        rw [hq] at hf hpl
        simp only [Bool.false_eq_true, if_false] at hf
        subst hf
        have HPL := hide hpl
        clear hq hpl
        go_wp2_with fail
        refine HPL.out.mono ?_
        rintro e wP ⟨rfl, hbP⟩
        go_wp2_with fail
        go_ret2
        exact ⟨rfl, hb.trans (hbP.mono hb.size)⟩
      | true =>
        rw [hq] at hf hpl
        simp only [if_true] at hf
        obtain ⟨x, hx⟩ : ∃ x, cells[TreeP.place cells key]? = some x := by
          unfold TreeP.placed at hq
          cases hx : cells[TreeP.place cells key]? with
          | none => rw [hx] at hq; cases hq
          | some x => exact ⟨x, rfl⟩
        rw [hx] at hf
        simp only [Option.map_some] at hf
        subst hf
        have hlt : TreeP.place cells key < cells.length := (List.getElem?_eq_some_iff.1 hx).1
        generalize TreeP.place cells key = i at *
        obtain ⟨ad, x', e, hx', f1, f2⟩ := s1r.cell hlt
        have hxe : x' = x := by rw [hx] at hx'; injection hx' with hx'; exact hx'.symm
        subst e hxe
        have b0 : (0 : Int) ≤ (i : Int) := by omega
        have b1 : (i : Int) < (cells.length : Int) := by omega
        have HPL := hide hpl
        clear hq hpl hx hx' s1r s1
        go_wp2_with fail
        refine HPL.out.mono ?_
        rintro e wP ⟨rfl, hbP⟩
        have e1 := cell_next hd1 hbP
        have e7 := cell_next f1 hbP
        have e8 := cell_next f2 hbP
        clear HPL
        go_wp2_with fail
        go_ret2
        exact ⟨rfl, hb.trans (hbP.mono hb.size)⟩
    | cons kid kids =>
      obtain ⟨rfl, h1, h2, h3, h4⟩ := TreeP.inv_inner H
      obtain ⟨m, m', k, x1, x0, x2, x3, x4, x5⟩ := TreeP.split h4 hc
      have hwy := way_any _ _ _ _ key _ _ hknr.drew
      simp only [Kt.keys, List.length_nil] at hwy
      simp only [List.length_nil] at hB hd1 g1
      have hfk : TreeP.findP key k = R := by
        rw [TreeP.findP] at hf
        simp only [List.isEmpty_cons, Bool.false_eq_true, if_false] at hf
        rw [TreeP.findAt_get x1] at hf; exact hf
      have hfr0 := hB.frozen 0
      have hfr1 := hB.frozen 1
      have hfr2 := hB.frozen 2
      clear hf x0 x2 x4 h4 H hc
      simp only [] at *
      generalize TreeP.way keys key = i at *
      generalize kid :: kids = kds at *
      obtain ⟨ad, w1, w2, w3, e, f1, f2, f3, f4⟩ := kid_at s3 k3 x1
      subst e
      obtain ⟨B1, n1, d1, B2, n2, d2, B3, n3, d3, rfl, rfl, rfl⟩ := kn_shape f4
      have hil : i < kds.length := (List.getElem?_eq_some_iff.1 x1).1
      have hpos : (0 : Int) < (kds.length : Int) := by omega
      have b0 : (0 : Int) ≤ (i : Int) := by omega
      have b1 : (i : Int) < (kds.length : Int) := by omega
      have HF := hide hfk
      have HX3 := hide x3
      have HX5 := hide x5
      have HX1 := hide x1
      have F4 := hide f4
      have f1r := cell_next f1 hb
      have f2r := cell_next f2 hb
      have f3r := cell_next f3 hb
      clear hfk x3 x5 x1 hkn hknr f1 f2 f3 f4 s1 s2 s3 k3
      go_wp2_with fail
      go_region_law (first
        | ((with_reducible refine at_dst 16 ?_); go_simp; go_at_call 36; refine hwy.mono ?_; rintro e wW ⟨rfl, hbW0⟩; have hbW : Below wr.heap.size wr wW := btr (bdr (Below.refl _ _)) hbW0; have hBW := hB.below (w' := wW) hbW; obtain ⟨e1, e2, e3⟩ := hBW.cell; have e4 := hBW.frozen 0; have e5 := hBW.frozen 1; have e6 := hBW.frozen 2; have e7 := cell_next f1r (w1 := wW) hbW; have e8 := cell_next f2r (w1 := wW) hbW; have e9 := cell_next f3r (w1 := wW) hbW))
      all_goals go_wp2_with fail
      all_goals
        go_roundg (gk - 1)
        case measure => omega
        case rel => exact ⟨k, 2, m, m', _, _, _, HX3.out, HX5.out, HF.out, F4.out, hBW.set, (((hb.trans (hbW.mono hb.size)).setCell (Nat.le_refl _) _).setCell (Nat.le_refl _) _).setCell (Nat.le_refl _) _⟩
end Go.Proofs.Ytkkddnmpehoeoaa
