/- The walk of layer 20's del. -/
import Derived.Test.YtkkddnmpehoeoaaTreeFind
namespace Go.Proofs.Ytkkddnmpehoeoaa
open Go.RowKit
open TreeP (Kt Cell kl flat flatL Inv InvL InB)
set_option linter.unusedVariables false
attribute [local go_sem ↓] Go.wp_at_zero Go.wp_at_succ

theorem both_any (a b : Kt) (g : Nat) (l1 h1 l2 h2 : Option ByteArray) (a1 a2 a3 b1 b2 b3 : Value) (key : ByteArray) (w : World) (V : Nat → Prop) (hV : ∀ b, w.heap.size ≤ b → V b) (Ha : Inv 1 1 g l1 h1 a) (Hb : Inv 1 1 g l2 h2 b) (ka : Kn w V 1000 a1 a2 a3 a) (kb : Kn w V 1000 b1 b2 b3 b) :
    Calls Try.prog 39 #[.agg #[a1, a2, a3], .string key, .agg #[b1, b2, b3]] w fun e w' => TwoR w' V 1000 e (TreeP.bothP a key b).1 (TreeP.bothP a key b).2 ∧ Below w.heap.size w w' := by
  obtain ⟨ca, ya, la⟩ := a
  obtain ⟨cb, yb, lb⟩ := b
  obtain ⟨⟨A1, c1, rfl, g1, _, s1⟩, ⟨A2, c2, rfl, g2, _, s2⟩, A3, c3, vals, rfl, g3, _, s3, k3⟩ := kn_mk.1 ka
  obtain ⟨⟨B1, d1, rfl, e1, _, t1⟩, ⟨B2, d2, rfl, e2, _, t2⟩, B3, d3, wals, rfl, e3, _, t3, l3⟩ := kn_mk.1 kb
  unfold TreeP.bothP
  simp only [Kt.kids, Kt.cells, Kt.keys]
  cases la with
  | nil =>
    obtain ⟨rfl, rfl, p1, p2, p3, p4⟩ := TreeP.inv_leaf Ha (by omega)
    cases lb with
    | cons x y => have := TreeP.inv_inner Hb; omega
    | nil =>
      obtain ⟨rfl, _, q1, q2, q3, q4⟩ := TreeP.inv_leaf Hb (by omega)
      simp only [List.isEmpty_nil, if_true]
      exact both_leaf (.slice none 0 0) _ (.slice none 0 0) _ _ A1 B1 c1 d1 c3 A3 ca cb key w V hV s1 t1 (by omega) (by omega)
  | cons x y =>
    obtain ⟨rfl, p1, p2, p3, p4⟩ := TreeP.inv_inner Ha
    cases lb with
    | nil => have := TreeP.inv_leaf Hb (by omega); omega
    | cons z u =>
      obtain ⟨rfl, q1, q2, q3, q4⟩ := TreeP.inv_inner Hb
      simp only [List.isEmpty_cons, Bool.false_eq_true, if_false]
      exact both_inner _ _ A2 A3 B2 B3 c2 c3 d2 d3 vals wals (x :: y) (z :: u) ya yb key w V hV s2 s3 k3 t2 t3 l3 (by omega) (by omega) (TreeP.invL_len p4) (TreeP.invL_len q4)

theorem bothP_len (a b : Kt) (k : ByteArray) : (TreeP.bothP a k b).1.length ≤ 2 ∧ (TreeP.bothP a k b).2.length ≤ 1 := by
  have hl : ∀ l, (TreeP.leavesP l).1.length ≤ 2 ∧ (TreeP.leavesP l).2.length ≤ 1 := by
    intro l; unfold TreeP.leavesP; split <;> simp
  have hi : ∀ l ks, (TreeP.innersP l ks).1.length ≤ 2 ∧ (TreeP.innersP l ks).2.length ≤ 1 := by
    intro l ks; unfold TreeP.innersP; split <;> simp
  unfold TreeP.bothP
  split
  · exact hl _
  · exact hi _ _

theorem cell_set3 {w : World} {b : Nat} {a : Addr} {v u1 u2 u3 : Value} (h : w.cell? a = some v) (hne : a.block ≠ b) : (((w.setCell ⟨b, 0, none⟩ u1).setCell ⟨b, 1, none⟩ u2).setCell ⟨b, 2, none⟩ u3).cell? a = some v := by
  unfold World.cell? at *
  simp only [World.setCell, Array.getElem?_modify]
  simp only [if_neg (Ne.symm hne)]
  exact h
theorem heap_set3 {w : World} {b k : Nat} {u1 u2 u3 : Value} (hne : k ≠ b) : (((w.setCell ⟨b, 0, none⟩ u1).setCell ⟨b, 1, none⟩ u2).setCell ⟨b, 2, none⟩ u3).heap[k]? = w.heap[k]? := by
  simp only [World.setCell, Array.getElem?_modify]
  simp only [if_neg (Ne.symm hne)]
theorem size_set3 {w : World} {b : Nat} {u1 u2 u3 : Value} : (((w.setCell ⟨b, 0, none⟩ u1).setCell ⟨b, 1, none⟩ u2).setCell ⟨b, 2, none⟩ u3).heap.size = w.heap.size := by simp [World.setCell]
/-- one store after another into a block of one's own -/
theorem below_set3 {B : Nat} {w0 w : World} {b : Nat} {u1 u2 u3 : Value} (h : Below B w0 w) (hb : B ≤ b) : Below B w0 (((w.setCell ⟨b, 0, none⟩ u1).setCell ⟨b, 1, none⟩ u2).setCell ⟨b, 2, none⟩ u3) :=
  ((h.setCell hb _).setCell hb _).setCell hb _

theorem slv_cells2 {w : World} {v : Value} {i n : Nat} {cells L : List Cell} (hL : L = cells.take i ++ cells.drop (i + 1)) (hn : n = cells.length) (hi : i + 1 ≤ n)
    {V : Nat → Prop} (h : SlV w V 2 v (total [(i, cellsV (cells.take i)), (n - (i + 1), cellsV (cells.drop (i + 1)))]) (joined [(i, cellsV (cells.take i)), (n - (i + 1), cellsV (cells.drop (i + 1)))])) :
    SlV w V 2 v L.length (cellsV L) := by
  have e1 : L.length = total [(i, cellsV (cells.take i)), (n - (i + 1), cellsV (cells.drop (i + 1)))] := by
    rw [hL]; simp only [List.length_append, List.length_take, List.length_drop, total]; omega
  have e2 : cellsV L = joined [(i, cellsV (cells.take i)), (n - (i + 1), cellsV (cells.drop (i + 1)))] := by
    rw [hL, cellsV_append]; simp [joined]
  rw [e1, e2]; exact h

/-- a knot that is answered -/
def OneR (w : World) (V : Nat → Prop) (B : Nat) (e : Ending) (t : Kt) : Prop := ∃ v1 v2 v3, e = .returned (.agg #[v1, v2, v3]) ∧ Kn w V B v1 v2 v3 t

set_option maxRecDepth 100000 in
set_option maxHeartbeats 300000 in
theorem del_leaf (v2 : Value) (A1 A3 : Option Addr) (c1 c3 n : Nat) (cells : List Cell) (keys : List ByteArray) (key : ByteArray) (w : World) (V : Nat → Prop) (hV : ∀ b, w.heap.size ≤ b → V b) (hkn : Kn w V 1000 (.slice A1 n c1) v2 (.slice A3 0 c3) (.mk cells keys []))
    (h1 : Sl w V 2 A1 n (cellsV cells)) (hn : n = cells.length) (hc : n ≤ c1) (h100 : n ≤ 100) (hp : TreeP.placed cells key = true) :
    Calls Try.prog 28 #[.agg #[.slice A1 n c1, v2, .slice A3 0 c3], .string key] w
      fun e w' => OneR w' V 1000 e (.mk (cells.take (TreeP.place cells key) ++ cells.drop (TreeP.place cells key + 1)) [] []) ∧ Below w.heap.size w w' := by
  have hbA := ((Below.refl w.heap.size w).alloc (Nat.le_refl _) (.cells #[.slice A1 n c1, v2, .slice A3 0 c3] 26)).alloc (by simp) (.cells #[.slice none 0 0, .slice none 0 0, .slice none 0 0] 26)
  have hpl := place_any _ _ _ _ key _ _ (hkn.below hbA)
  simp only [Kt.cells] at hpl
  obtain ⟨i, hi⟩ : ∃ i, i = TreeP.place cells key := ⟨_, rfl⟩
  have hin : i + 1 ≤ n := by
    unfold TreeP.placed at hp
    cases hx : cells[TreeP.place cells key]? with
    | none => rw [hx] at hp; cases hp
    | some x => have := (List.getElem?_eq_some_iff.1 hx).1; omega
  rw [← hi]
  rw [← hi] at hpl
  obtain ⟨L, hL⟩ : ∃ L, L = cells.take i ++ cells.drop (i + 1) := ⟨_, rfl⟩
  rw [← hL]
  have hLl : L.length ≤ 1000 := by rw [hL]; simp only [List.length_append, List.length_take, List.length_drop]; omega
  have hT := ((h1.takeN (m := i) (by omega)).below hbA)
  have hD := ((h1.dropN (k := i + 1) hin hc).below hbA)
  rw [← cellsV_take] at hT
  rw [← cellsV_drop] at hD
  have o3 : ∀ r ∈ [(i, cellsV (cells.take i)), (n - (i + 1), cellsV (cells.drop (i + 1)))], ∀ u ∈ r.2, u.oneCell' = true := by
    intro r hr
    simp only [List.mem_cons, List.not_mem_nil, or_false] at hr
    rcases hr with rfl | rfl <;> exact cellsV_one _
  have t3 : total [(i, cellsV (cells.take i)), (n - (i + 1), cellsV (cells.drop (i + 1)))] ≤ 1000000000 := by simp only [total]; omega
  have HL := hide hL
  have HN := hide hn
  have O3 := hide o3
  have T3 := hide t3
  have HLL := hide hLl
  have HPL := hide hpl
  have HIN := hide hin
  obtain ⟨D, hDe⟩ : ∃ D, (if c1 = i + 1 then A1 else A1.map (fun x => x.add ((i + 1) * 2))) = D := ⟨_, rfl⟩
  rw [hDe] at hD
  have k1 : ((w.alloc (.cells #[.slice A1 n c1, v2, .slice A3 0 c3] 26)).alloc (.cells #[.slice none 0 0, .slice none 0 0, .slice none 0 0] 26)).cell? ⟨w.heap.size, 0, none⟩ = some (.slice A1 n c1) := by go_simp
  have kb : BoxK ((w.alloc (.cells #[.slice A1 n c1, v2, .slice A3 0 c3] 26)).alloc (.cells #[.slice none 0 0, .slice none 0 0, .slice none 0 0] 26)) (w.heap.size + 1) (.slice none 0 0) (.slice none 0 0) (.slice none 0 0) := blk_top (by simp)
  have b0 : (0 : Int) ≤ (i : Int) := by omega
  have b1 : (i : Int) ≤ (c1 : Int) := by omega
  have b2 : (i : Int) ≤ (n : Int) := by omega
  have y1 : ((i : Int) + 1).toNat = i + 1 := by omega
  have y2 : (0 : Int) ≤ (i : Int) + 1 := by omega
  have y3 : (i : Int) + 1 ≤ (n : Int) := by omega
  have y4 : (i : Int) + 1 ≤ (c1 : Int) := by omega
  have y5 : IntKind.i64.wrap ((i : Int) + 1) = (i : Int) + 1 := IntWalk.i64_in _ (by omega)
  clear hL hn o3 t3 hLl hi hkn h1 hpl hp hin
  go_enter Try.func28, Try.ntmps28
  go_wp2_with fail
  generalize (w.alloc (.cells #[.slice A1 n c1, v2, .slice A3 0 c3] 26)).alloc (.cells #[.slice none 0 0, .slice none 0 0, .slice none 0 0] 26) = wA at *
  refine HPL.out.mono ?_
  rintro e wP ⟨rfl, hbP⟩
  have q1 := cell_next k1 hbP
  have qb := kb.below hbP
  have hTP := hT.below hbP
  have hDP := hD.below hbP
  have hbP' := hbA.trans (hbP.mono hbA.size)
  have hszP : w.heap.size + 1 < wP.heap.size := (Array.getElem?_eq_some_iff.1 qb).1
  clear hT hD HPL k1 kb hbP hbA
  go_wp2_with fail
  go_region_held3 (fun w' => w'.cell? ⟨w.heap.size, 0, none⟩ = some (.slice A1 n c1))
    (first | ((with_reducible refine cell_set3 (v := .slice A1 n c1) ?_ ?_); (exact cell_next q1 hPC); (simp; done)) | (refine cell_next q1 ?_; (repeat' (first | exact hPC | exact Below.refl _ _ | refine bdr ?_ | refine bal ?_ _)); done))
    (first
      | (go_at_call 35; refine (concat_C _ 2 2 [.slice A1 i c1, .slice D (n - (i + 1)) (c1 - (i + 1))] [(i, cellsV (cells.take i)), (n - (i + 1), cellsV (cells.drop (i + 1)))] (fun _ => True) _ ?_ ?_ (by decide) T3.out O3.out).mono ?_; (refine sl2 ?_ ?_ <;> go_simp); (refine rws2 hTP hDP ?_); (repeat' (first | exact Below.refl _ _ | refine bdr ?_ | refine bal ?_ _)); rintro e wC ⟨vC, rfl, hoC, hbC⟩; have hPC : Below wP.heap.size wP wC := (by refine btr ?_ hbC; (repeat' (first | exact Below.refl _ _ | refine bdr ?_ | refine bal ?_ _))); have hvC := slv_cells2 HL.out HN.out HIN.out (SlV.own (V := fun b => wP.heap.size ≤ b) hoC (by intro b hb'; refine Nat.le_trans (bsz (a := wP) ?_) hb'; (repeat' (first | exact Below.refl _ _ | refine bdr ?_ | refine bal ?_ _)))); clear hoC; obtain ⟨AC, cC, rfl, hcC, hsC⟩ := hvC; have qC := qb.below (w' := wC) hPC; obtain ⟨e1, e2, e3⟩ := qC.cell; have e4 := qC.frozen 0; have e5 := qC.frozen 1; have e6 := qC.frozen 2))
  all_goals go_wp2_with fail
  all_goals
    obtain ⟨r1, r2, r3⟩ := (qC.set (u1 := .slice AC L.length cC) (u2 := .slice none 0 0) (u3 := .slice none 0 0)).cell
    have hbF := below_set3 (u1 := .slice AC L.length cC) (u2 := .slice none 0 0) (u3 := .slice none 0 0) (btr hbP' hPC) (b := w.heap.size + 1) (by omega)
    have hkF : Kn (((wC.setCell ⟨w.heap.size + 1, 0, none⟩ (.slice AC L.length cC)).setCell ⟨w.heap.size + 1, 1, none⟩ (.slice none 0 0)).setCell ⟨w.heap.size + 1, 2, none⟩ (.slice none 0 0)) V 1000 (.slice AC L.length cC) (.slice none 0 0) (.slice none 0 0) (.mk L [] [])  := by
      have hs := hsC.keep (w' := ((wC.setCell ⟨w.heap.size + 1, 0, none⟩ (.slice AC L.length cC)).setCell ⟨w.heap.size + 1, 1, none⟩ (.slice none 0 0)).setCell ⟨w.heap.size + 1, 2, none⟩ (.slice none 0 0)) (by rw [size_set3]; exact Nat.le_refl _) (fun b hb _ => heap_set3 (by have : wP.heap.size ≤ b := hb; omega))
      exact kn_of ⟨AC, cC, rfl, hcC, hs.mono (fun b hb' => hV b (Nat.le_trans hbP'.size hb'))⟩ (slv_nil _ _) (slv_nil _ _) (knL_nil.2 rfl) rfl HLL.out (by omega) (by omega)
    refine bodyPost_ret (v := .agg #[.slice AC L.length cC, .slice none 0 0, .slice none 0 0]) (by simp [results, Try.results28, go_sem, r1, r2, r3]) rfl ⟨⟨_, _, _, rfl, hkF⟩, hbF⟩
end Go.Proofs.Ytkkddnmpehoeoaa
