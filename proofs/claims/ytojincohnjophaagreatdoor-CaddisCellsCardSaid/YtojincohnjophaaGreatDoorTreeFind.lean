/- The walk of layer 20's find. -/
import Derived.Test.YtojincohnjophaaGreatDoorTreeS
/-! The walk of layer 20's both. -/
namespace Go.Proofs.YtojincohnjophaaGreatDoor
open Go.RowKit
open TreeP (Kt Cell kl flat flatL)
set_option linter.unusedVariables false
attribute [local go_sem ↓] Go.wp_at_zero Go.wp_at_succ

theorem blk_top {w : World} {o : Obj} {b : Nat} (h : b = w.heap.size) : (w.alloc o).heap[b]? = some o := by subst h; exact heap_alloc_new w o
theorem blk_under {w : World} {o o' : Obj} {b : Nat} (h : w.heap[b]? = some o) : (w.alloc o').heap[b]? = some o := by
  rw [Below.heap_alloc w o' b (Array.getElem?_eq_some_iff.1 h).1]; exact h
theorem blk_below {w w' : World} {o : Obj} {b : Nat} (h : w.heap[b]? = some o) (hb : Below w.heap.size w w') : w'.heap[b]? = some o := by
  rw [hb.block b (Array.getElem?_eq_some_iff.1 h).1]; exact h
theorem rws3' {w : World} {V1 V2 V3 : Nat → Prop} {size n1 n2 n3 c1 c2 c3 : Nat} {A1 A2 A3 : Option Addr} {x1 x2 x3 : List Value} (h1 : Sl w V1 size A1 n1 x1) (h2 : Sl w V2 size A2 n2 x2) (h3 : Sl w V3 size A3 n3 x3) :
    Rws w size [.slice A1 n1 c1, .slice A2 n2 c2, .slice A3 n3 c3] [(n1, x1), (n2, x2), (n3, x3)] := rws3 h1 h2 h3 (Below.refl _ _)

end Go.Proofs.YtojincohnjophaaGreatDoor

/-! The walk of layer 20's put. -/
namespace Go.Proofs.YtojincohnjophaaGreatDoor
open Go.RowKit
open TreeP (Kt Cell kl flat flatL Inv InvL InB)
set_option linter.unusedVariables false
attribute [local go_sem ↓] Go.wp_at_zero Go.wp_at_succ

theorem keep3 {w w' : World} {a b c : Addr} {x y z : Value} (h : w.cell? a = some x ∧ (w.cell? b = some y ∧ w.cell? c = some z)) (hb : Below w.heap.size w w') : w'.cell? a = some x ∧ (w'.cell? b = some y ∧ w'.cell? c = some z) := ⟨cell_next h.1 hb, keep2 h.2 hb⟩
theorem keep6 {w w' : World} {a b c d e f : Addr} {x y z u v t : Value} (h : (w.cell? a = some x ∧ (w.cell? b = some y ∧ w.cell? c = some z)) ∧ (w.cell? d = some u ∧ (w.cell? e = some v ∧ w.cell? f = some t))) (hb : Below w.heap.size w w') :
    (w'.cell? a = some x ∧ (w'.cell? b = some y ∧ w'.cell? c = some z)) ∧ (w'.cell? d = some u ∧ (w'.cell? e = some v ∧ w'.cell? f = some t)) := ⟨keep3 h.1 hb, keep3 h.2 hb⟩
/-- one cell of a tree, just laid -/
theorem slc {w : World} {b : Nat} {c : Cell} (h0 : w.cell? ⟨b, 0, none⟩ = some (.string c.1)) (h1 : w.cell? ⟨b, 1, none⟩ = some (.string c.2)) : Sl w (fun _ => True) 2 (some ⟨b, 0, none⟩) 1 (cellsV [c]) := by
  refine ⟨rfl, fun _ => ⟨_, rfl, trivial, World.block_lt_of_cell? w _ h0, fun j u hu => ?_⟩⟩
  match j, hu with
  | 0, hu => simp [cellsV] at hu; subst hu; exact h0
  | 1, hu => simp [cellsV] at hu; subst hu; exact h1
theorem swap_at (v1 : Value) (A2 A3 B1 B2 : Option Addr) (c2 c3 d1 d2 i m n nk x y : Nat) (zi zm : Int) (vals nvals : List Value) (kids nkids : List Kt) (keys nkeys : List ByteArray) (w : World) (V : Nat → Prop) (hV : ∀ b, w.heap.size ≤ b → V b) (hzi : zi = i) (hzm : zm = m) (hn : n = kids.length) (hnk : nk = keys.length) (hx : x = nkids.length) (hy : y = nkeys.length)
    (h2 : Sl w V 1 A2 nk (strs keys)) (hc2 : nk ≤ c2) (h3 : Sl w V 3 A3 n vals) (hk : KnL w V 1000 vals kids) (hc3 : n ≤ c3)
    (g1 : Sl w V 3 B1 x nvals) (gk : KnL w V 1000 nvals nkids) (g2 : Sl w V 1 B2 y (strs nkeys))
    (hi : i + m ≤ n) (hm : 1 ≤ m) (hl : nk + 1 = n) (hs : n ≤ 100) (hs1 : x ≤ 100) (hs2 : y ≤ 100) :
    Calls Tryz.prog 47 #[.agg #[v1, .slice A2 nk c2, .slice A3 n c3], .int .i64 zi, .int .i64 zm, .slice B1 x d1, .slice B2 y d2] w
      fun e w' => TwoR w' V 1000 e (kids.take i ++ nkids ++ kids.drop (i + m)) (keys.take i ++ nkeys ++ keys.drop (i + m - 1)) ∧ Below w.heap.size w w' := by
  subst hzi hzm hn hnk hx hy
  exact swap_any v1 A2 A3 B1 B2 c2 c3 d1 d2 i m vals nvals kids nkids keys nkeys w V hV h2 hc2 h3 hk hc3 g1 gk g2 hi hm hl hs hs1 hs2
theorem inners_at (A1 A2 : Option Addr) (c1 c2 n nk : Nat) (vals : List Value) (kids : List Kt) (keys : List ByteArray) (w : World) (V : Nat → Prop) (hV : ∀ b, w.heap.size ≤ b → V b) (hn : n = kids.length) (hnk : nk = keys.length) (h1 : Sl w V 3 A1 n vals) (hk : KnL w V 1000 vals kids) (hc1 : n ≤ c1)
    (h2 : Sl w V 1 A2 nk (strs keys)) (hc2 : nk ≤ c2) (hl : nk + 1 = n) (hb : n ≤ 1000) :
    Calls Tryz.prog 46 #[.slice A1 n c1, .slice A2 nk c2] w fun e w' => TwoR w' V 1000 e (TreeP.innersP kids keys).1 (TreeP.innersP kids keys).2 ∧ Below w.heap.size w w' := by
  subst hn hnk
  exact inners_any A1 A2 c1 c2 vals kids keys w V hV h1 hk hc1 h2 hc2 hl hb
theorem slv_cells {w : World} {V : Nat → Prop} {v : Value} {i d n : Nat} {cells L : List Cell} {c : Cell} (hL : L = cells.take i ++ [c] ++ cells.drop (i + d)) (hn : n = cells.length) (hi : i ≤ n) (hd : i + d ≤ n)
    (h : SlV w V 2 v (total [(i, cellsV (cells.take i)), (1, cellsV [c]), (n - (i + d), cellsV (cells.drop (i + d)))]) (joined [(i, cellsV (cells.take i)), (1, cellsV [c]), (n - (i + d), cellsV (cells.drop (i + d)))])) :
    SlV w V 2 v L.length (cellsV L) := by
  have e1 : L.length = total [(i, cellsV (cells.take i)), (1, cellsV [c]), (n - (i + d), cellsV (cells.drop (i + d)))] := by
    rw [hL]; simp only [List.length_append, List.length_singleton, List.length_take, List.length_drop, total]; omega
  have e2 : cellsV L = joined [(i, cellsV (cells.take i)), (1, cellsV [c]), (n - (i + d), cellsV (cells.drop (i + d)))] := by
    rw [hL, cellsV_append, cellsV_append]; simp [joined]
  rw [e1, e2]; exact h

set_option maxRecDepth 100000 in
set_option maxHeartbeats 3200000 in
theorem put_leaf (v2 : Value) (A1 A3 : Option Addr) (c1 c3 n : Nat) (cells : List Cell) (keys : List ByteArray) (c : Cell) (w : World) (V : Nat → Prop) (hV : ∀ b, w.heap.size ≤ b → V b) (hkn : Kn w V 1000 (.slice A1 n c1) v2 (.slice A3 0 c3) (.mk cells keys []))
    (h1 : Sl w V 2 A1 n (cellsV cells)) (hn : n = cells.length) (hc : n ≤ c1) (h100 : n ≤ 100) :
    Calls Tryz.prog 21 #[.agg #[.slice A1 n c1, v2, .slice A3 0 c3], .agg #[.string c.1, .string c.2]] w
      fun e w' => TwoR w' V 1000 e (TreeP.leavesP (cells.take (TreeP.place cells c.1) ++ [c] ++ cells.drop (TreeP.place cells c.1 + if TreeP.placed cells c.1 then 1 else 0))).1
        (TreeP.leavesP (cells.take (TreeP.place cells c.1) ++ [c] ++ cells.drop (TreeP.place cells c.1 + if TreeP.placed cells c.1 then 1 else 0))).2 ∧ Below w.heap.size w w' := by
  have hbA := ((Below.refl w.heap.size w).alloc (Nat.le_refl _) (.cells #[.slice A1 n c1, v2, .slice A3 0 c3] 29)).alloc (by simp) (.cells #[.string c.1, .string c.2] 36)
  have hpl := place_any _ _ _ _ c.1 _ _ (hkn.below hbA)
  simp only [Kt.cells] at hpl
  have hpn := TreeP.place_le cells c.1
  obtain ⟨i, hi⟩ : ∃ i, i = TreeP.place cells c.1 := ⟨_, rfl⟩
  obtain ⟨d, hd⟩ : ∃ d, d = if TreeP.placed cells c.1 then 1 else 0 := ⟨_, rfl⟩
  have hdi : i + d ≤ n := by
    rw [hd, hi, hn]
    cases hq : TreeP.placed cells c.1 with
    | false => simp; exact hpn
    | true =>
      unfold TreeP.placed at hq
      cases hx : cells[TreeP.place cells c.1]? with
      | none => rw [hx] at hq; cases hq
      | some x => have := (List.getElem?_eq_some_iff.1 hx).1; simp; omega
  rw [← hi, ← hd]
  rw [← hi] at hpl hpn
  obtain ⟨L, hL⟩ : ∃ L, L = cells.take i ++ [c] ++ cells.drop (i + d) := ⟨_, rfl⟩
  rw [← hL]
  have hLl : L.length ≤ 1000 := by rw [hL]; simp only [List.length_append, List.length_singleton, List.length_take, List.length_drop]; omega
  have hin : i ≤ n := by omega
  have hT := ((h1.takeN (m := i) hin).below hbA)
  have hD := ((h1.dropN (k := i + d) hdi hc).below hbA)
  rw [← cellsV_take] at hT
  rw [← cellsV_drop] at hD
  have o3 : ∀ r ∈ [(i, cellsV (cells.take i)), (1, cellsV [c]), (n - (i + d), cellsV (cells.drop (i + d)))], ∀ u ∈ r.2, u.oneCell' = true := by
    intro r hr
    simp only [List.mem_cons, List.not_mem_nil, or_false] at hr
    rcases hr with rfl | rfl | rfl <;> exact cellsV_one _
  have t3 : total [(i, cellsV (cells.take i)), (1, cellsV [c]), (n - (i + d), cellsV (cells.drop (i + d)))] ≤ 1000000000 := by simp only [total]; omega
  have HL := hide hL
  have HN := hide hn
  have O3 := hide o3
  have T3 := hide t3
  have HLL := hide hLl
  have hd1 : d ≤ 1 := by rw [hd]; split <;> omega
  have hq : TreeP.placed cells c.1 = decide (d = 1) := by rw [hd]; cases TreeP.placed cells c.1 <;> rfl
  rw [hq] at hpl
  have HPL := hide hpl
  obtain ⟨D, hDe⟩ : ∃ D, (if c1 = i + d then A1 else A1.map (fun x => x.add ((i + d) * 2))) = D := ⟨_, rfl⟩
  rw [hDe] at hD
  have k1 : ((w.alloc (.cells #[.slice A1 n c1, v2, .slice A3 0 c3] 29)).alloc (.cells #[.string c.1, .string c.2] 36)).cell? ⟨w.heap.size, 0, none⟩ = some (.slice A1 n c1) := by go_simp
  have k3 : ((w.alloc (.cells #[.slice A1 n c1, v2, .slice A3 0 c3] 29)).alloc (.cells #[.string c.1, .string c.2] 36)).cell? ⟨w.heap.size + 1, 0, none⟩ = some (.string c.1) := by go_simp
  have k4 : ((w.alloc (.cells #[.slice A1 n c1, v2, .slice A3 0 c3] 29)).alloc (.cells #[.string c.1, .string c.2] 36)).cell? ⟨w.heap.size + 1, 1, none⟩ = some (.string c.2) := by go_simp
  clear hL hn o3 t3 hLl hq hd hi hkn h1 hpl hpn
  go_enter Tryz.func21, Tryz.ntmps21
  go_wp2_with fail
  generalize (w.alloc (.cells #[.slice A1 n c1, v2, .slice A3 0 c3] 29)).alloc (.cells #[.string c.1, .string c.2] 36) = wA at *
  refine HPL.out.mono ?_
  rintro e wP ⟨rfl, hbP⟩
  have q1 := cell_next k1 hbP
  have q3 := cell_next k3 hbP
  have q4 := cell_next k4 hbP
  have hTP := hT.below hbP
  have hDP := hD.below hbP
  have hbP' := hbA.trans (hbP.mono hbA.size)
  clear hT hD HPL k1 k3 k4 hbP hbA
  have b0 : (0 : Int) ≤ (i : Int) := by omega
  have b1 : (i : Int) ≤ (c1 : Int) := by omega
  have b2 : (i : Int) ≤ (n : Int) := by omega
  have hd2 : d = 0 ∨ d = 1 := by omega
  rcases hd2 with rfl | rfl
  · simp only [Nat.add_zero] at *
    go_wp2_with fail
    go_region_held3 (fun w' => w'.cell? ⟨w.heap.size, 0, none⟩ = some (.slice A1 n c1) ∧ (w'.cell? ⟨w.heap.size + 1, 0, none⟩ = some (.string c.1) ∧ w'.cell? ⟨w.heap.size + 1, 1, none⟩ = some (.string c.2)))
      ((refine keep3 ⟨q1, q3, q4⟩ ?_; (repeat' (first | exact btr hPC hbL | exact hPC | exact Below.refl _ _ | refine bdr ?_ | refine bal ?_ _))))
      (first
        | (go_at_call 44; refine (concat_C _ 3 3 [.slice A1 i c1, .slice (some ⟨wP.heap.size, 0, none⟩) 1 1, .slice D (n - i) (c1 - i)] [(i, cellsV (cells.take i)), (1, cellsV [c]), (n - i, cellsV (cells.drop i))] (fun _ => True) _ ?_ ?_ (by decide) T3.out O3.out).mono ?_; (refine sl3 ?_ ?_ ?_ <;> go_simp); (refine rws3' (hTP.below ?_) (slc ?_ ?_) (hDP.below ?_)); (repeat' (first | exact Below.refl _ _ | refine bdr ?_ | refine bal ?_ _)); (any_goals (focus (go_simp; done))); rintro e wC ⟨vC, rfl, hoC, hbC⟩; have hPC : Below wP.heap.size wP wC := (by refine btr ?_ hbC; (repeat' (first | exact Below.refl _ _ | refine bdr ?_ | refine bal ?_ _))); have hvC := slv_cells (d := 0) HL.out HN.out hin (by omega) (SlV.own (V := V) hoC (by intro b hb'; refine hV b (Nat.le_trans (Nat.le_trans hbP'.size (bsz (a := wP) ?_)) hb'); (repeat' (first | exact Below.refl _ _ | refine bdr ?_ | refine bal ?_ _)))); clear hoC; obtain ⟨AC, cC, rfl, hcC, hsC⟩ := hvC)
        | (go_at_call 43; refine (leaves_any AC cC L V _ hsC (fun b hb' => hV b (Nat.le_trans (btr hbP' hPC).size hb')) hcC HLL.out).mono ?_; rintro e wL ⟨⟨x, y, vs, rfl, r1, r2, r3⟩, hbL⟩))
    all_goals go_wp2_with fail
    all_goals go_ret2
    all_goals exact ⟨⟨x, y, vs, rfl, r1, r2, r3⟩, btr (btr hbP' hPC) hbL⟩
  · have y1 : ((i : Int) + 1).toNat = i + 1 := by omega
    have y2 : (0 : Int) ≤ (i : Int) + 1 := by omega
    have y3 : (i : Int) + 1 ≤ (n : Int) := by omega
    have y4 : (i : Int) + 1 ≤ (c1 : Int) := by omega
    go_wp2_with fail
    go_region_held3 (fun w' => w'.cell? ⟨w.heap.size, 0, none⟩ = some (.slice A1 n c1) ∧ (w'.cell? ⟨w.heap.size + 1, 0, none⟩ = some (.string c.1) ∧ w'.cell? ⟨w.heap.size + 1, 1, none⟩ = some (.string c.2)))
      ((refine keep3 ⟨q1, q3, q4⟩ ?_; (repeat' (first | exact btr hPC hbL | exact hPC | exact Below.refl _ _ | refine bdr ?_ | refine bal ?_ _))))
      (first
        | (go_at_call 44; refine (concat_C _ 3 3 [.slice A1 i c1, .slice (some ⟨wP.heap.size, 0, none⟩) 1 1, .slice D (n - (i + 1)) (c1 - (i + 1))] [(i, cellsV (cells.take i)), (1, cellsV [c]), (n - (i + 1), cellsV (cells.drop (i + 1)))] (fun _ => True) _ ?_ ?_ (by decide) T3.out O3.out).mono ?_; (refine sl3 ?_ ?_ ?_ <;> go_simp); (refine rws3' (hTP.below ?_) (slc ?_ ?_) (hDP.below ?_)); (repeat' (first | exact Below.refl _ _ | refine bdr ?_ | refine bal ?_ _)); (any_goals (focus (go_simp; done))); rintro e wC ⟨vC, rfl, hoC, hbC⟩; have hPC : Below wP.heap.size wP wC := (by refine btr ?_ hbC; (repeat' (first | exact Below.refl _ _ | refine bdr ?_ | refine bal ?_ _))); have hvC := slv_cells (d := 1) HL.out HN.out hin (by omega) (SlV.own (V := V) hoC (by intro b hb'; refine hV b (Nat.le_trans (Nat.le_trans hbP'.size (bsz (a := wP) ?_)) hb'); (repeat' (first | exact Below.refl _ _ | refine bdr ?_ | refine bal ?_ _)))); clear hoC; obtain ⟨AC, cC, rfl, hcC, hsC⟩ := hvC)
        | (go_at_call 43; refine (leaves_any AC cC L V _ hsC (fun b hb' => hV b (Nat.le_trans (btr hbP' hPC).size hb')) hcC HLL.out).mono ?_; rintro e wL ⟨⟨x, y, vs, rfl, r1, r2, r3⟩, hbL⟩))
    all_goals go_wp2_with fail
    all_goals go_ret2
    all_goals exact ⟨⟨x, y, vs, rfl, r1, r2, r3⟩, btr (btr hbP' hPC) hbL⟩

set_option maxRecDepth 100000 in
set_option maxHeartbeats 800000 in
theorem tput_any (c : Cell) (t : Kt) : ∀ (ml mi h : Nat) (lo hi : Option ByteArray) (v1 v2 v3 : Value) (w : World) (V : Nat → Prop), (∀ b, w.heap.size ≤ b → V b) → 1 ≤ mi → Inv ml mi h lo hi t → InB lo hi c → Kn w V 1000 v1 v2 v3 t →
    Calls Tryz.prog 21 #[.agg #[v1, v2, v3], .agg #[.string c.1, .string c.2]] w fun e w' => TwoR w' V 1000 e (TreeP.putP c t).1 (TreeP.putP c t).2 ∧ Below w.heap.size w w' := by
  refine TreeP.ind (P := fun t => ∀ (ml mi h : Nat) (lo hi : Option ByteArray) (v1 v2 v3 : Value) (w : World) (V : Nat → Prop), (∀ b, w.heap.size ≤ b → V b) → 1 ≤ mi → Inv ml mi h lo hi t → InB lo hi c → Kn w V 1000 v1 v2 v3 t →
    Calls Tryz.prog 21 #[.agg #[v1, v2, v3], .agg #[.string c.1, .string c.2]] w fun e w' => TwoR w' V 1000 e (TreeP.putP c t).1 (TreeP.putP c t).2 ∧ Below w.heap.size w w') ?_ t
  intro cells keys kids ih ml mi h lo hi v1 v2 v3 w V hV hm H hc hkn
  cases kids with
  | nil =>
    obtain ⟨rfl, rfl, h1, h2, h3, h4⟩ := TreeP.inv_leaf H hm
    rw [TreeP.putP]
    simp only [List.isEmpty_nil, if_true]
    obtain ⟨⟨A1, c1, rfl, g1, _, s1⟩, ⟨A2, c2, rfl, g2, _, s2⟩, A3, c3, vals, rfl, g3, _, s3, k3⟩ := kn_mk.1 hkn
    exact put_leaf _ A1 A3 c1 c3 cells.length cells [] c w V hV hkn s1 rfl g1 (by omega)
  | cons kid kids =>
    obtain ⟨rfl, h1, h2, h3, h4⟩ := TreeP.inv_inner H
    have hkl := TreeP.invL_len h4
    obtain ⟨m, m', k, x1, x0, x2, x3, x4, x5⟩ := TreeP.split h4 hc
    have hk : k ∈ kid :: kids := List.mem_of_getElem? x1
    have hput := TreeP.put_ok (by omega) x3 x5
    obtain ⟨z1, z2, z3⟩ := TreeP.putOk_two hput.1
    have hgl := TreeP.invL_len (TreeP.glue x2 z1 x4)
    have zl := TreeP.invL_len z1
    rw [TreeP.putP]
    simp only [List.isEmpty_cons, Bool.false_eq_true, if_false]
    rw [TreeP.putAt_get x1]
    have IH := hide (fun w v1 v2 v3 hv => ih k hk 2 2 (h - 1) m m' v1 v2 v3 w V hv (by omega) x3 x5)
    have hbA := ((Below.refl w.heap.size w).alloc (Nat.le_refl _) (.cells #[v1, v2, v3] 29)).alloc (by simp) (.cells #[.string c.1, .string c.2] 36)
    have hwy := way_any _ _ _ _ c.1 _ _ (hkn.below hbA)
    simp only [Kt.keys] at hwy
    have hwn := TreeP.way_le keys c.1
    obtain ⟨⟨A1, c1, rfl, _, _, s1⟩, ⟨A2, c2, rfl, g2, _, s2⟩, A3, c3, vals, rfl, g3, _, s3, k3⟩ := kn_mk.1 hkn
    clear hkn ih H hm h4 hk x0 x2 x3 x4 hput z1 x5 hc
    generalize kid :: kids = kds at *
    generalize TreeP.way keys c.1 = i at *
    generalize TreeP.putP c k = r at *
    obtain ⟨ks, kys⟩ := r
    simp only [] at *
    obtain ⟨L, hL⟩ : ∃ L, L = kds.take i ++ ks ++ kds.drop (i + 1) := ⟨_, rfl⟩
    obtain ⟨K, hK⟩ : ∃ K, K = keys.take i ++ kys ++ keys.drop i := ⟨_, rfl⟩
    rw [← hL, ← hK] at hgl ⊢
    have hil : i < kds.length := (List.getElem?_eq_some_iff.1 x1).1
    have hLl : L.length ≤ 1000 := by rw [hL]; simp only [List.length_append, List.length_take, List.length_drop]; omega
    have e4 : kds.length ≤ 4 := h2
    obtain ⟨n, hn⟩ : ∃ n, n = kds.length := ⟨_, rfl⟩
    obtain ⟨nk, hnk⟩ : ∃ nk, nk = keys.length := ⟨_, rfl⟩
    rw [← hn] at s3 hil e4 g3 hkl h1 ⊢
    rw [← hnk] at s2 g2 hkl hwn ⊢
    rw [← hn, ← hnk] at hwy hbA
    simp only [List.length_nil] at hwy hbA ⊢
    obtain ⟨ad, w1, w2, w3, e, f1, f2, f3, f4⟩ := kid_at (s3.below hbA) (k3.below hbA) x1
    subst e
    have HX := hide x1
    have HL := hide hL
    have HK := hide hK
    have HN := hide hn
    have HNK := hide hnk
    have HLl := hide hLl
    have HGL := hide hgl
    have HKL := hide hkl
    have HZL := hide zl
    have hne : ((n : Int) == 0) = false := by simp only [beq_eq_false_iff_ne, ne_eq]; omega
    have b0 : (0 : Int) ≤ (i : Int) := by omega
    have b1 : (i : Int) < (n : Int) := by omega
    clear x1 hL hK hn hnk hLl hgl hkl zl h1 h2
    have k1 : ((w.alloc (.cells #[.slice A1 0 c1, .slice A2 nk c2, .slice (some ad) n c3] 29)).alloc (.cells #[.string c.1, .string c.2] 36)).cell? ⟨w.heap.size, 0, none⟩ = some (.slice A1 0 c1) := by go_simp
    have k2 : ((w.alloc (.cells #[.slice A1 0 c1, .slice A2 nk c2, .slice (some ad) n c3] 29)).alloc (.cells #[.string c.1, .string c.2] 36)).cell? ⟨w.heap.size, 1, none⟩ = some (.slice A2 nk c2) := by go_simp
    have k4 : ((w.alloc (.cells #[.slice A1 0 c1, .slice A2 nk c2, .slice (some ad) n c3] 29)).alloc (.cells #[.string c.1, .string c.2] 36)).cell? ⟨w.heap.size, 2, none⟩ = some (.slice (some ad) n c3) := by go_simp
    have k5 : ((w.alloc (.cells #[.slice A1 0 c1, .slice A2 nk c2, .slice (some ad) n c3] 29)).alloc (.cells #[.string c.1, .string c.2] 36)).cell? ⟨w.heap.size + 1, 0, none⟩ = some (.string c.1) := by go_simp
    have k6 : ((w.alloc (.cells #[.slice A1 0 c1, .slice A2 nk c2, .slice (some ad) n c3] 29)).alloc (.cells #[.string c.1, .string c.2] 36)).cell? ⟨w.heap.size + 1, 1, none⟩ = some (.string c.2) := by go_simp
    have s2A := s2.below hbA
    have s3A := s3.below hbA
    have k3A := k3.below hbA
    clear s1 s2 s3 k3
    go_enter Tryz.func21, Tryz.ntmps21
    go_wp2_with fail
    generalize (w.alloc (.cells #[.slice A1 0 c1, .slice A2 nk c2, .slice (some ad) n c3] 29)).alloc (.cells #[.string c.1, .string c.2] 36) = wA at *
    refine hwy.mono ?_
    rintro e wW ⟨rfl, hbW⟩
    have q1 := cell_next k1 hbW
    have q2 := cell_next k2 hbW
    have q4 := cell_next k4 hbW
    have q5 := cell_next k5 hbW
    have q6 := cell_next k6 hbW
    have p1 := cell_next f1 hbW
    have p2 := cell_next f2 hbW
    have p3 := cell_next f3 hbW
    have f4' := f4.below hbW
    have hbW' := hbA.trans (hbW.mono hbA.size)
    have s2W := s2A.below hbW
    have s3W := s3A.below hbW
    have k3W := k3A.below hbW
    clear k1 k2 k4 k5 k6 f1 f2 f3 f4 hwy hbW hbA s2A s3A k3A
    have S : (wW.cell? ⟨w.heap.size, 2, none⟩ = some (.slice (some ad) n c3) ∧ (wW.cell? ⟨w.heap.size + 1, 0, none⟩ = some (.string c.1) ∧ wW.cell? ⟨w.heap.size + 1, 1, none⟩ = some (.string c.2))) ∧ (wW.cell? (ad.add (i * 3)) = some w1 ∧ (wW.cell? ⟨(ad.add (i * 3)).block, (ad.add (i * 3)).off + 1, none⟩ = some w2 ∧ wW.cell? ⟨(ad.add (i * 3)).block, (ad.add (i * 3)).off + 2, none⟩ = some w3)) := ⟨⟨q4, q5, q6⟩, p1, p2, p3⟩
    go_wp2_with fail
    go_region_held3 (fun w' => (w'.cell? ⟨w.heap.size, 2, none⟩ = some (.slice (some ad) n c3) ∧ (w'.cell? ⟨w.heap.size + 1, 0, none⟩ = some (.string c.1) ∧ w'.cell? ⟨w.heap.size + 1, 1, none⟩ = some (.string c.2))) ∧ (w'.cell? (ad.add (i * 3)) = some w1 ∧ (w'.cell? ⟨(ad.add (i * 3)).block, (ad.add (i * 3)).off + 1, none⟩ = some w2 ∧ w'.cell? ⟨(ad.add (i * 3)).block, (ad.add (i * 3)).off + 2, none⟩ = some w3)))
      ((refine keep6 S ?_; (repeat' (first | exact hWP | exact Below.refl _ _ | refine bdr ?_ | refine bal ?_ _))))
      (first
        | (go_at_call 21; refine (IH.out wW.drew w1 w2 w3 (fun b hb' => hV b (Nat.le_trans hbW'.size hb')) f4'.drew).mono ?_; rintro e wP ⟨⟨x, y, vs, rfl, r1, r2, r3⟩, hbP⟩; have hWP : Below wW.heap.size wW wP := (btr (bdr (Below.refl _ _)) hbP)))
    all_goals obtain ⟨AX, cX, rfl, gX, sX⟩ := r1
    all_goals obtain ⟨AY, cY, rfl, gY, sY⟩ := r3
    all_goals have q1' := cell_next q1 hWP
    all_goals have q2' := cell_next q2 hWP
    all_goals have q4' := cell_next q4 hWP
    all_goals have s2P := s2W.below hWP
    all_goals have s3P := s3W.below hWP
    all_goals have k3P := k3W.below hWP
    all_goals clear q1 q2 q4 q5 q6 p1 p2 p3 S s2W s3W k3W f4' IH
    all_goals generalize hnx : ks.length = nx at *
    all_goals generalize hny : kys.length = ny at *
    all_goals have HNX := hide hnx
    all_goals have HNY := hide hny
    all_goals have hi1 : i + 1 ≤ n := by omega
    all_goals have hny2 : ny ≤ 100 := by have := HZL.out; omega
    all_goals have hnx2 : nx ≤ 100 := by omega
    all_goals have hn2 : n ≤ 100 := by omega
    all_goals clear hnx hny
    all_goals go_wp2_with fail
    all_goals refine (swap_at _ A2 (some ad) AX AY c2 c3 cX cY i 1 n nk nx ny _ _ vals vs kds ks keys kys _ V (fun b hb' => hV b (Nat.le_trans (btr hbW' hWP).size hb')) rfl rfl HN.out HNK.out HNX.out.symm HNY.out.symm s2P g2 s3P k3P g3 sX r2 sY hi1 (Nat.le_refl _) HKL.out hn2 hnx2 hny2).mono ?_
    all_goals rintro e wS ⟨⟨x, y, us, rfl, t1, t2, t3⟩, hbS⟩
    all_goals simp only [Nat.add_sub_cancel] at t1 t2 t3
    all_goals rw [← HL.out] at t1 t2
    all_goals rw [← HK.out] at t3
    all_goals obtain ⟨AS, cS, rfl, gS, sS⟩ := t1
    all_goals obtain ⟨AU, cU, rfl, gU, sU⟩ := t3
    all_goals generalize hnl : L.length = nl at *
    all_goals generalize hnu : K.length = nu at *
    all_goals have HNL := hide hnl
    all_goals have HNU := hide hnu
    all_goals clear hnl hnu
    all_goals go_wp2_with fail
    all_goals refine (inners_at AS AU cS cU nl nu us L K _ V (fun b hb' => hV b (Nat.le_trans (btr (btr hbW' hWP) hbS).size hb')) HNL.out.symm HNU.out.symm sS t2 gS sU gU HGL.out HLl.out).mono ?_
    all_goals rintro e wI ⟨⟨x, y, us', rfl, u1, u2, u3⟩, hbI⟩
    all_goals go_wp2_with fail
    all_goals go_ret2
    all_goals exact ⟨⟨x, y, us', rfl, u1, u2, u3⟩, btr (btr (btr hbW' hWP) hbS) hbI⟩
end Go.Proofs.YtojincohnjophaaGreatDoor

/-! The walk of layer 20's find. -/
namespace Go.Proofs.YtojincohnjophaaGreatDoor
open Go.RowKit
open TreeP (Kt Cell kl flat flatL Inv InvL InB)
set_option linter.unusedVariables false
attribute [local go_sem ↓] Go.wp_at_zero Go.wp_at_succ

/-- a box that holds a knot -/
def BoxK (w : World) (b : Nat) (v1 v2 v3 : Value) : Prop := w.heap[b]? = some (.cells #[v1, v2, v3] 29 (0, 0))
theorem BoxK.cell {w : World} {b : Nat} {v1 v2 v3 : Value} (h : BoxK w b v1 v2 v3) : w.cell? ⟨b, 0, none⟩ = some v1 ∧ w.cell? ⟨b, 1, none⟩ = some v2 ∧ w.cell? ⟨b, 2, none⟩ = some v3 := by
  unfold BoxK at h
  refine ⟨?_, ?_, ?_⟩ <;> simp [World.cell?, h]
theorem BoxK.frozen {w : World} {b : Nat} {v1 v2 v3 : Value} (h : BoxK w b v1 v2 v3) (i : Nat) : w.frozen? ⟨b, i, none⟩ = false := by
  unfold BoxK at h
  simp [World.frozen?, h]
theorem BoxK.new (w : World) (v1 v2 v3 : Value) : BoxK (w.alloc (.cells #[v1, v2, v3] 29)) w.heap.size v1 v2 v3 := heap_alloc_new w _
theorem BoxK.below {w w' : World} {b : Nat} {v1 v2 v3 : Value} (h : BoxK w b v1 v2 v3) (hb : Below w.heap.size w w') : BoxK w' b v1 v2 v3 := blk_below h hb

theorem kn_shape {w : World} {V : Nat → Prop} {B : Nat} {a b c : Value} {t : Kt} (h : Kn w V B a b c t) : ∃ A1 n1 c1 A2 n2 c2 A3 n3 c3, a = .slice A1 n1 c1 ∧ b = .slice A2 n2 c2 ∧ c = .slice A3 n3 c3 := by
  obtain ⟨cells, keys, kids⟩ := t
  obtain ⟨⟨A1, c1, rfl, _⟩, ⟨A2, c2, rfl, _⟩, A3, c3, vals, rfl, _⟩ := kn_mk.1 h
  exact ⟨_, _, _, _, _, _, _, _, _, rfl, rfl, rfl⟩
theorem BoxK.set {w : World} {b : Nat} {v1 v2 v3 u1 u2 u3 : Value} (h : BoxK w b v1 v2 v3) : BoxK (((w.setCell ⟨b, 0, none⟩ u1).setCell ⟨b, 1, none⟩ u2).setCell ⟨b, 2, none⟩ u3) b u1 u2 u3 := by
  unfold BoxK at *
  have hlt : b < w.heap.size := (Array.getElem?_eq_some_iff.1 h).1
  have h' : w.heap[b] = .cells #[v1, v2, v3] 29 (0, 0) := (Array.getElem?_eq_some_iff.1 h).2
  simp [World.setCell, Array.getElem?_modify, h]

end Go.Proofs.YtojincohnjophaaGreatDoor
