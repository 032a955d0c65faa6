/- The walk of layer 20's both. -/
import Derived.Test.YtkkddnmpehoeoaaTreeS
namespace Go.Proofs.Ytkkddnmpehoeoaa
open Go.RowKit
open TreeP (Kt Cell kl flat flatL)
set_option linter.unusedVariables false
attribute [local go_sem ↓] Go.wp_at_zero Go.wp_at_succ

theorem keep4 {w w' : World} {a b c d : Addr} {x y z u : Value} (h : (w.cell? a = some x ∧ w.cell? b = some y) ∧ (w.cell? c = some z ∧ w.cell? d = some u)) (hb : Below w.heap.size w w') : (w'.cell? a = some x ∧ w'.cell? b = some y) ∧ (w'.cell? c = some z ∧ w'.cell? d = some u) := ⟨keep2 h.1 hb, keep2 h.2 hb⟩
theorem keep4n {w : World} {a b c d : Addr} {x y z u : Value} {o : Obj} (h : (w.cell? a = some x ∧ w.cell? b = some y) ∧ (w.cell? c = some z ∧ w.cell? d = some u)) : ((w.alloc o).cell? a = some x ∧ (w.alloc o).cell? b = some y) ∧ ((w.alloc o).cell? c = some z ∧ (w.alloc o).cell? d = some u) := keep4 h ((Below.refl _ _).alloc (Nat.le_refl _) o)
theorem keep4d {w : World} {a b c d : Addr} {x y z u : Value} {o : Obj} (h : (w.drew.cell? a = some x ∧ w.drew.cell? b = some y) ∧ (w.drew.cell? c = some z ∧ w.drew.cell? d = some u)) : ((w.alloc o).drew.cell? a = some x ∧ (w.alloc o).drew.cell? b = some y) ∧ ((w.alloc o).drew.cell? c = some z ∧ (w.alloc o).drew.cell? d = some u) := keep4n (w := w) h
theorem blk_top {w : World} {o : Obj} {b : Nat} (h : b = w.heap.size) : (w.alloc o).heap[b]? = some o := by subst h; exact heap_alloc_new w o
theorem blk_under {w : World} {o o' : Obj} {b : Nat} (h : w.heap[b]? = some o) : (w.alloc o').heap[b]? = some o := by
  rw [Below.heap_alloc w o' b (Array.getElem?_eq_some_iff.1 h).1]; exact h
theorem blk_drew {w : World} {o : Obj} {b : Nat} (h : w.heap[b]? = some o) : w.drew.heap[b]? = some o := h
theorem blk_below {w w' : World} {o : Obj} {b : Nat} (h : w.heap[b]? = some o) (hb : Below w.heap.size w w') : w'.heap[b]? = some o := by
  rw [hb.block b (Array.getElem?_eq_some_iff.1 h).1]; exact h
theorem sl_blk {w : World} {b size n : Nat} {cs : Array Value} {e : TypeId} {fr : Nat × Nat} (h : w.heap[b]? = some (.cells cs e fr)) (hs : cs.size = n * size) : Sl w (fun _ => True) size (some ⟨b, 0, none⟩) n cs.toList := by
  refine ⟨by simpa using hs, fun _ => ⟨_, rfl, trivial, (Array.getElem?_eq_some_iff.1 h).1, fun j u hu => ?_⟩⟩
  rw [show (⟨b, 0, none⟩ : Addr).add j = ⟨b, 0 + j, none⟩ from Addr.add_lit b 0 j]
  unfold World.cell?
  simp only [h, Nat.zero_add]
  simpa using hu
theorem cell_up {w : World} {a : Addr} {v : Value} {o : Obj} (h : w.cell? a = some v) : (w.alloc o).cell? a = some v := cell_next h ((Below.refl _ _).alloc (Nat.le_refl _) o)
theorem sl1 {w : World} {b : Nat} {x : Value} (h0 : w.cell? ⟨b, 0, none⟩ = some x) : Sl w (fun _ => True) 1 (some ⟨b, 0, none⟩) 1 [x] := by
  refine ⟨rfl, fun _ => ⟨_, rfl, trivial, World.block_lt_of_cell? w _ h0, fun j u hu => ?_⟩⟩
  match j, hu with
  | 0, hu => simp at hu; subst hu; exact h0
theorem rws3' {w : World} {V1 V2 V3 : Nat → Prop} {size n1 n2 n3 c1 c2 c3 : Nat} {A1 A2 A3 : Option Addr} {x1 x2 x3 : List Value} (h1 : Sl w V1 size A1 n1 x1) (h2 : Sl w V2 size A2 n2 x2) (h3 : Sl w V3 size A3 n3 x3) :
    Rws w size [.slice A1 n1 c1, .slice A2 n2 c2, .slice A3 n3 c3] [(n1, x1), (n2, x2), (n3, x3)] := rws3 h1 h2 h3 (Below.refl _ _)

set_option maxRecDepth 100000 in
set_option maxHeartbeats 1600000 in
theorem both_leaf (a1 a2 b1 b2 b3 : Value) (A B : Option Addr) (ca cb c3 : Nat) (A3 : Option Addr) (la lb : List Cell) (key : ByteArray) (w : World) (V : Nat → Prop) (hV : ∀ b, w.heap.size ≤ b → V b) (h1 : Sl w V 2 A la.length (cellsV la)) (h2 : Sl w V 2 B lb.length (cellsV lb))
    (hla : la.length ≤ 100) (hlb : lb.length ≤ 100) :
    Calls Try.prog 39 #[.agg #[.slice A la.length ca, a2, .slice A3 0 c3], .string key, .agg #[.slice B lb.length cb, b2, b3]] w
      fun e w' => TwoR w' V 1000 e (TreeP.leavesP (la ++ lb)).1 (TreeP.leavesP (la ++ lb)).2 ∧ Below w.heap.size w w' := by
  have o2 : ∀ r ∈ [(la.length, cellsV la), (lb.length, cellsV lb)], ∀ u ∈ r.2, u.oneCell' = true := by
    intro r hr
    simp only [List.mem_cons, List.not_mem_nil, or_false] at hr
    rcases hr with rfl | rfl
    · exact cellsV_one la
    · exact cellsV_one lb
  obtain ⟨L, hL⟩ : ∃ L, L = la ++ lb := ⟨_, rfl⟩
  rw [← hL]
  have hlen : L.length ≤ 1000 := by rw [hL, List.length_append]; omega
  have HL := hide hL
  have O2 := hide o2
  have ht : total [(la.length, cellsV la), (lb.length, cellsV lb)] ≤ 1000000000 := by simp only [total]; omega
  clear o2 hL
  go_enter Try.func39, Try.ntmps39
  go_wp2_with fail
  refine (concat_C _ 2 2 [.slice A la.length ca, .slice B lb.length cb] [(la.length, cellsV la), (lb.length, cellsV lb)] (fun _ => True) _ ?_ ?_ (by decide) ht O2.out).mono ?_
  · refine sl2 ?_ ?_ <;> go_simp
  · refine rws2 h1 h2 ?_
    repeat' (first | exact Below.refl _ _ | refine bdr ?_ | refine bal ?_ _)
  rintro e w1 ⟨v1, rfl, ho1, hb1⟩
  have hv1 : SlV w1 V 2 v1 L.length (cellsV L) := by
    have := SlV.own (V := V) ho1 (fun b hb' => hV b (Nat.le_trans (bsz (a := w) (by repeat' (first | exact Below.refl _ _ | refine bdr ?_ | refine bal ?_ _))) hb'))
    rw [HL.out, cellsV_append]
    simpa [total, joined] using this
  have hb2 : Below w.heap.size w w1 := by
    refine btr ?_ hb1
    repeat' (first | exact Below.refl _ _ | refine bdr ?_ | refine bal ?_ _)
  obtain ⟨A1, c1, rfl, hc1, hs1⟩ := hv1
  clear ho1 hb1 h1 h2 O2
  go_wp2_with fail
  refine (leaves_any A1 c1 L V _ hs1 (fun b hb' => hV b (Nat.le_trans hb2.size hb')) hc1 hlen).mono ?_
  rintro e w2 ⟨⟨x, y, vs, rfl, q1, q2, q3⟩, hb3⟩
  go_wp2_with fail
  go_ret2
  exact ⟨⟨x, y, vs, rfl, q1, q2, q3⟩, btr hb2 hb3⟩

theorem slv_keys {w : World} {V : Nat → Prop} {v : Value} {ka kb K : List ByteArray} {key : ByteArray} (hK : K = ka ++ [key] ++ kb) (h : SlV w V 1 v (total [(ka.length, strs ka), (1, [.string key]), (kb.length, strs kb)]) (joined [(ka.length, strs ka), (1, [.string key]), (kb.length, strs kb)])) :
    SlV w V 1 v K.length (strs K) := by
  have e1 : K.length = total [(ka.length, strs ka), (1, [.string key]), (kb.length, strs kb)] := by
    rw [hK]; simp only [List.length_append, List.length_singleton, total]; omega
  have e2 : strs K = joined [(ka.length, strs ka), (1, [.string key]), (kb.length, strs kb)] := by
    rw [hK]; simp [joined, strs]
  rw [e1, e2]; exact h
theorem slv_kids {w : World} {V : Nat → Prop} {v : Value} {la lb L : List Kt} {va vb VV : List Value} (hL : L = la ++ lb) (hV : VV = va ++ vb) (h : SlV w V 3 v (total [(la.length, va), (lb.length, vb)]) (joined [(la.length, va), (lb.length, vb)])) :
    SlV w V 3 v L.length VV := by
  have e1 : L.length = total [(la.length, va), (lb.length, vb)] := by
    rw [hL]; simp only [List.length_append, total]; omega
  have e2 : VV = joined [(la.length, va), (lb.length, vb)] := by
    rw [hV]; simp [joined]
  rw [e1, e2]; exact h

set_option maxRecDepth 100000 in
set_option maxHeartbeats 6400000 in
theorem both_inner (a1 b1 : Value) (A2 A3 B2 B3 : Option Addr) (ca2 ca3 cb2 cb3 : Nat) (va vb : List Value) (la lb : List Kt) (ka kb : List ByteArray) (key : ByteArray) (w : World) (V : Nat → Prop) (hV : ∀ b, w.heap.size ≤ b → V b)
    (h2 : Sl w V 1 A2 ka.length (strs ka)) (h3 : Sl w V 3 A3 la.length va) (hka : KnL w V 1000 va la)
    (g2 : Sl w V 1 B2 kb.length (strs kb)) (g3 : Sl w V 3 B3 lb.length vb) (hkb : KnL w V 1000 vb lb)
    (hla : la.length ≤ 100) (hlb : lb.length ≤ 100) (l1 : ka.length + 1 = la.length) (l2 : kb.length + 1 = lb.length) :
    Calls Try.prog 39 #[.agg #[a1, .slice A2 ka.length ca2, .slice A3 la.length ca3], .string key, .agg #[b1, .slice B2 kb.length cb2, .slice B3 lb.length cb3]] w
      fun e w' => TwoR w' V 1000 e (TreeP.innersP (la ++ lb) (ka ++ [key] ++ kb)).1 (TreeP.innersP (la ++ lb) (ka ++ [key] ++ kb)).2 ∧ Below w.heap.size w w' := by
  have hpos : 0 < la.length := by omega
  have hne : ((la.length : Int) == 0) = false := by simp only [beq_eq_false_iff_ne, ne_eq]; omega
  have o3 : ∀ r ∈ [(la.length, va), (lb.length, vb)], ∀ u ∈ r.2, u.oneCell' = true := by
    intro r hr
    simp only [List.mem_cons, List.not_mem_nil, or_false] at hr
    rcases hr with rfl | rfl
    · exact knL_one' hka
    · exact knL_one' hkb
  have o2 : ∀ r ∈ [(ka.length, strs ka), (1, [.string key]), (kb.length, strs kb)], ∀ u ∈ r.2, u.oneCell' = true := by
    intro r hr
    simp only [List.mem_cons, List.not_mem_nil, or_false] at hr
    rcases hr with rfl | rfl | rfl
    · exact strs_one ka
    · exact strs_one [key]
    · exact strs_one kb
  have O3 := hide o3
  have O2 := hide o2
  obtain ⟨L, hL⟩ : ∃ L, L = la ++ lb := ⟨_, rfl⟩
  obtain ⟨K, hK⟩ : ∃ K, K = ka ++ [key] ++ kb := ⟨_, rfl⟩
  obtain ⟨VV, hVV⟩ : ∃ VV, VV = va ++ vb := ⟨_, rfl⟩
  rw [← hL, ← hK]
  have hlen1 : (la ++ lb).length ≤ 1000 := by rw [List.length_append]; omega
  have hlen2 : (ka ++ [key] ++ kb).length + 1 = (la ++ lb).length := by simp only [List.length_append, List.length_singleton]; omega
  rw [← hL] at hlen1 hlen2
  rw [← hK] at hlen2
  have HLL := hide hL
  have HKK := hide hK
  have HVV := hide hVV
  have HL1 := hide hlen1
  have HL2 := hide hlen2
  have L1 := hide l1
  have L2 := hide l2
  have t3 : total [(la.length, va), (lb.length, vb)] ≤ 1000000000 := by simp only [total]; omega
  have t2 : total [(ka.length, strs ka), (1, [.string key]), (kb.length, strs kb)] ≤ 1000000000 := by simp only [total]; omega
  have hbA := ((Below.refl w.heap.size w).alloc (Nat.le_refl _) (.cells #[a1, .slice A2 ka.length ca2, .slice A3 la.length ca3] 26)).alloc (by simp) (.cells #[b1, .slice B2 kb.length cb2, .slice B3 lb.length cb3] 26)
  have k1 : ((w.alloc (.cells #[a1, .slice A2 ka.length ca2, .slice A3 la.length ca3] 26)).alloc (.cells #[b1, .slice B2 kb.length cb2, .slice B3 lb.length cb3] 26)).cell? ⟨w.heap.size, 1, none⟩ = some (.slice A2 ka.length ca2) := by go_simp
  have k2 : ((w.alloc (.cells #[a1, .slice A2 ka.length ca2, .slice A3 la.length ca3] 26)).alloc (.cells #[b1, .slice B2 kb.length cb2, .slice B3 lb.length cb3] 26)).cell? ⟨w.heap.size, 2, none⟩ = some (.slice A3 la.length ca3) := by go_simp
  have k3 : ((w.alloc (.cells #[a1, .slice A2 ka.length ca2, .slice A3 la.length ca3] 26)).alloc (.cells #[b1, .slice B2 kb.length cb2, .slice B3 lb.length cb3] 26)).cell? ⟨w.heap.size + 1, 1, none⟩ = some (.slice B2 kb.length cb2) := by go_simp
  have k4 : ((w.alloc (.cells #[a1, .slice A2 ka.length ca2, .slice A3 la.length ca3] 26)).alloc (.cells #[b1, .slice B2 kb.length cb2, .slice B3 lb.length cb3] 26)).cell? ⟨w.heap.size + 1, 2, none⟩ = some (.slice B3 lb.length cb3) := by go_simp
  have k0 : w.heap.size + 1 < ((w.alloc (.cells #[a1, .slice A2 ka.length ca2, .slice A3 la.length ca3] 26)).alloc (.cells #[b1, .slice B2 kb.length cb2, .slice B3 lb.length cb3] 26)).heap.size := by simp
  have h2' := h2.below hbA
  have h3' := h3.below hbA
  have g2' := g2.below hbA
  have g3' := g3.below hbA
  have hka' := hka.below hbA
  have hkb' := hkb.below hbA
  have kAB : ∀ w', Below _ _ w' → KnL w' V 1000 VV L := fun w' hb => by rw [hVV, hL]; exact knL_append (hka'.below hb) (hkb'.below hb)
  clear h2 h3 hka g2 g3 hkb o2 o3 l1 l2 hlen1 hlen2 hL hK hVV hpos
  go_enter Try.func39, Try.ntmps39
  go_wp2_with fail
  generalize (w.alloc (.cells #[a1, .slice A2 ka.length ca2, .slice A3 la.length ca3] 26)).alloc (.cells #[b1, .slice B2 kb.length cb2, .slice B3 lb.length cb3] 26) = wA at *
  have k0' : w.heap.size < wA.heap.size := by omega
  go_region_held3 (fun w' => (w'.cell? ⟨w.heap.size, 1, none⟩ = some (.slice A2 ka.length ca2) ∧ w'.cell? ⟨w.heap.size, 2, none⟩ = some (.slice A3 la.length ca3)) ∧ (w'.cell? ⟨w.heap.size + 1, 1, none⟩ = some (.slice B2 kb.length cb2) ∧ w'.cell? ⟨w.heap.size + 1, 2, none⟩ = some (.slice B3 lb.length cb3)))
    ((refine keep4 ⟨⟨k1, k2⟩, k3, k4⟩ ?_; (repeat' (first | exact btr (btr hAK hKS) hb4 | exact btr hAK hKS | exact hAK | exact Below.refl _ _ | refine bdr ?_ | refine bal ?_ _))))
    (first
      | (go_at_call 49; refine (concat_K _ 2 2 [.slice A3 la.length ca3, .slice B3 lb.length cb3] [(la.length, va), (lb.length, vb)] (fun _ => True) _ ?_ ?_ (by decide) t3 O3.out).mono ?_; (refine sl2 ?_ ?_ <;> go_simp); (refine rws2 h3' g3' ?_; (repeat' (first | exact Below.refl _ _ | refine bdr ?_ | refine bal ?_ _))); rintro e wK ⟨vK, rfl, hoK, hbK⟩; have hAK : Below wA.heap.size wA wK := (by refine btr ?_ hbK; (repeat' (first | exact Below.refl _ _ | refine bdr ?_ | refine bal ?_ _))); have hvK := slv_kids HLL.out HVV.out (SlV.own (V := V) hoK (by intro b hb'; refine hV b (Nat.le_trans (Nat.le_trans hbA.size (bsz (a := wA) ?_)) hb'); (repeat' (first | exact Below.refl _ _ | refine bdr ?_ | refine bal ?_ _)))); clear hoK; obtain ⟨AK, cK, rfl, hcK, hsK⟩ := hvK)
      | (go_at_call 50; (first | (refine (concat_S _ 3 3 [.slice A2 ka.length ca2, .slice (some ⟨wK.heap.size, 0, none⟩) 1 1, .slice B2 kb.length cb2] [(ka.length, strs ka), (1, [.string key]), (kb.length, strs kb)] (fun _ => True) _ ?_ ?_ (by decide) t2 O2.out).mono ?_; (refine sl3 ?_ ?_ ?_ <;> (first | (focus (go_simp; done)) | (refine cell_next ?_ hbK; focus (go_simp; done)) | (refine cell_up ?_; refine cell_next ?_ hbK; focus (go_simp; done)))); (refine rws3' (h2'.below ?_) (sl1 ?_) (g2'.below ?_)); (repeat' (first | exact hAK | exact Below.refl _ _ | refine bdr ?_ | refine bal ?_ _)); (first | (focus (go_simp; done)) | (refine cell_next ?_ hbK; focus (go_simp; done)) | (refine cell_up ?_; refine cell_next ?_ hbK; focus (go_simp; done))); (repeat' (first | exact hAK | exact Below.refl _ _ | refine bdr ?_ | refine bal ?_ _))) | (refine (concat_S _ 3 3 [.slice A2 ka.length ca2, .slice (some ⟨wA.heap.size + 1, 0, none⟩) 1 1, .slice B2 kb.length cb2] [(ka.length, strs ka), (1, [.string key]), (kb.length, strs kb)] (fun _ => True) _ ?_ ?_ (by decide) t2 O2.out).mono ?_; (refine sl3 ?_ ?_ ?_ <;> (first | (focus (go_simp; done)) | (refine cell_next ?_ hbK; focus (go_simp; done)) | (refine cell_up ?_; refine cell_next ?_ hbK; focus (go_simp; done)))); (refine rws3' (h2'.below ?_) (sl1 ?_) (g2'.below ?_)); (repeat' (first | exact hAK | exact Below.refl _ _ | refine bdr ?_ | refine bal ?_ _)); (first | (focus (go_simp; done)) | (refine cell_next ?_ hbK; focus (go_simp; done)) | (refine cell_up ?_; refine cell_next ?_ hbK; focus (go_simp; done))); (repeat' (first | exact hAK | exact Below.refl _ _ | refine bdr ?_ | refine bal ?_ _))) | (refine (concat_S _ 3 3 [.slice A2 ka.length ca2, .slice (some ⟨wA.heap.size, 0, none⟩) 1 1, .slice B2 kb.length cb2] [(ka.length, strs ka), (1, [.string key]), (kb.length, strs kb)] (fun _ => True) _ ?_ ?_ (by decide) t2 O2.out).mono ?_; (refine sl3 ?_ ?_ ?_ <;> (first | (focus (go_simp; done)) | (refine cell_next ?_ hbK; focus (go_simp; done)) | (refine cell_up ?_; refine cell_next ?_ hbK; focus (go_simp; done)))); (refine rws3' (h2'.below ?_) (sl1 ?_) (g2'.below ?_)); (repeat' (first | exact hAK | exact Below.refl _ _ | refine bdr ?_ | refine bal ?_ _)); (first | (focus (go_simp; done)) | (refine cell_next ?_ hbK; focus (go_simp; done)) | (refine cell_up ?_; refine cell_next ?_ hbK; focus (go_simp; done))); (repeat' (first | exact hAK | exact Below.refl _ _ | refine bdr ?_ | refine bal ?_ _)))); rintro e wS ⟨vS, rfl, hoS, hbS⟩; have hKS : Below wK.heap.size wK wS := (by refine btr ?_ hbS; (repeat' (first | exact Below.refl _ _ | refine bdr ?_ | refine bal ?_ _))); have hvS := slv_keys HKK.out (SlV.own (V := V) hoS (by intro b hb'; refine hV b (Nat.le_trans (Nat.le_trans hbA.size (Nat.le_trans hAK.size (bsz (a := wK) ?_))) hb'); (repeat' (first | exact Below.refl _ _ | refine bdr ?_ | refine bal ?_ _)))); clear hoS; obtain ⟨AS, cS, rfl, hcS, hsS⟩ := hvS)
      | (go_at_call 37; refine (inners_any AK AS cK cS VV L K _ V (fun b hb' => hV b (Nat.le_trans (Nat.le_trans hbA.size (btr hAK hKS).size) hb')) (hsK.below hKS) (kAB wS (btr hAK hKS)) hcK hsS hcS HL2.out HL1.out).mono ?_; rintro e w4 ⟨⟨x, y, vs, rfl, q1, q2, q3⟩, hb4⟩))
  all_goals go_wp2_with fail
  all_goals go_ret2
  all_goals exact ⟨⟨x, y, vs, rfl, q1, q2, q3⟩, btr (btr hbA (btr hAK hKS)) hb4⟩
end Go.Proofs.Ytkkddnmpehoeoaa
