/- The walks of layer 20's swap, both. -/
import Derived.Test.YtkkddnmpehoeoaaTreeC
import Derived.Deep.RegionHeld3
import Derived.Deep.DrawnRows
namespace Go.Proofs.Ytkkddnmpehoeoaa
open Go.RowKit
open TreeP (Kt Cell kl flat flatL)
set_option linter.unusedVariables false
attribute [local go_sem ↓] Go.wp_at_zero Go.wp_at_succ

theorem bal {a Y : World} (h : Below a.heap.size a Y) (o : Obj) : Below a.heap.size a (Y.alloc o) := h.alloc h.size o
theorem bsz {a Y : World} (h : Below a.heap.size a Y) : a.heap.size ≤ Y.heap.size := h.size
theorem bdr {a Y : World} (h : Below a.heap.size a Y) : Below a.heap.size a Y.drew := below_drewN h 1
theorem btr {a Y Z : World} (h : Below a.heap.size a Y) (g : Below Y.heap.size Y Z) : Below a.heap.size a Z := h.trans (g.mono h.size)
theorem keep2 {w w' : World} {a b : Addr} {x y : Value} (h : w.cell? a = some x ∧ w.cell? b = some y) (hb : Below w.heap.size w w') : w'.cell? a = some x ∧ w'.cell? b = some y := ⟨cell_next h.1 hb, cell_next h.2 hb⟩
theorem sl3 {w : World} {b : Nat} {x y z : Value} (h0 : w.cell? ⟨b, 0, none⟩ = some x) (h1 : w.cell? ⟨b, 1, none⟩ = some y) (h2 : w.cell? ⟨b, 2, none⟩ = some z) : Sl w (fun _ => True) 1 (some ⟨b, 0, none⟩) 3 [x, y, z] := by
  refine ⟨rfl, fun _ => ⟨_, rfl, trivial, World.block_lt_of_cell? w _ h0, fun j u hu => ?_⟩⟩
  match j, hu with
  | 0, hu => simp at hu; subst hu; exact h0
  | 1, hu => simp at hu; subst hu; exact h1
  | 2, hu => simp at hu; subst hu; exact h2
theorem sl2 {w : World} {b : Nat} {x y : Value} (h0 : w.cell? ⟨b, 0, none⟩ = some x) (h1 : w.cell? ⟨b, 1, none⟩ = some y) : Sl w (fun _ => True) 1 (some ⟨b, 0, none⟩) 2 [x, y] := by
  refine ⟨rfl, fun _ => ⟨_, rfl, trivial, World.block_lt_of_cell? w _ h0, fun j u hu => ?_⟩⟩
  match j, hu with
  | 0, hu => simp at hu; subst hu; exact h0
  | 1, hu => simp at hu; subst hu; exact h1
theorem rws3 {w w' : World} {V1 V2 V3 : Nat → Prop} {size n1 n2 n3 c1 c2 c3 : Nat} {A1 A2 A3 : Option Addr} {x1 x2 x3 : List Value} (h1 : Sl w V1 size A1 n1 x1) (h2 : Sl w V2 size A2 n2 x2) (h3 : Sl w V3 size A3 n3 x3) (hb : Below w.heap.size w w') :
    Rws w' size [.slice A1 n1 c1, .slice A2 n2 c2, .slice A3 n3 c3] [(n1, x1), (n2, x2), (n3, x3)] := by
  refine ⟨rfl, fun i r hr => ?_⟩
  match i, hr with
  | 0, hr => simp at hr; subst hr; exact ⟨_, _, rfl, (h1.any).below hb⟩
  | 1, hr => simp at hr; subst hr; exact ⟨_, _, rfl, (h2.any).below hb⟩
  | 2, hr => simp at hr; subst hr; exact ⟨_, _, rfl, (h3.any).below hb⟩
theorem rws2 {w w' : World} {V1 V2 : Nat → Prop} {size n1 n2 c1 c2 : Nat} {A1 A2 : Option Addr} {x1 x2 : List Value} (h1 : Sl w V1 size A1 n1 x1) (h2 : Sl w V2 size A2 n2 x2) (hb : Below w.heap.size w w') :
    Rws w' size [.slice A1 n1 c1, .slice A2 n2 c2] [(n1, x1), (n2, x2)] := by
  refine ⟨rfl, fun i r hr => ?_⟩
  match i, hr with
  | 0, hr => simp at hr; subst hr; exact ⟨_, _, rfl, (h1.any).below hb⟩
  | 1, hr => simp at hr; subst hr; exact ⟨_, _, rfl, (h2.any).below hb⟩

theorem swap_end {w : World} {V : Nat → Prop} {vK vS : Value} {i n : Nat} {vals nvals : List Value} {kids nkids : List Kt} {keys nkeys : List ByteArray}
    (hK : SlV w V 3 vK (total [(i, vals.take (i * 3)), (nkids.length, nvals), (kids.length - (i + n), vals.drop ((i + n) * 3))]) (joined [(i, vals.take (i * 3)), (nkids.length, nvals), (kids.length - (i + n), vals.drop ((i + n) * 3))]))
    (hS : SlV w V 1 vS (total [(i, (strs keys).take (i * 1)), (nkeys.length, strs nkeys), (keys.length - (i + n - 1), (strs keys).drop (i + n - 1))]) (joined [(i, (strs keys).take (i * 1)), (nkeys.length, strs nkeys), (keys.length - (i + n - 1), (strs keys).drop (i + n - 1))]))
    (kT : KnL w V 1000 (vals.take (i * 3)) (kids.take i)) (gk : KnL w V 1000 nvals nkids) (kD : KnL w V 1000 (vals.drop ((i + n) * 3)) (kids.drop (i + n)))
    (hi : i + n ≤ kids.length) (hl : keys.length + 1 = kids.length) (hn : 1 ≤ n) :
    TwoR w V 1000 (.returned (.tuple #[vK, vS])) (kids.take i ++ nkids ++ kids.drop (i + n)) (keys.take i ++ nkeys ++ keys.drop (i + n - 1)) := by
  have e1 : (kids.take i ++ nkids ++ kids.drop (i + n)).length = total [(i, vals.take (i * 3)), (nkids.length, nvals), (kids.length - (i + n), vals.drop ((i + n) * 3))] := by
    simp only [List.length_append, List.length_take, List.length_drop, total]; omega
  have e2 : (keys.take i ++ nkeys ++ keys.drop (i + n - 1)).length = total [(i, (strs keys).take (i * 1)), (nkeys.length, strs nkeys), (keys.length - (i + n - 1), (strs keys).drop (i + n - 1))] := by
    simp only [List.length_append, List.length_take, List.length_drop, total]; omega
  have e3 : strs (keys.take i ++ nkeys ++ keys.drop (i + n - 1)) = joined [(i, (strs keys).take (i * 1)), (nkeys.length, strs nkeys), (keys.length - (i + n - 1), (strs keys).drop (i + n - 1))] := by
    simp [joined, strs]
  refine ⟨vK, vS, joined [(i, vals.take (i * 3)), (nkids.length, nvals), (kids.length - (i + n), vals.drop ((i + n) * 3))], rfl, ?_, ?_, ?_⟩
  · rw [e1]; exact hK
  · simp only [joined, List.append_nil]
    rw [← List.append_assoc]
    exact knL_append (knL_append kT gk) kD
  · rw [e2, e3]; exact hS

set_option maxRecDepth 100000 in
set_option maxHeartbeats 3200000 in
theorem swap_any (v1 : Value) (A2 A3 B1 B2 : Option Addr) (c2 c3 d1 d2 i n : Nat) (vals nvals : List Value) (kids nkids : List Kt) (keys nkeys : List ByteArray) (w : World) (V : Nat → Prop) (hV : ∀ b, w.heap.size ≤ b → V b)
    (h2 : Sl w V 1 A2 keys.length (strs keys)) (hc2 : keys.length ≤ c2) (h3 : Sl w V 3 A3 kids.length vals) (hk : KnL w V 1000 vals kids) (hc3 : kids.length ≤ c3)
    (g1 : Sl w V 3 B1 nkids.length nvals) (gk : KnL w V 1000 nvals nkids) (g2 : Sl w V 1 B2 nkeys.length (strs nkeys))
    (hi : i + n ≤ kids.length) (hn : 1 ≤ n) (hl : keys.length + 1 = kids.length) (hs : kids.length ≤ 100) (hs1 : nkids.length ≤ 100) (hs2 : nkeys.length ≤ 100) :
    Calls Try.prog 38 #[.agg #[v1, .slice A2 keys.length c2, .slice A3 kids.length c3], .int .i64 i, .int .i64 n, .slice B1 nkids.length d1, .slice B2 nkeys.length d2] w
      fun e w' => TwoR w' V 1000 e (kids.take i ++ nkids ++ kids.drop (i + n)) (keys.take i ++ nkeys ++ keys.drop (i + n - 1)) ∧ Below w.heap.size w w' := by
  have hbA := (Below.refl w.heap.size w).alloc (Nat.le_refl _) (.cells #[v1, .slice A2 keys.length c2, .slice A3 kids.length c3] 26)
  have k1 : (w.alloc (.cells #[v1, .slice A2 keys.length c2, .slice A3 kids.length c3] 26)).cell? ⟨w.heap.size, 1, none⟩ = some (.slice A2 keys.length c2) := by go_simp
  have k2 : (w.alloc (.cells #[v1, .slice A2 keys.length c2, .slice A3 kids.length c3] 26)).cell? ⟨w.heap.size, 2, none⟩ = some (.slice A3 kids.length c3) := by go_simp
  have k0 : w.heap.size < (w.alloc (.cells #[v1, .slice A2 keys.length c2, .slice A3 kids.length c3] 26)).heap.size := by simp
  have hT3 := (h3.takeN (m := i) (by omega)).below hbA
  have hD3 := (h3.dropN (k := i + n) (by omega) hc3).below hbA
  have hT2 := (h2.takeN (m := i) (by omega)).below hbA
  have hD2 := (h2.dropN (k := i + n - 1) (by omega) hc2).below hbA
  have g1' := g1.below hbA
  have g2' := g2.below hbA
  simp only [Nat.mul_one] at hD2
  obtain ⟨D3, hD3e⟩ : ∃ D, (if c3 = i + n then A3 else A3.map (fun x => x.add ((i + n) * 3))) = D := ⟨_, rfl⟩
  obtain ⟨D2, hD2e⟩ : ∃ D, (if c2 = i + n - 1 then A2 else A2.map (fun x => x.add (i + n - 1))) = D := ⟨_, rfl⟩
  rw [hD3e] at hD3
  rw [hD2e] at hD2
  have kT := (knL_take hk i).below hbA
  have kD := (knL_drop hk (i + n)).below hbA
  have gk' := gk.below hbA
  have o3 : ∀ r ∈ [(i, vals.take (i * 3)), (nkids.length, nvals), (kids.length - (i + n), vals.drop ((i + n) * 3))], ∀ u ∈ r.2, u.oneCell' = true := by
    intro r hr
    simp only [List.mem_cons, List.not_mem_nil, or_false] at hr
    rcases hr with rfl | rfl | rfl
    · exact knL_one' (knL_take hk i)
    · exact knL_one' gk
    · exact knL_one' (knL_drop hk (i + n))
  have o2 : ∀ r ∈ [(i, (strs keys).take (i * 1)), (nkeys.length, strs nkeys), (keys.length - (i + n - 1), (strs keys).drop (i + n - 1))], ∀ u ∈ r.2, u.oneCell' = true := by
    intro r hr
    simp only [List.mem_cons, List.not_mem_nil, or_false] at hr
    rcases hr with rfl | rfl | rfl
    · exact fun u hu => strs_one keys u (List.mem_of_mem_take hu)
    · exact strs_one nkeys
    · exact fun u hu => strs_one keys u (List.mem_of_mem_drop hu)
  have t3 : total [(i, vals.take (i * 3)), (nkids.length, nvals), (kids.length - (i + n), vals.drop ((i + n) * 3))] ≤ 1000000000 := by simp only [total]; omega
  have t2 : total [(i, (strs keys).take (i * 1)), (nkeys.length, strs nkeys), (keys.length - (i + n - 1), (strs keys).drop (i + n - 1))] ≤ 1000000000 := by simp only [total]; omega
  have O3 := hide o3
  have O2 := hide o2
  have b1 : (i : Int) + n ≤ kids.length := by omega
  have b2 : (i : Int) + n - 1 ≤ keys.length := by omega
  have b3 : (i : Int) ≤ keys.length := by omega
  have b4 : (i : Int) ≤ kids.length := by omega
  have b5 : (i : Int) ≤ c2 := by omega
  have b6 : (i : Int) ≤ c3 := by omega
  have b7 : (0 : Int) ≤ (i : Int) := by omega
  have b8 : (0 : Int) ≤ (i : Int) + n := by omega
  have b9 : (0 : Int) ≤ (i : Int) + n - 1 := by omega
  have b10 : (i : Int) + n ≤ c3 := by omega
  have b11 : (i : Int) + n - 1 ≤ c2 := by omega
  have b12 : (kids.length : Int) ≤ c3 := by omega
  have b13 : (keys.length : Int) ≤ c2 := by omega
  have b14 : (1 : Int) ≤ (i : Int) + n := by omega
  have b15 : (i : Int) + n ≤ (keys.length : Int) + 1 := by omega
  have b16 : (i : Int) + n ≤ (c2 : Int) + 1 := by omega
  have y1 : ((i : Int) + n).toNat = i + n := by omega
  have y2 : ((i : Int) + n - 1).toNat = i + n - 1 := by omega
  have x1 : IntKind.i64.wrap ((i : Int) + n) = (i : Int) + n := IntWalk.i64_in _ (by omega)
  have x2 : IntKind.i64.wrap ((i : Int) + n - 1) = (i : Int) + n - 1 := IntWalk.i64_in _ (by omega)
  clear h2 h3 hk g1 g2 gk o2 o3
  go_enter Try.func38, Try.ntmps38
  go_wp2_with fail
  generalize w.alloc (.cells #[v1, .slice A2 keys.length c2, .slice A3 kids.length c3] 26) = wA at *
  go_region_held3 (fun w' => w'.cell? ⟨w.heap.size, 1, none⟩ = some (.slice A2 keys.length c2) ∧ w'.cell? ⟨w.heap.size, 2, none⟩ = some (.slice A3 kids.length c3))
    (first | go_keep | exact keep2 (by assumption) hbS | exact keep2 (by assumption) hbK)
    (first
      | (go_at_call 49; refine (concat_K _ 3 3 [.slice A3 i c3, .slice B1 nkids.length d1, .slice D3 (kids.length - (i + n)) (c3 - (i + n))] [(i, vals.take (i * 3)), (nkids.length, nvals), (kids.length - (i + n), vals.drop ((i + n) * 3))] (fun _ => True) _ ?_ ?_ (by decide) t3 O3.out).mono ?_; (refine sl3 ?_ ?_ ?_ <;> go_simp); (refine rws3 hT3 g1' hD3 ?_; (repeat' (first | exact Below.refl _ _ | refine bdr ?_ | refine bal ?_ _))); rintro e wK ⟨vK, rfl, hoK, hbK⟩; have hAK : Below wA.heap.size wA wK := (by refine btr ?_ hbK; (repeat' (first | exact Below.refl _ _ | refine bdr ?_ | refine bal ?_ _))))
      | (go_at_call 50; refine (concat_S _ 3 3 [.slice A2 i c2, .slice B2 nkeys.length d2, .slice D2 (keys.length - (i + n - 1)) (c2 - (i + n - 1))] [(i, (strs keys).take (i * 1)), (nkeys.length, strs nkeys), (keys.length - (i + n - 1), (strs keys).drop (i + n - 1))] (fun _ => True) _ ?_ ?_ (by decide) t2 O2.out).mono ?_; (refine sl3 ?_ ?_ ?_ <;> first | (go_simp; done) | (refine cell_next ?_ hbK; go_simp)); (refine rws3 hT2 g2' hD2 ?_; (repeat' (first | exact hAK | exact Below.refl _ _ | refine bdr ?_ | refine bal ?_ _))); rintro e wS ⟨vS, rfl, hoS, hbS⟩; have hKS : Below wK.heap.size wK wS := (by refine btr ?_ hbS; (repeat' (first | exact Below.refl _ _ | refine bdr ?_ | refine bal ?_ _)))))
  all_goals go_wp2_with fail
  all_goals go_ret2
  all_goals have hAS := btr hAK hKS
  all_goals exact ⟨swap_end ((SlV.own hoK (fun b hb' => hV b (Nat.le_trans (Nat.le_trans hbA.size (bsz (a := wA) (by repeat' (first | exact Below.refl _ _ | refine bdr ?_ | refine bal ?_ _)))) hb'))).below hKS) (SlV.own hoS (fun b hb' => hV b (Nat.le_trans (Nat.le_trans hbA.size (Nat.le_trans hAK.size (bsz (a := wK) (by repeat' (first | exact Below.refl _ _ | refine bdr ?_ | refine bal ?_ _))))) hb'))) (kT.below hAS) (gk'.below hAS) (kD.below hAS) hi hl hn, hbA.trans (hAS.mono hbA.size)⟩
end Go.Proofs.Ytkkddnmpehoeoaa
