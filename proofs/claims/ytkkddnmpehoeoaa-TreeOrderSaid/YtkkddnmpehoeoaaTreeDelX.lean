/- The walk of layer 20's del, an inner knot. -/
import Derived.Test.YtkkddnmpehoeoaaTreeDelW
namespace Go.Proofs.Ytkkddnmpehoeoaa
open Go.RowKit
open TreeP (Kt Cell kl flat flatL Inv InvL InB)
set_option linter.unusedVariables false
attribute [local go_sem ↓] Go.wp_at_zero Go.wp_at_succ

theorem kn_set3 {w : World} {V : Nat → Prop} {B b : Nat} {a1 a2 a3 u1 u2 u3 : Value} {t : Kt} (h : Kn w V B a1 a2 a3 t) (hne : ∀ k, V k → k ≠ b) : Kn (((w.setCell ⟨b, 0, none⟩ u1).setCell ⟨b, 1, none⟩ u2).setCell ⟨b, 2, none⟩ u3) V B a1 a2 a3 t :=
  kn_keep (Nat.le_refl _) (by rw [size_set3]; exact Nat.le_refl _) (fun k hk _ => heap_set3 (hne k hk)) (fun k hk _ => hk) h
theorem knL_set3 {w : World} {V : Nat → Prop} {B b : Nat} {u1 u2 u3 : Value} {vals : List Value} {l : List Kt} (h : KnL w V B vals l) (hne : ∀ k, V k → k ≠ b) : KnL (((w.setCell ⟨b, 0, none⟩ u1).setCell ⟨b, 1, none⟩ u2).setCell ⟨b, 2, none⟩ u3) V B vals l :=
  knL_keep (Nat.le_refl _) (by rw [size_set3]; exact Nat.le_refl _) (fun k hk _ => heap_set3 (hne k hk)) (fun k hk _ => hk) h
theorem sl_set3 {w : World} {V : Nat → Prop} {size n b : Nat} {A : Option Addr} {xs : List Value} {u1 u2 u3 : Value} (h : Sl w V size A n xs) (hne : ∀ k, V k → k ≠ b) : Sl (((w.setCell ⟨b, 0, none⟩ u1).setCell ⟨b, 1, none⟩ u2).setCell ⟨b, 2, none⟩ u3) V size A n xs :=
  h.keep (by rw [size_set3]; exact Nat.le_refl _) (fun k hk _ => heap_set3 (hne k hk))
theorem BoxK.other {w : World} {b k : Nat} {v1 v2 v3 u1 u2 u3 : Value} (h : BoxK w k v1 v2 v3) (hne : k ≠ b) : BoxK (((w.setCell ⟨b, 0, none⟩ u1).setCell ⟨b, 1, none⟩ u2).setCell ⟨b, 2, none⟩ u3) k v1 v2 v3 := by
  unfold BoxK at *
  rw [heap_set3 hne]; exact h

theorem keep9 {w w' : World} {a1 a2 a3 a4 a5 a6 a7 a8 a9 : Addr} {v1 v2 v3 v4 v5 v6 v7 v8 v9 : Value} (h : w.cell? a1 = some v1 ∧ w.cell? a2 = some v2 ∧ w.cell? a3 = some v3 ∧ w.cell? a4 = some v4 ∧ w.cell? a5 = some v5 ∧ w.cell? a6 = some v6 ∧ w.cell? a7 = some v7 ∧ w.cell? a8 = some v8 ∧ w.cell? a9 = some v9) (hb : Below w.heap.size w w') :
    w'.cell? a1 = some v1 ∧ w'.cell? a2 = some v2 ∧ w'.cell? a3 = some v3 ∧ w'.cell? a4 = some v4 ∧ w'.cell? a5 = some v5 ∧ w'.cell? a6 = some v6 ∧ w'.cell? a7 = some v7 ∧ w'.cell? a8 = some v8 ∧ w'.cell? a9 = some v9 := by
  obtain ⟨h1, h2, h3, h4, h5, h6, h7, h8, h9⟩ := h
  exact ⟨cell_next h1 hb, cell_next h2 hb, cell_next h3 hb, cell_next h4 hb, cell_next h5 hb, cell_next h6 hb, cell_next h7 hb, cell_next h8 hb, cell_next h9 hb⟩
theorem pre_all {h : Nat} {m lo : Option ByteArray} {ks : List ByteArray} {l : List Kt} (P : TreeP.Pre h m lo ks l) : ∀ x ∈ l, ∃ lo hi, Inv 1 1 h lo hi x := by
  induction l generalizing lo ks with
  | nil => intro x hx; cases hx
  | cons a l ih =>
    cases ks with
    | nil => simp [TreeP.Pre] at P
    | cons k ks =>
      intro x hx
      rcases List.mem_cons.1 hx with rfl | hx
      · exact ⟨_, _, TreeP.inv_weak (by omega) (by omega) P.1⟩
      · exact ih P.2 x hx
theorem suf_all {h : Nat} {m hi : Option ByteArray} {ks : List ByteArray} {l : List Kt} (S : TreeP.Suf h hi m ks l) : ∀ x ∈ l, ∃ lo hi, Inv 1 1 h lo hi x := by
  induction l generalizing m ks with
  | nil => intro x hx; cases hx
  | cons a l ih =>
    cases ks with
    | nil => simp [TreeP.Suf] at S
    | cons k ks =>
      obtain ⟨_, m2, h1, h2⟩ := S
      intro x hx
      rcases List.mem_cons.1 hx with rfl | hx
      · exact ⟨_, _, TreeP.inv_weak (by omega) (by omega) h1⟩
      · exact ih h2 x hx

set_option maxRecDepth 100000 in
set_option maxHeartbeats 4000000 in
theorem del_any (key : ByteArray) (t : Kt) : ∀ (ml h : Nat) (lo hi : Option ByteArray) (v1 v2 v3 : Value) (w : World) (V : Nat → Prop), (∀ b, w.heap.size ≤ b → V b) → Inv ml 2 h lo hi t → InB lo hi (key, key) → (TreeP.get (flat t) key).isSome = true → Kn w V 1000 v1 v2 v3 t →
    Calls Try.prog 28 #[.agg #[v1, v2, v3], .string key] w fun e w' => OneR w' V 1000 e (TreeP.delP key t) ∧ Below w.heap.size w w' := by
  refine TreeP.ind (P := fun t => ∀ (ml h : Nat) (lo hi : Option ByteArray) (v1 v2 v3 : Value) (w : World) (V : Nat → Prop), (∀ b, w.heap.size ≤ b → V b) → Inv ml 2 h lo hi t → InB lo hi (key, key) → (TreeP.get (flat t) key).isSome = true → Kn w V 1000 v1 v2 v3 t →
    Calls Try.prog 28 #[.agg #[v1, v2, v3], .string key] w fun e w' => OneR w' V 1000 e (TreeP.delP key t) ∧ Below w.heap.size w w') ?_ t
  intro cells keys kids ih ml h lo hi v1 v2 v3 w V hV H hc hg hkn
  cases kids with
  | nil =>
    obtain ⟨rfl, rfl, h1, h2, h3, h4⟩ := TreeP.inv_leaf H (by omega)
    rw [TreeP.flat, TreeP.flatL, List.append_nil] at hg
    have hp : TreeP.placed cells key = true := by rw [TreeP.placed_iff h3]; exact hg
    rw [TreeP.delP]
    simp only [List.isEmpty_nil, if_true]
    obtain ⟨⟨A1, c1, rfl, g1, _, s1⟩, ⟨A2, c2, rfl, g2, _, s2⟩, A3, c3, vals, rfl, g3, _, s3, k3⟩ := kn_mk.1 hkn
    exact del_leaf _ A1 A3 c1 c3 cells.length cells [] key w V hV hkn s1 rfl g1 (by omega) hp
  | cons kid kids =>
    obtain ⟨rfl, h1, h2, h3, h4⟩ := TreeP.inv_inner H
    have hkl := TreeP.invL_len h4
    obtain ⟨m, m', k, x1, x0, x2, x3, x4, x5⟩ := TreeP.split h4 hc
    have hk : k ∈ kid :: kids := List.mem_of_getElem? x1
    rw [TreeP.flat, List.nil_append] at hg
    rw [TreeP.inner_get (c := (key, key)) x0 x2 x4 x5] at hg
    have q1 := (TreeP.del_ok x3 x5 hg).1
    rw [TreeP.delP]
    simp only [List.isEmpty_cons, Bool.false_eq_true, if_false]
    rw [TreeP.delAt_get x1]
    obtain ⟨T, hT⟩ : ∃ T, T = (if 2 ≤ (TreeP.delP key k).cells.length ∨ 2 ≤ (TreeP.delP key k).kids.length then .mk [] keys ((kid :: kids).take (TreeP.way keys key) ++ [TreeP.delP key k] ++ (kid :: kids).drop (TreeP.way keys key + 1))
      else TreeP.mend ((kid :: kids).take (TreeP.way keys key) ++ [TreeP.delP key k] ++ (kid :: kids).drop (TreeP.way keys key + 1)) keys (TreeP.way keys key - 1)) := ⟨_, rfl⟩
    rw [← hT]
    have HT := hide hT
    clear hT
    -- what the kids are, one by one
    have hall : ∀ x ∈ (kid :: kids).take (TreeP.way keys key) ++ [TreeP.delP key k] ++ (kid :: kids).drop (TreeP.way keys key + 1), ∃ lo hi, Inv 1 1 (h - 1) lo hi x := by
      intro x hx
      simp only [List.mem_append, List.mem_singleton] at hx
      rcases hx with (hx | rfl) | hx
      · exact pre_all x2 x hx
      · exact ⟨_, _, q1⟩
      · exact suf_all x4 x hx
    obtain ⟨V', hV'⟩ : ∃ V' : Nat → Prop, V' = fun b => (V b ∧ b < w.heap.size) ∨ w.heap.size + 2 ≤ b := ⟨_, rfl⟩
    have hup : ∀ b, w.heap.size + 2 ≤ b → V' b := fun b hb => by rw [hV']; exact .inr hb
    have hne0 : ∀ b, V' b → b ≠ w.heap.size := fun b hb => by rw [hV'] at hb; rcases hb with hb | hb <;> omega
    have hne1 : ∀ b, V' b → b ≠ w.heap.size + 1 := fun b hb => by rw [hV'] at hb; rcases hb with hb | hb <;> omega
    have hback : ∀ b, V' b → V b := fun b hb => by
      rw [hV'] at hb
      rcases hb with hb | hb
      · exact hb.1
      · exact hV b (by omega)
    have hkn' : Kn w V' 1000 v1 v2 v3 (.mk [] keys (kid :: kids)) := kn_keep (Nat.le_refl _) (Nat.le_refl _) (fun b _ _ => rfl) (fun b hb hlt => by rw [hV']; exact .inl ⟨hb, hlt⟩) hkn
    clear hV'
    have IH := hide (fun w v1 v2 v3 hv => ih k hk 2 (h - 1) m m' v1 v2 v3 w V' hv x3 x5 hg)
    have hbA := ((Below.refl w.heap.size w).alloc (Nat.le_refl _) (.cells #[v1, v2, v3] 26)).alloc (by simp) (.cells #[.slice none 0 0, .slice none 0 0, .slice none 0 0] 26)
    have hwy := way_any _ _ _ _ key _ _ (hkn'.below hbA)
    simp only [Kt.keys] at hwy
    have hwn := TreeP.way_le keys key
    obtain ⟨⟨A1, c1, rfl, _, _, s1⟩, ⟨A2, c2, rfl, g2, _, s2⟩, A3, c3, vals, rfl, g3, _, s3, k3⟩ := kn_mk.1 hkn'
    clear hkn hkn' ih H h4 hk x0 x2 x3 x4 x5 hc hg
    generalize kid :: kids = kds at *
    generalize TreeP.way keys key = i at *
    generalize TreeP.delP key k = r at *
    have hil : i < kds.length := (List.getElem?_eq_some_iff.1 x1).1
    obtain ⟨n, hn⟩ : ∃ n, n = kds.length := ⟨_, rfl⟩
    obtain ⟨nk, hnk⟩ : ∃ nk, nk = keys.length := ⟨_, rfl⟩
    rw [← hn] at s3 hil g3 hkl h1 h2 hwy hbA ⊢
    rw [← hnk] at s2 g2 hkl hwn hwy hbA ⊢
    simp only [List.length_nil] at hwy hbA ⊢
    obtain ⟨ad, w1, w2, w3, e, f1, f2, f3, f4⟩ := kid_at (s3.below hbA) (k3.below hbA) x1
    subst e
    have HX := hide x1
    have HN := hide hn
    have HNK := hide hnk
    have hnk1000 : nk ≤ 1000 := by omega
    have HKL := hide hkl
    have HALL := hide hall
    have Q1 := hide q1
    have hne : ((n : Int) == 0) = false := by simp only [beq_eq_false_iff_ne, ne_eq]; omega
    have b0 : (0 : Int) ≤ (i : Int) := by omega
    have b1 : (i : Int) < (n : Int) := by omega
    clear x1 hn hnk hkl hall q1
    have kb0 : BoxK ((w.alloc (.cells #[.slice A1 0 c1, .slice A2 nk c2, .slice (some ad) n c3] 26)).alloc (.cells #[.slice none 0 0, .slice none 0 0, .slice none 0 0] 26)) w.heap.size (.slice A1 0 c1) (.slice A2 nk c2) (.slice (some ad) n c3) := blk_under (blk_top rfl)
    have kb1 : BoxK ((w.alloc (.cells #[.slice A1 0 c1, .slice A2 nk c2, .slice (some ad) n c3] 26)).alloc (.cells #[.slice none 0 0, .slice none 0 0, .slice none 0 0] 26)) (w.heap.size + 1) (.slice none 0 0) (.slice none 0 0) (.slice none 0 0) := blk_top (by simp)
    obtain ⟨k1, k2, k4⟩ := kb0.cell
    have hsz : w.heap.size + 2 ≤ ((w.alloc (.cells #[.slice A1 0 c1, .slice A2 nk c2, .slice (some ad) n c3] 26)).alloc (.cells #[.slice none 0 0, .slice none 0 0, .slice none 0 0] 26)).heap.size := by simp
    have s2A := s2.below hbA
    have s3A := s3.below hbA
    have k3A := k3.below hbA
    clear s1 s2 s3 k3
    go_enter Try.func28, Try.ntmps28
    go_wp2_with fail
    generalize (w.alloc (.cells #[.slice A1 0 c1, .slice A2 nk c2, .slice (some ad) n c3] 26)).alloc (.cells #[.slice none 0 0, .slice none 0 0, .slice none 0 0] 26) = wA at *
    refine hwy.mono ?_
    rintro e wW ⟨rfl, hbW⟩
    have q1 := cell_next k1 hbW
    have q2 := cell_next k2 hbW
    have q4 := cell_next k4 hbW
    have p1 := cell_next f1 hbW
    have p2 := cell_next f2 hbW
    have p3 := cell_next f3 hbW
    have f4' := f4.below hbW
    have s2W := s2A.below hbW
    have s3W := s3A.below hbW
    have k3W := k3A.below hbW
    have kbW0 := kb0.below hbW
    have kbW1 := kb1.below hbW
    have hszW : w.heap.size + 2 ≤ wW.heap.size := Nat.le_trans hsz hbW.size
    have hbW' := hbA.trans (hbW.mono hbA.size)
    have hvW : ∀ b, wW.heap.size ≤ b → V' b := fun b hb => hup b (Nat.le_trans hszW hb)
    clear k1 k2 k4 f1 f2 f3 f4 hwy hbW hbA s2A s3A k3A kb0 kb1 hsz
    go_wp2_with fail
    refine (IH.out _ w1 w2 w3 hvW f4').mono ?_
    rintro e wD ⟨⟨u1, u2, u3, rfl, kD⟩, hbD⟩
    obtain ⟨rc, ry, rd⟩ := r
    obtain ⟨⟨U1, e1, rfl, y1, y1', z1⟩, ⟨U2, e2, rfl, y2, y2', z2⟩, U3, e3, uals, rfl, y3, y3', z3, l3⟩ := kn_mk.1 kD
    have kbD0 := kbW0.below hbD
    have kbD1 := kbW1.below hbD
    have s2D := s2W.below hbD
    have s3D := s3W.below hbD
    have k3D := k3W.below hbD
    have hszD : w.heap.size + 2 ≤ wD.heap.size := Nat.le_trans hszW hbD.size
    have hbD' := btr hbW' hbD
    obtain ⟨q1', q2', q4'⟩ := kbD0.cell
    clear q1 q2 q4 p1 p2 p3 f4' s2W s3W k3W kbW0 kbW1 hbW' hszW hvW IH hbD
    generalize hrc : rc.length = nc at *
    generalize hrd : rd.length = nd at *
    generalize hry : ry.length = ny at *
    have HRC := hide hrc
    have HRD := hide hrd
    have HRY := hide hry
    clear hrc hrd hry
    have t1 := fun o => cell_up (o := o) q1'
    have t2 := fun o => cell_up (o := o) q2'
    have t4 := fun o => cell_up (o := o) q4'
    go_wp2_with fail
    clear t1 t2 t4 q1' q2' q4'
    have hbE := ((Below.refl wD.heap.size wD).alloc (Nat.le_refl _) (.cells #[.slice U1 nc e1, .slice U2 ny e2, .slice U3 nd e3] 26)).alloc (by simp) (.cells #[.slice U1 nc e1, .slice U2 ny e2, .slice U3 nd e3] 26)
    have kB2 : BoxK ((wD.alloc (.cells #[.slice U1 nc e1, .slice U2 ny e2, .slice U3 nd e3] 26)).alloc (.cells #[.slice U1 nc e1, .slice U2 ny e2, .slice U3 nd e3] 26)) wD.heap.size (.slice U1 nc e1) (.slice U2 ny e2) (.slice U3 nd e3) := blk_under (blk_top rfl)
    have hlit : Sl ((wD.alloc (.cells #[.slice U1 nc e1, .slice U2 ny e2, .slice U3 nd e3] 26)).alloc (.cells #[.slice U1 nc e1, .slice U2 ny e2, .slice U3 nd e3] 26)) V' 3 (some ⟨wD.heap.size + 1, 0, none⟩) 1 [.slice U1 nc e1, .slice U2 ny e2, .slice U3 nd e3] := by
      have := sl_blk (size := 3) (n := 1) (blk_top (w := wD.alloc (.cells #[.slice U1 nc e1, .slice U2 ny e2, .slice U3 nd e3] 26)) (o := .cells #[.slice U1 nc e1, .slice U2 ny e2, .slice U3 nd e3] 26) (b := wD.heap.size + 1) (by simp)) rfl
      exact ⟨this.1, fun hp => by
        obtain ⟨a, ea, _, hlt, hcs⟩ := this.2 hp
        injection ea with ea
        subst ea
        exact ⟨_, rfl, hup _ (by show w.heap.size + 2 ≤ wD.heap.size + 1; omega), hlt, hcs⟩⟩
    have kbE0 := kbD0.below hbE
    have kbE1 := kbD1.below hbE
    have s2E := s2D.below hbE
    have s3E := s3D.below hbE
    have k3E := k3D.below hbE
    have kE := kD.below hbE
    have hbE' := hbD'.trans (hbE.mono hbD'.size)
    have hszE : wD.heap.size + 2 ≤ ((wD.alloc (.cells #[.slice U1 nc e1, .slice U2 ny e2, .slice U3 nd e3] 26)).alloc (.cells #[.slice U1 nc e1, .slice U2 ny e2, .slice U3 nd e3] 26)).heap.size := by simp
    generalize (wD.alloc (.cells #[.slice U1 nc e1, .slice U2 ny e2, .slice U3 nd e3] 26)).alloc (.cells #[.slice U1 nc e1, .slice U2 ny e2, .slice U3 nd e3] 26) = wE at *
    have hvE : ∀ b, wE.heap.size ≤ b → V' b := fun b hb => hup b (by omega)
    have hi1 : i + 1 ≤ n := by omega
    have hn100 : n ≤ 100 := by omega
    refine (swap_at _ A2 (some ad) (some ⟨wD.heap.size + 1, 0, none⟩) none c2 c3 1 0 i 1 n nk 1 0 _ _ vals [.slice U1 nc e1, .slice U2 ny e2, .slice U3 nd e3] kds [.mk rc ry rd] keys [] _ V' hvE rfl rfl HN.out HNK.out rfl rfl s2E g2 s3E k3E g3 hlit (knL_one kE) Sl.nil hi1 (Nat.le_refl _) HKL.out hn100 (by decide) (by decide)).mono ?_
    rintro e wS ⟨⟨x, y, us, rfl, r1, r2, r3⟩, hbS⟩
    have eK : keys.take i ++ [] ++ keys.drop (i + 1 - 1) = keys := by simp
    rw [eK, ← HNK.out] at r3
    obtain ⟨KD, hKD⟩ : ∃ KD, KD = kds.take i ++ [.mk rc ry rd] ++ kds.drop (i + 1) := ⟨_, rfl⟩
    have eN : KD.length = n := by
      have := HN.out
      rw [hKD]; simp only [List.length_append, List.length_take, List.length_drop, List.length_singleton]; omega
    rw [← hKD] at r1 r2 HT HALL
    rw [eN] at r1
    obtain ⟨AX, cX, rfl, gX, sX⟩ := r1
    obtain ⟨AY, cY, rfl, gY, sY⟩ := r3
    have HKD := hide hKD
    have HEN := hide eN
    have kbS0 := kbE0.below hbS
    have kbS1 := kbE1.below hbS
    have kBS := kB2.below hbS
    have kS := kE.below hbS
    have hbS' := hbE'.trans (hbS.mono hbE'.size)
    have hszS : wD.heap.size + 2 ≤ wS.heap.size := Nat.le_trans hszE hbS.size
    clear eK hKD eN kbE0 kbE1 kB2 kE hbE' hbS s2E s3E k3E hlit hvE kbD0 kbD1 s2D s3D k3D kD hbD' hbE
    obtain ⟨o1, o2, o3⟩ := kbS0.cell
    have o4 := kbS0.frozen 0
    have o5 := kbS0.frozen 1
    have o6 := kbS0.frozen 2
    have kT0 := kbS0.set (u1 := .slice none 0 0) (u2 := .slice AY nk cY) (u3 := .slice AX n cX)
    have kT1 := kbS1.other (b := w.heap.size) (u1 := .slice none 0 0) (u2 := .slice AY nk cY) (u3 := .slice AX n cX) (by omega)
    have kT2 := kBS.other (b := w.heap.size) (u1 := .slice none 0 0) (u2 := .slice AY nk cY) (u3 := .slice AX n cX) (by omega)
    have sXT := sl_set3 (u1 := .slice none 0 0) (u2 := .slice AY nk cY) (u3 := .slice AX n cX) sX hne0
    have sYT := sl_set3 (u1 := .slice none 0 0) (u2 := .slice AY nk cY) (u3 := .slice AX n cX) sY hne0
    have kXT := knL_set3 (u1 := .slice none 0 0) (u2 := .slice AY nk cY) (u3 := .slice AX n cX) r2 hne0
    have hbT := below_set3 (u1 := .slice none 0 0) (u2 := .slice AY nk cY) (u3 := .slice AX n cX) hbS' (b := w.heap.size) (Nat.le_refl _)
    have hszT : wD.heap.size + 2 ≤ (((wS.setCell ⟨w.heap.size, 0, none⟩ (.slice none 0 0)).setCell ⟨w.heap.size, 1, none⟩ (.slice AY nk cY)).setCell ⟨w.heap.size, 2, none⟩ (.slice AX n cX)).heap.size := by rw [size_set3]; exact hszS
    obtain ⟨p1, p2, p3⟩ := kT0.cell
    obtain ⟨p4, p5, p6⟩ := kT1.cell
    obtain ⟨p7, p8, p9⟩ := kT2.cell
    have p10 := kT1.frozen 0
    have p11 := kT1.frozen 1
    have p12 := kT1.frozen 2
    -- what is answered where the kid is not thin
    have fin : (2 ≤ nc ∨ 2 ≤ nd) → T = .mk [] keys KD := fun h => by
      have := HT.out
      rw [if_pos (by simpa [Kt.cells, Kt.kids, HRC.out, HRD.out] using h)] at this
      exact this
    by_cases t1 : 2 ≤ nc
    · have FT := hide (fin (.inl t1))
      have d1 : decide ((2 : Int) ≤ (nc : Int)) = true := by simp; omega
      clear fin
      go_wp2_with fail
      have kXF := knL_set3 (b := w.heap.size + 1) (u1 := .slice none 0 0) (u2 := .slice AY nk cY) (u3 := .slice AX n cX) kXT hne1
      have sXF := sl_set3 (b := w.heap.size + 1) (u1 := .slice none 0 0) (u2 := .slice AY nk cY) (u3 := .slice AX n cX) sXT hne1
      have sYF := sl_set3 (b := w.heap.size + 1) (u1 := .slice none 0 0) (u2 := .slice AY nk cY) (u3 := .slice AX n cX) sYT hne1
      have hbF := below_set3 (b := w.heap.size + 1) (u1 := .slice none 0 0) (u2 := .slice AY nk cY) (u3 := .slice AX n cX) hbT (by omega)
      obtain ⟨s1, s2, s3⟩ := (kT1.set (u1 := .slice none 0 0) (u2 := .slice AY nk cY) (u3 := .slice AX n cX)).cell
      refine bodyPost_ret (v := .agg #[.slice none 0 0, .slice AY nk cY, .slice AX n cX]) (by simp [results, Try.results28, go_sem, s1, s2, s3]) rfl ⟨⟨_, _, _, rfl, ?_⟩, hbF⟩
      rw [FT.out]
      exact kn_keep (Nat.le_refl _) (Nat.le_refl _) (fun _ _ _ => rfl) (fun b hb _ => hback b hb) (kn_of (slv_nil _ _) ⟨AY, cY, rfl, gY, sYF⟩ ⟨AX, cX, rfl, gX, sXF⟩ kXF rfl (by omega) (by omega) (by omega))
    · by_cases t2 : 2 ≤ nd
      · have FT := hide (fin (.inr t2))
        have d1 : decide ((2 : Int) ≤ (nc : Int)) = false := by simp; omega
        have d2 : decide ((2 : Int) ≤ (nd : Int)) = true := by simp; omega
        clear fin
        go_wp2_with fail
        have kXF := knL_set3 (b := w.heap.size + 1) (u1 := .slice none 0 0) (u2 := .slice AY nk cY) (u3 := .slice AX n cX) kXT hne1
        have sXF := sl_set3 (b := w.heap.size + 1) (u1 := .slice none 0 0) (u2 := .slice AY nk cY) (u3 := .slice AX n cX) sXT hne1
        have sYF := sl_set3 (b := w.heap.size + 1) (u1 := .slice none 0 0) (u2 := .slice AY nk cY) (u3 := .slice AX n cX) sYT hne1
        have hbF := below_set3 (b := w.heap.size + 1) (u1 := .slice none 0 0) (u2 := .slice AY nk cY) (u3 := .slice AX n cX) hbT (by omega)
        obtain ⟨s1, s2, s3⟩ := (kT1.set (u1 := .slice none 0 0) (u2 := .slice AY nk cY) (u3 := .slice AX n cX)).cell
        refine bodyPost_ret (v := .agg #[.slice none 0 0, .slice AY nk cY, .slice AX n cX]) (by simp [results, Try.results28, go_sem, s1, s2, s3]) rfl ⟨⟨_, _, _, rfl, ?_⟩, hbF⟩
        rw [FT.out]
        exact kn_keep (Nat.le_refl _) (Nat.le_refl _) (fun _ _ _ => rfl) (fun b hb _ => hback b hb) (kn_of (slv_nil _ _) ⟨AY, cY, rfl, gY, sYF⟩ ⟨AX, cX, rfl, gX, sXF⟩ kXF rfl (by omega) (by omega) (by omega))
      · clear fin
        have d1 : decide ((2 : Int) ≤ (nc : Int)) = false := by simp; omega
        have d2 : decide ((2 : Int) ≤ (nd : Int)) = false := by simp; omega
        have hT2 : T = TreeP.mend KD keys (i - 1) := by
          have := HT.out
          rw [if_neg (by simp only [Kt.cells, Kt.kids, HRC.out, HRD.out]; omega)] at this
          exact this
        obtain ⟨p, hp⟩ : ∃ p, p = i - 1 := ⟨_, rfl⟩
        rw [← hp] at hT2
        have hnn := HN.out
        have hnkk := HNK.out
        have hkll := HKL.out
        have henn := HEN.out
        obtain ⟨a, ha⟩ : ∃ a, KD[p]? = some a := ⟨_, List.getElem?_eq_getElem (by omega)⟩
        obtain ⟨b, hb⟩ : ∃ b, KD[p + 1]? = some b := ⟨_, List.getElem?_eq_getElem (by omega)⟩
        obtain ⟨kk, hkk⟩ : ∃ kk, keys[p]? = some kk := ⟨_, List.getElem?_eq_getElem (by omega)⟩
        obtain ⟨la, ha', Ia⟩ := HALL.out a (List.mem_of_getElem? ha)
        obtain ⟨lb, hb', Ib⟩ := HALL.out b (List.mem_of_getElem? hb)
        unfold TreeP.mend at hT2
        rw [ha, hb, hkk] at hT2
        simp only [] at hT2
        obtain ⟨ad1, x1, x2, x3, e, f1, f2, f3, f4⟩ := kid_at sXT kXT ha
        subst e
        obtain ⟨ad2, z1', z2', z3', e, g1', g2', g3', g4'⟩ := kid_at sXT kXT hb
        obtain rfl : ad1 = ad2 := by injection e
        obtain ⟨ay, hay, hky⟩ := sl_get sYT (k := p) (u := .string kk) (by rw [strs, List.getElem?_map, hkk]; rfl)
        subst hay
        have HP := hide hp
        have HT2 := hide hT2
        have IA := hide Ia
        have IB := hide Ib
        have hpn : p + 2 ≤ n := by omega
        have E1 : 1 ≤ i → (i : Int) - 1 = (p : Int) := fun h => by omega
        have E0 : i ≤ 1 → (0 : Int) = (p : Int) := fun h => by omega
        have c0 : (0 : Int) ≤ (p : Int) := by omega
        have c1' : (p : Int) < (n : Int) := by omega
        have c2' : (p : Int) < (nk : Int) := by omega
        have c3' : (0 : Int) ≤ (p : Int) + 1 := by omega
        have c4' : (p : Int) + 1 < (n : Int) := by omega
        have c5' : IntKind.i64.wrap ((p : Int) + 1) = (p : Int) + 1 := IntWalk.i64_in _ (by omega)
        have c6' : ((p : Int) + 1).toNat = p + 1 := by omega
        clear hp hT2 hnn hnkk hkll henn ha hb hkk Ia Ib e
        go_wp2_with fail
        all_goals generalize hWT : ((wS.setCell ⟨w.heap.size, 0, none⟩ (.slice none 0 0)).setCell ⟨w.heap.size, 1, none⟩ (.slice (some ay) nk cY)).setCell ⟨w.heap.size, 2, none⟩ (.slice (some ad1) n cX) = wT at *
        all_goals clear hWT o1 o2 o3 o4 o5 o6 kBS kbS0 kbS1 kS r2 sX sY hbS' hszS
        all_goals by_cases hA : 1 ≤ i
        all_goals by_cases hB : i ≤ 1
        all_goals try (exfalso; omega)
        all_goals try (have ez := E1 hA; rw [ez]; clear ez)
        all_goals try (have ez := E0 hB; rw [ez]; clear ez)
        all_goals clear E1 E0 hA hB
        all_goals have S0 := And.intro p2 (And.intro p3 (And.intro f1 (And.intro f2 (And.intro f3 (And.intro hky (And.intro g1' (And.intro g2' g3')))))))
        all_goals have HNE0 := hide hne0
        all_goals have HNE1 := hide hne1
        all_goals have HBACK := hide hback
        all_goals have HUP := hide hup
        all_goals have HV := hide hV
        all_goals clear hne0 hne1 hback hV hne b0 b1 p4 p5 p6 p7 p8 p9 p10 p11 p12 d1 d2 z1 z2 z3 l3 y1 y2 y3 y1' y2' y3' kT2
        all_goals have hvT : ∀ b, wT.heap.size ≤ b → V' b := fun b hb => hup b (by omega)
        · go_region_held3 (fun w' => w'.cell? ⟨w.heap.size, 1, none⟩ = some (.slice (some ay) nk cY) ∧ w'.cell? ⟨w.heap.size, 2, none⟩ = some (.slice (some ad1) n cX) ∧ w'.cell? (ad1.add (p * 3)) = some x1 ∧ w'.cell? ⟨(ad1.add (p * 3)).block, (ad1.add (p * 3)).off + 1, none⟩ = some x2 ∧ w'.cell? ⟨(ad1.add (p * 3)).block, (ad1.add (p * 3)).off + 2, none⟩ = some x3 ∧ w'.cell? (ay.add p) = some (.string kk) ∧ w'.cell? (ad1.add ((p + 1) * 3)) = some z1' ∧ w'.cell? ⟨(ad1.add ((p + 1) * 3)).block, (ad1.add ((p + 1) * 3)).off + 1, none⟩ = some z2' ∧ w'.cell? ⟨(ad1.add ((p + 1) * 3)).block, (ad1.add ((p + 1) * 3)).off + 2, none⟩ = some z3')
            (first | exact S0 | exact keep9 S0 hTB)
            (first
              | (go_at_call 39; refine (both_any a b _ la ha' lb hb' x1 x2 x3 z1' z2' z3' kk _ V' ?_ IA.out IB.out f4.drew g4'.drew).mono ?_; (intro b hb; exact hvT b hb); rintro e wB ⟨⟨x, y, vs, rfl, r1, r2, r3⟩, hbB⟩; have hTB : Below wT.heap.size wT wB := (btr (bdr (Below.refl _ _)) hbB)))
          have hbl := bothP_len a b kk
          generalize TreeP.bothP a kk b = bp at *
          obtain ⟨ks, kys⟩ := bp
          simp only [] at r1 r2 r3 hbl
          obtain ⟨AP, cP, rfl, gP, sP⟩ := r1
          obtain ⟨AQ, cQ, rfl, gQ, sQ⟩ := r3
          generalize hnx : ks.length = nx at *
          generalize hnz : kys.length = nz at *
          have HNX := hide hnx
          have HNZ := hide hnz
          have hl1 : nx ≤ 100 := by omega
          have hl2 : nz ≤ 100 := by omega
          have kB0 := kT0.below hTB
          have kB1 := kT1.below hTB
          have s2B := sYT.below hTB
          have s3B := sXT.below hTB
          have k3B := kXT.below hTB
          have hvB : ∀ b, wB.heap.size ≤ b → V' b := fun b hb => hvT b (Nat.le_trans hTB.size hb)
          have hbB2 := btr hbT hTB
          have HVB := hide hvB
          obtain ⟨j1, j2, j3⟩ := kB0.cell
          clear hnx hnz S0 p1 p2 p3 f1 f2 f3 hky g1' g2' g3' f4 g4' kT0 kT1 sYT sXT kXT hvT hbT hbB hTB hvB hbl
          go_wp2_with fail
          refine (swap_at _ (some ay) (some ad1) AP AQ cY cX cP cQ p 2 n nk nx nz _ _ us vs KD ks keys kys _ V' HVB.out rfl rfl HEN.out.symm HNK.out HNX.out.symm HNZ.out.symm s2B gY s3B k3B gX sP r2 sQ hpn (by decide) HKL.out hn100 hl1 hl2).mono ?_
          rintro e wZ ⟨⟨x, y, vs2, rfl, t1, t2, t3⟩, hbZ⟩
          have e21 : p + 2 - 1 = p + 1 := rfl
          rw [e21] at t3
          obtain ⟨KF, hKF⟩ : ∃ KF, KF = KD.take p ++ ks ++ KD.drop (p + 2) := ⟨_, rfl⟩
          obtain ⟨KG, hKG⟩ : ∃ KG, KG = keys.take p ++ kys ++ keys.drop (p + 1) := ⟨_, rfl⟩
          have hT3 : T = .mk [] KG KF := by rw [hKF, hKG]; exact HT2.out
          have hlF : KF.length ≤ 1000 := (by have h1 := HEN.out; have h2 := HNX.out; rw [hKF]; simp only [List.length_append, List.length_take, List.length_drop]; omega)
          have hlG : KG.length ≤ 1000 := (by have h1 := HNK.out; have h2 := HNZ.out; have h3 := HKL.out; rw [hKG]; simp only [List.length_append, List.length_take, List.length_drop]; omega)
          rw [← hKF] at t1 t2
          rw [← hKG] at t3
          obtain ⟨AF, cF, rfl, gF, sF⟩ := t1
          obtain ⟨AG, cG, rfl, gG, sG⟩ := t3
          generalize hnf : KF.length = nf at *
          generalize hng : KG.length = ng at *
          have FT := hide hT3
          have HNF := hide hnf
          have HNG := hide hng
          have kZ1 := kB1.below hbZ
          have hbZ2 := btr hbB2 hbZ
          obtain ⟨j4, j5, j6⟩ := kZ1.cell
          have j7 := kZ1.frozen 0
          have j8 := kZ1.frozen 1
          have j9 := kZ1.frozen 2
          clear hnf hng hKF hKG hT3 e21 s2B s3B k3B sP sQ r2 hbB2 kB0 kB1 j1 j2 j3
          go_wp2_with fail
          · have kXF := knL_set3 (b := w.heap.size + 1) (u1 := .slice none 0 0) (u2 := .slice AG ng cG) (u3 := .slice AF nf cF) t2 HNE1.out
            have sXF := sl_set3 (b := w.heap.size + 1) (u1 := .slice none 0 0) (u2 := .slice AG ng cG) (u3 := .slice AF nf cF) sF HNE1.out
            have sYF := sl_set3 (b := w.heap.size + 1) (u1 := .slice none 0 0) (u2 := .slice AG ng cG) (u3 := .slice AF nf cF) sG HNE1.out
            have hbF := below_set3 (b := w.heap.size + 1) (u1 := .slice none 0 0) (u2 := .slice AG ng cG) (u3 := .slice AF nf cF) hbZ2 (by omega)
            obtain ⟨s1, s2, s3⟩ := (kZ1.set (u1 := .slice none 0 0) (u2 := .slice AG ng cG) (u3 := .slice AF nf cF)).cell
            refine bodyPost_ret (v := .agg #[.slice none 0 0, .slice AG ng cG, .slice AF nf cF]) (by simp [results, Try.results28, go_sem, s1, s2, s3]) rfl ⟨⟨_, _, _, rfl, ?_⟩, hbF⟩
            rw [FT.out]
            exact kn_keep (Nat.le_refl _) (Nat.le_refl _) (fun _ _ _ => rfl) (fun b hb _ => HBACK.out b hb) (kn_of (slv_nil _ _) ⟨AG, cG, rfl, gG, sYF⟩ ⟨AF, cF, rfl, gF, sXF⟩ kXF rfl (by omega) (by omega) (by omega))
        · go_region_held3 (fun w' => w'.cell? ⟨w.heap.size, 1, none⟩ = some (.slice (some ay) nk cY) ∧ w'.cell? ⟨w.heap.size, 2, none⟩ = some (.slice (some ad1) n cX) ∧ w'.cell? (ad1.add (p * 3)) = some x1 ∧ w'.cell? ⟨(ad1.add (p * 3)).block, (ad1.add (p * 3)).off + 1, none⟩ = some x2 ∧ w'.cell? ⟨(ad1.add (p * 3)).block, (ad1.add (p * 3)).off + 2, none⟩ = some x3 ∧ w'.cell? (ay.add p) = some (.string kk) ∧ w'.cell? (ad1.add ((p + 1) * 3)) = some z1' ∧ w'.cell? ⟨(ad1.add ((p + 1) * 3)).block, (ad1.add ((p + 1) * 3)).off + 1, none⟩ = some z2' ∧ w'.cell? ⟨(ad1.add ((p + 1) * 3)).block, (ad1.add ((p + 1) * 3)).off + 2, none⟩ = some z3')
            (first | exact S0 | exact keep9 S0 hTB)
            (first
              | (go_at_call 39; refine (both_any a b _ la ha' lb hb' x1 x2 x3 z1' z2' z3' kk _ V' ?_ IA.out IB.out f4.drew g4'.drew).mono ?_; (intro b hb; exact hvT b hb); rintro e wB ⟨⟨x, y, vs, rfl, r1, r2, r3⟩, hbB⟩; have hTB : Below wT.heap.size wT wB := (btr (bdr (Below.refl _ _)) hbB)))
          have hbl := bothP_len a b kk
          generalize TreeP.bothP a kk b = bp at *
          obtain ⟨ks, kys⟩ := bp
          simp only [] at r1 r2 r3 hbl
          obtain ⟨AP, cP, rfl, gP, sP⟩ := r1
          obtain ⟨AQ, cQ, rfl, gQ, sQ⟩ := r3
          generalize hnx : ks.length = nx at *
          generalize hnz : kys.length = nz at *
          have HNX := hide hnx
          have HNZ := hide hnz
          have hl1 : nx ≤ 100 := by omega
          have hl2 : nz ≤ 100 := by omega
          have kB0 := kT0.below hTB
          have kB1 := kT1.below hTB
          have s2B := sYT.below hTB
          have s3B := sXT.below hTB
          have k3B := kXT.below hTB
          have hvB : ∀ b, wB.heap.size ≤ b → V' b := fun b hb => hvT b (Nat.le_trans hTB.size hb)
          have hbB2 := btr hbT hTB
          have HVB := hide hvB
          obtain ⟨j1, j2, j3⟩ := kB0.cell
          clear hnx hnz S0 p1 p2 p3 f1 f2 f3 hky g1' g2' g3' f4 g4' kT0 kT1 sYT sXT kXT hvT hbT hbB hTB hvB hbl
          go_wp2_with fail
          refine (swap_at _ (some ay) (some ad1) AP AQ cY cX cP cQ p 2 n nk nx nz _ _ us vs KD ks keys kys _ V' HVB.out rfl rfl HEN.out.symm HNK.out HNX.out.symm HNZ.out.symm s2B gY s3B k3B gX sP r2 sQ hpn (by decide) HKL.out hn100 hl1 hl2).mono ?_
          rintro e wZ ⟨⟨x, y, vs2, rfl, t1, t2, t3⟩, hbZ⟩
          have e21 : p + 2 - 1 = p + 1 := rfl
          rw [e21] at t3
          obtain ⟨KF, hKF⟩ : ∃ KF, KF = KD.take p ++ ks ++ KD.drop (p + 2) := ⟨_, rfl⟩
          obtain ⟨KG, hKG⟩ : ∃ KG, KG = keys.take p ++ kys ++ keys.drop (p + 1) := ⟨_, rfl⟩
          have hT3 : T = .mk [] KG KF := by rw [hKF, hKG]; exact HT2.out
          have hlF : KF.length ≤ 1000 := (by have h1 := HEN.out; have h2 := HNX.out; rw [hKF]; simp only [List.length_append, List.length_take, List.length_drop]; omega)
          have hlG : KG.length ≤ 1000 := (by have h1 := HNK.out; have h2 := HNZ.out; have h3 := HKL.out; rw [hKG]; simp only [List.length_append, List.length_take, List.length_drop]; omega)
          rw [← hKF] at t1 t2
          rw [← hKG] at t3
          obtain ⟨AF, cF, rfl, gF, sF⟩ := t1
          obtain ⟨AG, cG, rfl, gG, sG⟩ := t3
          generalize hnf : KF.length = nf at *
          generalize hng : KG.length = ng at *
          have FT := hide hT3
          have HNF := hide hnf
          have HNG := hide hng
          have kZ1 := kB1.below hbZ
          have hbZ2 := btr hbB2 hbZ
          obtain ⟨j4, j5, j6⟩ := kZ1.cell
          have j7 := kZ1.frozen 0
          have j8 := kZ1.frozen 1
          have j9 := kZ1.frozen 2
          clear hnf hng hKF hKG hT3 e21 s2B s3B k3B sP sQ r2 hbB2 kB0 kB1 j1 j2 j3
          go_wp2_with fail
          · have kXF := knL_set3 (b := w.heap.size + 1) (u1 := .slice none 0 0) (u2 := .slice AG ng cG) (u3 := .slice AF nf cF) t2 HNE1.out
            have sXF := sl_set3 (b := w.heap.size + 1) (u1 := .slice none 0 0) (u2 := .slice AG ng cG) (u3 := .slice AF nf cF) sF HNE1.out
            have sYF := sl_set3 (b := w.heap.size + 1) (u1 := .slice none 0 0) (u2 := .slice AG ng cG) (u3 := .slice AF nf cF) sG HNE1.out
            have hbF := below_set3 (b := w.heap.size + 1) (u1 := .slice none 0 0) (u2 := .slice AG ng cG) (u3 := .slice AF nf cF) hbZ2 (by omega)
            obtain ⟨s1, s2, s3⟩ := (kZ1.set (u1 := .slice none 0 0) (u2 := .slice AG ng cG) (u3 := .slice AF nf cF)).cell
            refine bodyPost_ret (v := .agg #[.slice none 0 0, .slice AG ng cG, .slice AF nf cF]) (by simp [results, Try.results28, go_sem, s1, s2, s3]) rfl ⟨⟨_, _, _, rfl, ?_⟩, hbF⟩
            rw [FT.out]
            exact kn_keep (Nat.le_refl _) (Nat.le_refl _) (fun _ _ _ => rfl) (fun b hb _ => HBACK.out b hb) (kn_of (slv_nil _ _) ⟨AG, cG, rfl, gG, sYF⟩ ⟨AF, cF, rfl, gF, sXF⟩ kXF rfl (by omega) (by omega) (by omega))
        · go_region_held3 (fun w' => w'.cell? ⟨w.heap.size, 1, none⟩ = some (.slice (some ay) nk cY) ∧ w'.cell? ⟨w.heap.size, 2, none⟩ = some (.slice (some ad1) n cX) ∧ w'.cell? (ad1.add (p * 3)) = some x1 ∧ w'.cell? ⟨(ad1.add (p * 3)).block, (ad1.add (p * 3)).off + 1, none⟩ = some x2 ∧ w'.cell? ⟨(ad1.add (p * 3)).block, (ad1.add (p * 3)).off + 2, none⟩ = some x3 ∧ w'.cell? (ay.add p) = some (.string kk) ∧ w'.cell? (ad1.add ((p + 1) * 3)) = some z1' ∧ w'.cell? ⟨(ad1.add ((p + 1) * 3)).block, (ad1.add ((p + 1) * 3)).off + 1, none⟩ = some z2' ∧ w'.cell? ⟨(ad1.add ((p + 1) * 3)).block, (ad1.add ((p + 1) * 3)).off + 2, none⟩ = some z3')
            (first | exact S0 | exact keep9 S0 hTB)
            (first
              | (go_at_call 39; refine (both_any a b _ la ha' lb hb' x1 x2 x3 z1' z2' z3' kk _ V' ?_ IA.out IB.out f4.drew g4'.drew).mono ?_; (intro b hb; exact hvT b hb); rintro e wB ⟨⟨x, y, vs, rfl, r1, r2, r3⟩, hbB⟩; have hTB : Below wT.heap.size wT wB := (btr (bdr (Below.refl _ _)) hbB)))
          have hbl := bothP_len a b kk
          generalize TreeP.bothP a kk b = bp at *
          obtain ⟨ks, kys⟩ := bp
          simp only [] at r1 r2 r3 hbl
          obtain ⟨AP, cP, rfl, gP, sP⟩ := r1
          obtain ⟨AQ, cQ, rfl, gQ, sQ⟩ := r3
          generalize hnx : ks.length = nx at *
          generalize hnz : kys.length = nz at *
          have HNX := hide hnx
          have HNZ := hide hnz
          have hl1 : nx ≤ 100 := by omega
          have hl2 : nz ≤ 100 := by omega
          have kB0 := kT0.below hTB
          have kB1 := kT1.below hTB
          have s2B := sYT.below hTB
          have s3B := sXT.below hTB
          have k3B := kXT.below hTB
          have hvB : ∀ b, wB.heap.size ≤ b → V' b := fun b hb => hvT b (Nat.le_trans hTB.size hb)
          have hbB2 := btr hbT hTB
          have HVB := hide hvB
          obtain ⟨j1, j2, j3⟩ := kB0.cell
          clear hnx hnz S0 p1 p2 p3 f1 f2 f3 hky g1' g2' g3' f4 g4' kT0 kT1 sYT sXT kXT hvT hbT hbB hTB hvB hbl
          go_wp2_with fail
          refine (swap_at _ (some ay) (some ad1) AP AQ cY cX cP cQ p 2 n nk nx nz _ _ us vs KD ks keys kys _ V' HVB.out rfl rfl HEN.out.symm HNK.out HNX.out.symm HNZ.out.symm s2B gY s3B k3B gX sP r2 sQ hpn (by decide) HKL.out hn100 hl1 hl2).mono ?_
          rintro e wZ ⟨⟨x, y, vs2, rfl, t1, t2, t3⟩, hbZ⟩
          have e21 : p + 2 - 1 = p + 1 := rfl
          rw [e21] at t3
          obtain ⟨KF, hKF⟩ : ∃ KF, KF = KD.take p ++ ks ++ KD.drop (p + 2) := ⟨_, rfl⟩
          obtain ⟨KG, hKG⟩ : ∃ KG, KG = keys.take p ++ kys ++ keys.drop (p + 1) := ⟨_, rfl⟩
          have hT3 : T = .mk [] KG KF := by rw [hKF, hKG]; exact HT2.out
          have hlF : KF.length ≤ 1000 := (by have h1 := HEN.out; have h2 := HNX.out; rw [hKF]; simp only [List.length_append, List.length_take, List.length_drop]; omega)
          have hlG : KG.length ≤ 1000 := (by have h1 := HNK.out; have h2 := HNZ.out; have h3 := HKL.out; rw [hKG]; simp only [List.length_append, List.length_take, List.length_drop]; omega)
          rw [← hKF] at t1 t2
          rw [← hKG] at t3
          obtain ⟨AF, cF, rfl, gF, sF⟩ := t1
          obtain ⟨AG, cG, rfl, gG, sG⟩ := t3
          generalize hnf : KF.length = nf at *
          generalize hng : KG.length = ng at *
          have FT := hide hT3
          have HNF := hide hnf
          have HNG := hide hng
          have kZ1 := kB1.below hbZ
          have hbZ2 := btr hbB2 hbZ
          obtain ⟨j4, j5, j6⟩ := kZ1.cell
          have j7 := kZ1.frozen 0
          have j8 := kZ1.frozen 1
          have j9 := kZ1.frozen 2
          clear hnf hng hKF hKG hT3 e21 s2B s3B k3B sP sQ r2 hbB2 kB0 kB1 j1 j2 j3
          go_wp2_with fail
          · have kXF := knL_set3 (b := w.heap.size + 1) (u1 := .slice none 0 0) (u2 := .slice AG ng cG) (u3 := .slice AF nf cF) t2 HNE1.out
            have sXF := sl_set3 (b := w.heap.size + 1) (u1 := .slice none 0 0) (u2 := .slice AG ng cG) (u3 := .slice AF nf cF) sF HNE1.out
            have sYF := sl_set3 (b := w.heap.size + 1) (u1 := .slice none 0 0) (u2 := .slice AG ng cG) (u3 := .slice AF nf cF) sG HNE1.out
            have hbF := below_set3 (b := w.heap.size + 1) (u1 := .slice none 0 0) (u2 := .slice AG ng cG) (u3 := .slice AF nf cF) hbZ2 (by omega)
            obtain ⟨s1, s2, s3⟩ := (kZ1.set (u1 := .slice none 0 0) (u2 := .slice AG ng cG) (u3 := .slice AF nf cF)).cell
            refine bodyPost_ret (v := .agg #[.slice none 0 0, .slice AG ng cG, .slice AF nf cF]) (by simp [results, Try.results28, go_sem, s1, s2, s3]) rfl ⟨⟨_, _, _, rfl, ?_⟩, hbF⟩
            rw [FT.out]
            exact kn_keep (Nat.le_refl _) (Nat.le_refl _) (fun _ _ _ => rfl) (fun b hb _ => HBACK.out b hb) (kn_of (slv_nil _ _) ⟨AG, cG, rfl, gG, sYF⟩ ⟨AF, cF, rfl, gF, sXF⟩ kXF rfl (by omega) (by omega) (by omega))
end Go.Proofs.Ytkkddnmpehoeoaa
