/- The walk of layer 20's Put. -/
import Derived.Test.YtkkddnmpehoeoaaTreeDepth
import Derived.Test.YtkkddnmpehoeoaaTreeDelX
namespace Go.Proofs.Ytkkddnmpehoeoaa
open Go.RowKit
open TreeP (Kt Cell kl flat flatL WS Inv InvL InB)
set_option linter.unusedVariables false
attribute [local go_sem ↓] Go.wp_at_zero Go.wp_at_succ

def putR (c : Cell) (t : Kt) : Kt := if chkP t = 0 then TreeP.putT c t else .mk [] [] []
/-- a knot and an errno -/
def PairR (w : World) (V : Nat → Prop) (e : Ending) (t : Kt) (n : Int) : Prop := ∃ x1 x2 x3, e = .returned (.tuple #[.agg #[x1, x2, x3], .int .i64 n]) ∧ Kn w V 1000 x1 x2 x3 t
/-- blocks that were allowed, and new ones -/
def VV (w : World) (V : Nat → Prop) : Nat → Prop := fun b => (V b ∧ b < w.heap.size) ∨ w.heap.size ≤ b
theorem kn_none (w : World) {V : Nat → Prop} : Kn w V 1000 (.slice none 0 0) (.slice none 0 0) (.slice none 0 0) (.mk [] [] []) :=
  kn_of (slv_nil _ _) (slv_nil _ _) (slv_nil _ _) (by rw [KnL]) rfl (by omega) (by omega) (by omega)

set_option maxRecDepth 100000 in
set_option maxHeartbeats 1600000 in
theorem putw_any (c : Cell) (t : Kt) (v1 v2 v3 : Value) (w : World) (V0 : Nat → Prop) (hkn : Kn w V0 1000 v1 v2 v3 t) :
    Calls Try.prog 12 #[.agg #[v1, v2, v3], .string c.1, .string c.2] w fun e w' => PairR w' (VV w V0) e (putR c t) (chkP t) ∧ Below w.heap.size w w' := by
  obtain ⟨T, hT⟩ : ∃ T, T = putR c t := ⟨_, rfl⟩
  obtain ⟨E, hE⟩ : ∃ E, E = chkP t := ⟨_, rfl⟩
  rw [← hT, ← hE]
  have HT := hide hT
  have HE := hide hE
  clear hT hE
  obtain ⟨A1, n1, c1, A2, n2, c2, A3, n3, c3, rfl, rfl, rfl⟩ := kn_shape hkn
  obtain ⟨V', hV'⟩ : ∃ V' : Nat → Prop, V' = fun b => (V0 b ∧ b < w.heap.size) ∨ w.heap.size + 2 ≤ b := ⟨_, rfl⟩
  have hvv : ∀ b, V' b → VV w V0 b := fun b hb => by rw [hV'] at hb; exact hb.imp id fun h => by omega
  have HVV := hide hvv
  clear hvv
  have hup : ∀ b, w.heap.size + 2 ≤ b → V' b := fun b hb => by rw [hV']; exact .inr hb
  have hne1 : ∀ b, V' b → b ≠ w.heap.size + 1 := fun b hb => by rw [hV'] at hb; rcases hb with hb | hb <;> omega
  have hkn' : Kn w V' 1000 (.slice A1 n1 c1) (.slice A2 n2 c2) (.slice A3 n3 c3) t := kn_keep (Nat.le_refl _) (Nat.le_refl _) (fun b _ _ => rfl) (fun b hb hlt => by rw [hV']; exact .inl ⟨hb, hlt⟩) hkn
  clear hV' hkn
  have hbA := ((Below.refl w.heap.size w).alloc (Nat.le_refl _) (.cells #[.slice A1 n1 c1, .slice A2 n2 c2, .slice A3 n3 c3] 26)).alloc (by simp) (.cells #[.slice none 0 0, .slice none 0 0, .slice none 0 0] 26)
  have kb0 : BoxK ((w.alloc (.cells #[.slice A1 n1 c1, .slice A2 n2 c2, .slice A3 n3 c3] 26)).alloc (.cells #[.slice none 0 0, .slice none 0 0, .slice none 0 0] 26)) w.heap.size (.slice A1 n1 c1) (.slice A2 n2 c2) (.slice A3 n3 c3) := blk_under (blk_top rfl)
  have kb1 : BoxK ((w.alloc (.cells #[.slice A1 n1 c1, .slice A2 n2 c2, .slice A3 n3 c3] 26)).alloc (.cells #[.slice none 0 0, .slice none 0 0, .slice none 0 0] 26)) (w.heap.size + 1) (.slice none 0 0) (.slice none 0 0) (.slice none 0 0) := blk_top (by simp)
  have hsz : w.heap.size + 2 ≤ ((w.alloc (.cells #[.slice A1 n1 c1, .slice A2 n2 c2, .slice A3 n3 c3] 26)).alloc (.cells #[.slice none 0 0, .slice none 0 0, .slice none 0 0] 26)).heap.size := by simp
  have hknA := hkn'.below hbA
  clear hkn'
  go_enter Try.func12, Try.ntmps12
  go_wp2_with fail
  generalize (w.alloc (.cells #[.slice A1 n1 c1, .slice A2 n2 c2, .slice A3 n3 c3] 26)).alloc (.cells #[.slice none 0 0, .slice none 0 0, .slice none 0 0] 26) = wA at *
  refine (check_any t _ _ _ _ ?_).mono ?_
  · exact kn_keep (by omega) (Nat.le_refl _) (fun _ _ _ => rfl) (fun b h _ => trivial) hknA
  rintro e w1 ⟨rfl, hb1⟩
  have k0 := kb0.below hb1
  have k1 := kb1.below hb1
  have hkn1 := hknA.below hb1
  have hsz1 : w.heap.size + 2 ≤ w1.heap.size := Nat.le_trans hsz hb1.size
  have hbB := hbA.trans (hb1.mono hbA.size)
  obtain ⟨q1, q2, q3⟩ := k0.cell
  obtain ⟨q4, q5, q6⟩ := k1.cell
  have r1 := k1.frozen 0
  have r2 := k1.frozen 1
  have r3 := k1.frozen 2
  have HK := hide hkn1
  have HUP := hide hup
  have HNE := hide hne1
  clear hbA kb0 kb1 hsz hknA hb1 hkn1 hup hne1
  by_cases hc : chkP t = 0
  · obtain ⟨h, H, _⟩ := chkP_ok.1 hc
    have hT : T = TreeP.putT c t := by rw [HT.out, putR, if_pos hc]
    have hpo := (TreeP.put_ok (c := c) (by omega) H (TreeP.inB_none _)).1
    have hpt := put_any c t 0 2 h none none _ _ _ w1 V' (fun b hb => HUP.out b (by omega)) (by omega) H (TreeP.inB_none _) HK.out
    rw [hc]
    have hE : E = 0 := HE.out.trans hc
    subst hE
    have HPT := hide hpt
    have HPO := hide hpo
    have HT2 := hide hT
    clear hc HT HE H hT hpo hpt
    go_wp2_with fail
    refine HPT.out.mono ?_
    rintro e w2 ⟨⟨x, y, us, rfl, s1, s2, s3⟩, hb2⟩
    have hpo := HPO.out
    have hT := HT2.out
    unfold TreeP.putT at hT
    unfold TreeP.PutOk at hpo
    generalize (TreeP.putP c t).1 = ks at *
    generalize (TreeP.putP c t).2 = kys at *
    obtain ⟨AX, cX, rfl, gX, sX⟩ := s1
    obtain ⟨AY, cY, rfl, gY, sY⟩ := s3
    have k12 := k1.below hb2
    have hbC := hbB.trans (hb2.mono hbB.size)
    obtain ⟨p4, p5, p6⟩ := k12.cell
    have p7 := k12.frozen 0
    have p8 := k12.frozen 1
    have p9 := k12.frozen 2
    clear HPT HPO HT2 q1 q2 q3 q4 q5 q6 r1 r2 r3
    rcases hpo with ⟨k, e1, e2, h3⟩ | ⟨e1, h3⟩
    · subst e1 e2
      obtain rfl : T = k := hT
      simp only [List.length_singleton, List.length_nil] at *
      obtain ⟨ad, x1, x2, x3, e, f1, f2, f3, f4⟩ := kid_at sX s2 (i := 0) (k := T) rfl
      subst e
      have ea : ad.add (0 * 3) = ad := by cases ad; simp [Addr.add]
      rw [ea] at f1 f2 f3
      obtain ⟨B1, o1, t1, B2, o2, t2, B3, o3, t3, rfl, rfl, rfl⟩ := kn_shape f4
      have F4 := hide f4
      clear h3 s2 sX sY f4 ea
      go_wp2_with fail
      have kF := kn_set3 (b := w.heap.size + 1) (u1 := .slice B1 o1 t1) (u2 := .slice B2 o2 t2) (u3 := .slice B3 o3 t3) F4.out HNE.out
      obtain ⟨s1, s2, s3⟩ := (k12.set (u1 := .slice B1 o1 t1) (u2 := .slice B2 o2 t2) (u3 := .slice B3 o3 t3)).cell
      refine bodyPost_ret (v := .tuple #[.agg #[.slice B1 o1 t1, .slice B2 o2 t2, .slice B3 o3 t3], .int .i64 0]) (by simp [results, Try.results12, go_sem, s1, s2, s3]) rfl ⟨⟨_, _, _, rfl, kn_keep (Nat.le_refl _) (Nat.le_refl _) (fun _ _ _ => rfl) (fun b hb _ => HVV.out b hb) kF⟩, below_set3 hbC (by omega)⟩
    · match ks, e1 with
      | [k1', k2'], _ =>
        obtain rfl : T = .mk [] kys [k1', k2'] := hT
        have hl := TreeP.invL_len h3
        simp only [List.length_cons, List.length_nil] at *
        generalize hky : kys.length = nky at *
        clear h3
        go_wp2_with fail
        have kF := knL_set3 (b := w.heap.size + 1) (u1 := .slice none 0 0) (u2 := .slice AY nky cY) (u3 := .slice AX (0 + 1 + 1) cX) s2 HNE.out
        have sXF := sl_set3 (b := w.heap.size + 1) (u1 := .slice none 0 0) (u2 := .slice AY nky cY) (u3 := .slice AX (0 + 1 + 1) cX) sX HNE.out
        have sYF := sl_set3 (b := w.heap.size + 1) (u1 := .slice none 0 0) (u2 := .slice AY nky cY) (u3 := .slice AX (0 + 1 + 1) cX) sY HNE.out
        obtain ⟨s1, s2, s3⟩ := (k12.set (u1 := .slice none 0 0) (u2 := .slice AY nky cY) (u3 := .slice AX (0 + 1 + 1) cX)).cell
        refine bodyPost_ret (v := .tuple #[.agg #[.slice none 0 0, .slice AY nky cY, .slice AX (0 + 1 + 1) cX], .int .i64 0]) (by simp [results, Try.results12, go_sem, s1, s2, s3]) rfl ⟨⟨_, _, _, rfl, kn_keep (Nat.le_refl _) (Nat.le_refl _) (fun _ _ _ => rfl) (fun b hb _ => HVV.out b hb) (kn_of (slv_nil _ _) ⟨AY, cY, rfl, gY, sYF⟩ ⟨AX, cX, rfl, gX, sXF⟩ kF rfl (by omega) (by omega) (by omega))⟩, below_set3 hbC (by omega)⟩
  · have hT : T = .mk [] [] [] := by rw [HT.out, putR, if_neg hc]
    have hc1 := chkP_no hc
    rw [hc1]
    have hE : E = 1 := HE.out.trans hc1
    subst hE
    subst hT
    clear hc hc1 HT HE
    go_wp2_with fail
    obtain ⟨s1, s2, s3⟩ := (k1.set (u1 := .slice none 0 0) (u2 := .slice none 0 0) (u3 := .slice none 0 0)).cell
    refine bodyPost_ret (v := .tuple #[.agg #[.slice none 0 0, .slice none 0 0, .slice none 0 0], .int .i64 1]) (by simp [results, Try.results12, go_sem, s1, s2, s3]) rfl ⟨⟨_, _, _, rfl, kn_none _⟩, below_set3 hbB (by omega)⟩
end Go.Proofs.Ytkkddnmpehoeoaa
