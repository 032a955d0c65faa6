/- The walk of layer 20's Del. -/
import Derived.Test.YtkkddnmpehoeoaaTreePutW
import Derived.Deep.Cut
namespace Go.Proofs.Ytkkddnmpehoeoaa
open Go.RowKit
open TreeP (Kt Cell kl flat flatL WS Inv InvL InB)
set_option linter.unusedVariables false
attribute [local go_sem ↓] Go.wp_at_zero Go.wp_at_succ

/-- Del's answers -/
def delE (key : ByteArray) (t : Kt) : Int := if chkP t = 0 then (if (TreeP.findP key t).isSome then 0 else 6) else 1
def delR (key : ByteArray) (t : Kt) : Kt := if delE key t = 0 then TreeP.delT key t else .mk [] [] []

set_option maxRecDepth 100000 in
set_option maxHeartbeats 1600000 in
theorem delw_any (key : ByteArray) (t : Kt) (v1 v2 v3 : Value) (w : World) (V0 : Nat → Prop) (hkn : Kn w V0 1000 v1 v2 v3 t) :
    Calls Try.prog 13 #[.agg #[v1, v2, v3], .string key] w fun e w' => PairR w' (VV w V0) e (delR key t) (delE key t) ∧ Below w.heap.size w w' := by
  obtain ⟨T, hT⟩ : ∃ T, T = delR key t := ⟨_, rfl⟩
  obtain ⟨E, hE⟩ : ∃ E, E = delE key t := ⟨_, rfl⟩
  rw [← hT, ← hE]
  have HT := hide hT
  have HE := hide hE
  clear hT hE
  obtain ⟨A1, n1, c1, A2, n2, c2, A3, n3, c3, rfl, rfl, rfl⟩ := kn_shape hkn
  obtain ⟨V', hV'⟩ : ∃ V' : Nat → Prop, V' = fun b => (V0 b ∧ b < w.heap.size) ∨ w.heap.size + 2 ≤ b := ⟨_, rfl⟩
  have hvv : ∀ b, V' b → VV w V0 b := fun b hb => by rw [hV'] at hb; exact hb.imp id fun h => by omega
  have HVV := hide hvv
  clear hvv
  have hup : ∀ b, w.heap.size + 2 ≤ b → V' b := fun b hb => by rw [hV']; exact .inr hb
  have hne0 : ∀ b, V' b → b ≠ w.heap.size := fun b hb => by rw [hV'] at hb; rcases hb with hb | hb <;> omega
  have HNE0 := hide hne0
  clear hne0
  have hne1 : ∀ b, V' b → b ≠ w.heap.size + 1 := fun b hb => by rw [hV'] at hb; rcases hb with hb | hb <;> omega
  have hkn' : Kn w V' 1000 (.slice A1 n1 c1) (.slice A2 n2 c2) (.slice A3 n3 c3) t := kn_keep (Nat.le_refl _) (Nat.le_refl _) (fun b _ _ => rfl) (fun b hb hlt => by rw [hV']; exact .inl ⟨hb, hlt⟩) hkn
  clear hV' hkn
  have hbA := ((Below.refl w.heap.size w).alloc (Nat.le_refl _) (.cells #[.slice A1 n1 c1, .slice A2 n2 c2, .slice A3 n3 c3] 26)).alloc (by simp) (.cells #[.slice none 0 0, .slice none 0 0, .slice none 0 0] 26)
  have kb0 : BoxK ((w.alloc (.cells #[.slice A1 n1 c1, .slice A2 n2 c2, .slice A3 n3 c3] 26)).alloc (.cells #[.slice none 0 0, .slice none 0 0, .slice none 0 0] 26)) w.heap.size (.slice A1 n1 c1) (.slice A2 n2 c2) (.slice A3 n3 c3) := blk_under (blk_top rfl)
  have kb1 : BoxK ((w.alloc (.cells #[.slice A1 n1 c1, .slice A2 n2 c2, .slice A3 n3 c3] 26)).alloc (.cells #[.slice none 0 0, .slice none 0 0, .slice none 0 0] 26)) (w.heap.size + 1) (.slice none 0 0) (.slice none 0 0) (.slice none 0 0) := blk_top (by simp)
  have hsz : w.heap.size + 2 ≤ ((w.alloc (.cells #[.slice A1 n1 c1, .slice A2 n2 c2, .slice A3 n3 c3] 26)).alloc (.cells #[.slice none 0 0, .slice none 0 0, .slice none 0 0] 26)).heap.size := by simp
  have hknA := hkn'.below hbA
  clear hkn'
  go_enter Try.func13, Try.ntmps13
  go_wp2_with fail
  generalize (w.alloc (.cells #[.slice A1 n1 c1, .slice A2 n2 c2, .slice A3 n3 c3] 26)).alloc (.cells #[.slice none 0 0, .slice none 0 0, .slice none 0 0] 26) = wA at *
  refine (check_any t _ _ _ _ ?_).mono ?_
  · exact kn_keep (by omega) (Nat.le_refl _) (fun _ _ _ => rfl) (fun b h _ => trivial) hknA
  rintro e w1 ⟨rfl, hb1⟩
  have k0 := kb0.below hb1
  have k1 := kb1.below hb1
  have hkn1 := hknA.below hb1
  have hsz1 : w.heap.size + 2 ≤ w1.heap.size := Nat.le_trans hsz hb1.size
  have hbB := hbA.trans (hb1.mono hbA.size)
  obtain ⟨q1, q2, q3⟩ := k0.cell
  obtain ⟨q4, q5, q6⟩ := k1.cell
  have r1 := k1.frozen 0
  have r2 := k1.frozen 1
  have r3 := k1.frozen 2
  have HK := hide hkn1
  have HUP := hide hup
  have HNE := hide hne1
  clear hbA kb0 kb1 hsz hknA hb1 hkn1 hup hne1
  by_cases hc : chkP t = 0
  · obtain ⟨h, H, _⟩ := chkP_ok.1 hc
    have hfi := find_any key t 0 h none none _ _ _ w1 H (TreeP.inB_none _) (kn_keep (Nat.le_refl _) (Nat.le_refl _) (fun _ _ _ => rfl) (fun _ _ _ => trivial) HK.out)
    have HFI := hide hfi
    have HH := hide H
    have HC := hide hc
    rw [hc]
    clear hfi H hc
    cases hf : TreeP.findP key t with
    | none =>
      rw [hf] at HFI
      have hE : E = 6 := by rw [HE.out, delE, if_pos HC.out, hf]; rfl
      have hT : T = .mk [] [] [] := by rw [HT.out, delR, if_neg (by rw [← HE.out, hE]; decide)]
      subst hE hT
      clear HT HE hf
      go_wp2_with fail
      refine HFI.out.mono ?_
      rintro e w2 ⟨rfl, hb2⟩
      have k12 := k1.below hb2
      have hbC := hbB.trans (hb2.mono hbB.size)
      obtain ⟨p4, p5, p6⟩ := k12.cell
      have p7 := k12.frozen 0
      have p8 := k12.frozen 1
      have p9 := k12.frozen 2
      clear q1 q2 q3 q4 q5 q6 r1 r2 r3
      go_wp2_with fail
      obtain ⟨s1, s2, s3⟩ := (k12.set (u1 := .slice none 0 0) (u2 := .slice none 0 0) (u3 := .slice none 0 0)).cell
      refine bodyPost_ret (v := .tuple #[.agg #[.slice none 0 0, .slice none 0 0, .slice none 0 0], .int .i64 6]) (by simp [results, Try.results13, go_sem, s1, s2, s3]) rfl ⟨⟨_, _, _, rfl, kn_none _⟩, below_set3 hbC (by omega)⟩
    | some v =>
      rw [hf] at HFI
      have hE : E = 0 := by rw [HE.out, delE, if_pos HC.out, hf]; rfl
      have hT : T = TreeP.delT key t := by rw [HT.out, delR, if_pos (by rw [← HE.out, hE])]
      have HT2 := hide hT
      subst hE
      clear HT HE hT
      go_wp2_with fail
      refine HFI.out.mono ?_
      rintro e w2 ⟨rfl, hb2⟩
      have k02 := k0.below hb2
      have k12 := k1.below hb2
      have hbC := hbB.trans (hb2.mono hbB.size)
      have hsz2 : w.heap.size + 2 ≤ w2.heap.size := Nat.le_trans hsz1 hb2.size
      obtain ⟨p4, p5, p6⟩ := k12.cell
      obtain ⟨p1, p2, p3⟩ := k02.cell
      have p7 := k12.frozen 0
      have p8 := k12.frozen 1
      have p9 := k12.frozen 2
      have hkn2 := HK.out.below hb2
      have hg : (TreeP.get (flat t) key).isSome = true := by rw [← TreeP.find_ok (by omega) HH.out (TreeP.inB_none _), hf]; rfl
      have hde := del_any key t 0 h none none _ _ _ w2 V' (fun b hb => HUP.out b (by omega)) HH.out (TreeP.inB_none _) hg hkn2
      have HDE := hide hde
      clear q1 q2 q3 q4 q5 q6 r1 r2 r3 hg hde hkn2 hf HFI k0 k1 hbB hb2
      go_wp2_with fail
      refine HDE.out.mono ?_
      rintro e w3 ⟨⟨u1, u2, u3, rfl, kD⟩, hb3⟩
      have hT := HT2.out
      unfold TreeP.delT at hT
      generalize TreeP.delP key t = r at *
      obtain ⟨rc, ry, rd⟩ := r
      simp only [Kt.kids] at hT
      obtain ⟨⟨U1, e1, rfl, y1, y1', z1⟩, ⟨U2, e2, rfl, y2, y2', z2⟩, U3, e3, uals, rfl, y3, y3', z3, l3⟩ := kn_mk.1 kD
      have k03 := k02.below hb3
      have k13 := k12.below hb3
      have hbD := hbC.trans (hb3.mono hbC.size)
      generalize hrc : rc.length = nc at *
      generalize hry : ry.length = ny at *
      obtain ⟨nd, hnd⟩ : ∃ nd, nd = rd.length := ⟨_, rfl⟩
      rw [← hnd] at y3 y3' z3 kD ⊢
      obtain ⟨o1, o2, o3⟩ := k03.cell
      have o4 := k03.frozen 0
      have o5 := k03.frozen 1
      have o6 := k03.frozen 2
      have kT0 := k03.set (u1 := .slice U1 nc e1) (u2 := .slice U2 ny e2) (u3 := .slice U3 nd e3)
      have kT1 := k13.other (b := w.heap.size) (u1 := .slice U1 nc e1) (u2 := .slice U2 ny e2) (u3 := .slice U3 nd e3) (by omega)
      have kTT := kn_set3 (u1 := .slice U1 nc e1) (u2 := .slice U2 ny e2) (u3 := .slice U3 nd e3) kD HNE0.out
      have sTT := sl_set3 (u1 := .slice U1 nc e1) (u2 := .slice U2 ny e2) (u3 := .slice U3 nd e3) z3 HNE0.out
      have lTT := knL_set3 (u1 := .slice U1 nc e1) (u2 := .slice U2 ny e2) (u3 := .slice U3 nd e3) l3 HNE0.out
      have hbT := below_set3 (u1 := .slice U1 nc e1) (u2 := .slice U2 ny e2) (u3 := .slice U3 nd e3) hbD (b := w.heap.size) (Nat.le_refl _)
      have HKT := hide kTT
      clear p1 p2 p3 p4 p5 p6 p7 p8 p9 hrc hry kD z1 z2 z3 l3 HDE HT2 k03 k13 k02 k12 kTT hbD hbC hb3
      by_cases h1 : nd = 1
      · subst h1
        obtain ⟨a, ha⟩ : ∃ a, rd = [a] := List.length_eq_one_iff.1 hnd.symm
        subst ha
        obtain rfl : T = a := hT
        obtain ⟨ad, x1, x2, x3, e, f1, f2, f3, f4⟩ := kid_at sTT lTT (i := 0) (k := T) rfl
        subst e
        have ea : ad.add (0 * 3) = ad := by cases ad; simp [Addr.add]
        rw [ea] at f1 f2 f3
        obtain ⟨B1, i1, t1, B2, i2, t2, B3, i3, t3, rfl, rfl, rfl⟩ := kn_shape f4
        have F4 := hide f4
        obtain ⟨p1, p2, p3⟩ := kT0.cell
        have p10 := kT0.frozen 0
        have p11 := kT0.frozen 1
        have p12 := kT0.frozen 2
        have kU0 := kT0.set (u1 := .slice B1 i1 t1) (u2 := .slice B2 i2 t2) (u3 := .slice B3 i3 t3)
        have kU1 := kT1.other (b := w.heap.size) (u1 := .slice B1 i1 t1) (u2 := .slice B2 i2 t2) (u3 := .slice B3 i3 t3) (by omega)
        have kUU := kn_set3 (b := w.heap.size) (u1 := .slice B1 i1 t1) (u2 := .slice B2 i2 t2) (u3 := .slice B3 i3 t3) F4.out HNE0.out
        have hbU := below_set3 (u1 := .slice B1 i1 t1) (u2 := .slice B2 i2 t2) (u3 := .slice B3 i3 t3) hbT (b := w.heap.size) (Nat.le_refl _)
        have HUU := hide kUU
        obtain ⟨p13, p14, p15⟩ := kU0.cell
        have p7 := kU1.frozen 0
        have p8 := kU1.frozen 1
        have p9 := kU1.frozen 2
        obtain ⟨p4, p5, p6⟩ := kU1.cell
        clear hnd f4 ea kUU sTT lTT HKT
        go_upto_region 8 with (fail)
        generalize ((w3.setCell ⟨w.heap.size, 0, none⟩ (.slice U1 nc e1)).setCell ⟨w.heap.size, 1, none⟩ (.slice U2 ny e2)).setCell ⟨w.heap.size, 2, none⟩ (.slice (some ad) 1 e3) = wT at *
        clear o1 o2 o3 o4 o5 o6
        go_wp2_with fail
        have kF := kn_set3 (b := w.heap.size + 1) (u1 := .slice B1 i1 t1) (u2 := .slice B2 i2 t2) (u3 := .slice B3 i3 t3) HUU.out HNE.out
        obtain ⟨s1, s2, s3⟩ := (kU1.set (u1 := .slice B1 i1 t1) (u2 := .slice B2 i2 t2) (u3 := .slice B3 i3 t3)).cell
        refine bodyPost_ret (v := .tuple #[.agg #[.slice B1 i1 t1, .slice B2 i2 t2, .slice B3 i3 t3], .int .i64 0]) (by simp [results, Try.results13, go_sem, s1, s2, s3]) rfl ⟨⟨_, _, _, rfl, ?_⟩, below_set3 hbU (by omega)⟩
        exact kn_keep (Nat.le_refl _) (Nat.le_refl _) (fun _ _ _ => rfl) (fun b hb _ => HVV.out b hb) kF
      · have hTr : T = .mk rc ry rd := by
          match rd, hnd, hT with
          | [], _, hT => exact hT
          | [a], hnd, _ => exact absurd hnd h1
          | a :: b :: l, _, hT => exact hT
        have d1 : ((nd : Int) == 1) = false := by simp only [beq_eq_false_iff_ne, ne_eq]; omega
        clear hT h1 hnd
        obtain ⟨p1, p2, p3⟩ := kT0.cell
        obtain ⟨p4, p5, p6⟩ := kT1.cell
        have p7 := kT1.frozen 0
        have p8 := kT1.frozen 1
        have p9 := kT1.frozen 2
        go_wp2_with fail
        have kF := kn_set3 (b := w.heap.size + 1) (u1 := .slice U1 nc e1) (u2 := .slice U2 ny e2) (u3 := .slice U3 nd e3) HKT.out HNE.out
        obtain ⟨s1, s2, s3⟩ := (kT1.set (u1 := .slice U1 nc e1) (u2 := .slice U2 ny e2) (u3 := .slice U3 nd e3)).cell
        refine bodyPost_ret (v := .tuple #[.agg #[.slice U1 nc e1, .slice U2 ny e2, .slice U3 nd e3], .int .i64 0]) (by simp [results, Try.results13, go_sem, s1, s2, s3]) rfl ⟨⟨_, _, _, rfl, ?_⟩, below_set3 hbT (by omega)⟩
        rw [hTr]
        exact kn_keep (Nat.le_refl _) (Nat.le_refl _) (fun _ _ _ => rfl) (fun b hb _ => HVV.out b hb) kF
  · have hE : E = 1 := by rw [HE.out, delE, if_neg hc]
    have hT : T = .mk [] [] [] := by rw [HT.out, delR, if_neg (by rw [← HE.out, hE]; decide)]
    have hc1 := chkP_no hc
    rw [hc1]
    subst hE
    subst hT
    clear hc hc1 HT HE
    go_wp2_with fail
    obtain ⟨s1, s2, s3⟩ := (k1.set (u1 := .slice none 0 0) (u2 := .slice none 0 0) (u3 := .slice none 0 0)).cell
    refine bodyPost_ret (v := .tuple #[.agg #[.slice none 0 0, .slice none 0 0, .slice none 0 0], .int .i64 1]) (by simp [results, Try.results13, go_sem, s1, s2, s3]) rfl ⟨⟨_, _, _, rfl, kn_none _⟩, below_set3 hbB (by omega)⟩
end Go.Proofs.Ytkkddnmpehoeoaa
