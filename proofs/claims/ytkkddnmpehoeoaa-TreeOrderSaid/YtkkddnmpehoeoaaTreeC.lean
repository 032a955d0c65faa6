/- The walks of layer 20's inners, swap. -/
import Derived.Test.YtkkddnmpehoeoaaTreeB
namespace Go.Proofs.Ytkkddnmpehoeoaa
open Go.RowKit
open TreeP (Kt Cell kl flat flatL)
set_option linter.unusedVariables false

set_option maxRecDepth 100000 in
set_option maxHeartbeats 1600000 in
theorem inners_any (A1 A2 : Option Addr) (c1 c2 : Nat) (vals : List Value) (kids : List Kt) (keys : List ByteArray) (w : World) (V : Nat → Prop) (hV : ∀ b, w.heap.size ≤ b → V b) (h1 : Sl w V 3 A1 kids.length vals) (hk : KnL w V 1000 vals kids) (hc1 : kids.length ≤ c1)
    (h2 : Sl w V 1 A2 keys.length (strs keys)) (hc2 : keys.length ≤ c2) (hl : keys.length + 1 = kids.length) (hn : kids.length ≤ 1000) :
    Calls Try.prog 37 #[.slice A1 kids.length c1, .slice A2 keys.length c2] w fun e w' => TwoR w' V 1000 e (TreeP.innersP kids keys).1 (TreeP.innersP kids keys).2 ∧ Below w.heap.size w w' := by
  have hh := halves_K A1 kids.length c1 vals _ w h1 hV hc1 hn (knL_one' hk)
  unfold TreeP.innersP
  by_cases h4 : kids.length ≤ 4
  · simp only [if_pos h4] at hh ⊢
    have hs2 : SlV w V 1 (.slice A2 keys.length c2) keys.length (strs keys) := ⟨A2, c2, rfl, hc2, h2⟩
    go_enter Try.func37, Try.ntmps37
    go_wp2_with fail
    refine hh.mono ?_
    rintro e w1 ⟨a, b, rfl, ⟨Aa, ca, rfl, ga, sa0⟩, ⟨Ab, cb, rfl, gb, sb0⟩, hb⟩
    have sa : SlV w1 V 3 (.slice Aa kids.length ca) kids.length vals := ⟨Aa, ca, rfl, ga, sa0⟩
    clear hh
    go_wp2_with fail
    go_ret2
    have hb2 := (Below.refl w1.heap.size w1).alloc (Nat.le_refl _) (.cells #[.slice none 0 0, .slice A2 keys.length c2, .slice Aa kids.length ca] 26)
    exact ⟨⟨_, _, _, rfl, lit_slv (fun b hb' => hV b (Nat.le_trans hb.size hb')) _ rfl (by simp [maxLen]) (Below.refl _ _), knL_one (kn_of (slv_nil _ _) ((hs2.below hb).below hb2) (sa.below hb2) ((hk.below hb).below hb2) rfl (by omega) (by omega) (by omega)), slv_nil _ _⟩, hb.alloc hb.size _⟩
  · simp only [if_neg h4] at hh ⊢
    obtain ⟨n, hnn⟩ : ∃ n, n = kids.length / 2 := ⟨_, rfl⟩
    rw [← hnn] at hh ⊢
    have hn2 : 2 ≤ n := by omega
    have hnl : n < kids.length := by omega
    have hT := h2.takeN (m := n - 1) (by omega)
    have hD := h2.dropN (k := n) (by omega) hc2
    obtain ⟨x, hx⟩ : ∃ x, keys[n - 1]? = some x := ⟨_, List.getElem?_eq_getElem (by omega)⟩
    rw [hx]
    have hcn : ¬ c2 = n := by omega
    rw [if_neg hcn] at hD
    have hT1 : ∀ u ∈ (strs keys).take ((n - 1) * 1), u.oneCell' = true := fun u hu => strs_one keys u (List.mem_of_mem_take hu)
    have hD1 : ∀ u ∈ (strs keys).drop (n * 1), u.oneCell' = true := fun u hu => strs_one keys u (List.mem_of_mem_drop hu)
    have kT := knL_take hk n
    have kD := knL_drop hk n
    obtain ⟨ax, hax, hcx⟩ := sl_get h2 (k := n - 1) (u := .string x) (by rw [strs, List.getElem?_map, hx]; rfl)
    subst hax
    have hlT : ((strs keys).take ((n - 1) * 1)) = strs (keys.take (n - 1)) := by simp [strs]
    have hlD : ((strs keys).drop (n * 1)) = strs (keys.drop n) := by simp [strs]
    have hi1 : (1 : Int) ≤ (n : Int) := by omega
    have hi2 : ((n : Int) - 1) = ((n - 1 : Nat) : Int) := by omega
    have hi3 : ((n - 1 : Nat) : Int) ≤ (c2 : Int) := by omega
    have hi4 : ((n - 1 : Nat) : Int) < (keys.length : Int) := by omega
    have hi5 : (n : Int) ≤ (keys.length : Int) := by omega
    have hi6 : (n : Int) ≤ (c2 : Int) := by omega
    have hi0 : (0 : Int) ≤ ((n - 1 : Nat) : Int) := by omega
    have hne : (((kids.length - n : Nat) : Int) == 0) = false := by simp; omega
    have HI2 := hide hi2
    have HX := hide hx
    have HN := hide hnn
    clear hi2 hx hnn
    have hax' : Option.map (fun x : Addr => x.add (n * 1)) (some ax) = some (ax.add n) := by simp
    go_enter Try.func37, Try.ntmps37
    go_wp2_with fail
    refine hh.mono ?_
    rintro e w1 ⟨a, b, rfl, ⟨Aa, ca, rfl, ga, sa0⟩, ⟨Ab, cb, rfl, gb, sb0⟩, hb⟩
    have sa : SlV w1 V 3 (.slice Aa n ca) n (vals.take (n * 3)) := ⟨Aa, ca, rfl, ga, sa0⟩
    have sb : SlV w1 V 3 (.slice Ab (kids.length - n) cb) (kids.length - n) (vals.drop (n * 3)) := ⟨Ab, cb, rfl, gb, sb0⟩
    clear hh h1 hk
    go_wp2_with fail
    refine (clone_S _ _ _ _ _ _ (hT.below hb) (by omega) hT1).mono ?_
    rintro e w2 ⟨vl, rfl, ho2, hb2⟩
    obtain ⟨Al, cl, hvl⟩ := own_shape ho2
    subst hvl
    have hb2' := hb.trans (hb2.mono hb.size)
    have b9 : ∀ w', Below (w2.heap.size + 1) (w2.alloc (.cells #[.slice none 0 0, .slice Al (n - 1) cl, .slice Aa n ca] 26)) w' → w'.cell? ⟨w2.heap.size, 0, none⟩ = some (.slice none 0 0) ∧ w'.cell? ⟨w2.heap.size, 1, none⟩ = some (.slice Al (n - 1) cl) ∧ w'.cell? ⟨w2.heap.size, 2, none⟩ = some (.slice Aa n ca) := by
      intro w' h
      have h' : Below (w2.alloc (.cells #[.slice none 0 0, .slice Al (n - 1) cl, .slice Aa n ca] 26)).heap.size (w2.alloc (.cells #[.slice none 0 0, .slice Al (n - 1) cl, .slice Aa n ca] 26)) w' := by rw [World.size_alloc]; exact h
      exact ⟨cell_next (by go_simp) h', cell_next (by go_simp) h', cell_next (by go_simp) h'⟩
    clear hT hT1
    rw [hax'] at hD
    have hDx := hD.below (hb2'.alloc hb2'.size (.cells #[.slice none 0 0, .slice Al (n - 1) cl, .slice Aa n ca] 26))
    go_wp2_with fail
    refine (clone_S _ _ _ _ _ _ hDx (by omega) hD1).mono ?_
    rintro e w3 ⟨vr, rfl, ho3, hb3⟩
    obtain ⟨Ar, cr, hvr⟩ := own_shape ho3
    subst hvr
    rw [World.size_alloc] at hb3
    obtain ⟨q0, q1, q2⟩ := b9 w3 hb3
    have hbx := (hb2'.alloc hb2'.size (.cells #[.slice none 0 0, .slice Al (n - 1) cl, .slice Aa n ca] 26)).trans (hb3.mono (by have := hb2'.size; omega))
    have hb4 := hbx.alloc hbx.size (.cells #[.slice none 0 0, .slice Ar (keys.length - n) cr, .slice Ab (kids.length - n) cb] 26)
    have hst := (Below.refl w3.heap.size w3).alloc (Nat.le_refl _) (.cells #[.slice none 0 0, .slice Ar (keys.length - n) cr, .slice Ab (kids.length - n) cb] 26)
    obtain ⟨r0, r1, r2⟩ : (w3.alloc (.cells #[.slice none 0 0, .slice Ar (keys.length - n) cr, .slice Ab (kids.length - n) cb] 26)).cell? ⟨w3.heap.size, 0, none⟩ = some (.slice none 0 0) ∧
        (w3.alloc (.cells #[.slice none 0 0, .slice Ar (keys.length - n) cr, .slice Ab (kids.length - n) cb] 26)).cell? ⟨w3.heap.size, 1, none⟩ = some (.slice Ar (keys.length - n) cr) ∧
        (w3.alloc (.cells #[.slice none 0 0, .slice Ar (keys.length - n) cr, .slice Ab (kids.length - n) cb] 26)).cell? ⟨w3.heap.size, 2, none⟩ = some (.slice Ab (kids.length - n) cb) := ⟨by go_simp, by go_simp, by go_simp⟩
    have q0' := cell_next q0 hst
    have q1' := cell_next q1 hst
    have q2' := cell_next q2 hst
    have hcx' := cell_next hcx hb4
    have hwr : IntKind.i64.wrap ((n : Int) - 1) = ((n - 1 : Nat) : Int) := by rw [IntWalk.i64_in _ (by omega)]; exact HI2.out
    have hB1 := (hb2.alloc hb2.size (.cells #[.slice none 0 0, .slice Al (n - 1) cl, .slice Aa n ca] 26)).trans (hb3.mono (by have := hb2.size; omega))
    have hB2 := hB1.alloc hB1.size (.cells #[.slice none 0 0, .slice Ar (keys.length - n) cr, .slice Ab (kids.length - n) cb] 26)
    have saA := sa.below hB2
    have sbA := sb.below hB2
    clear hB1
    have so3 := (SlV.own (V := V) ho3 (fun b hb' => hV b (by have := hb2'.size; rw [World.size_alloc] at hb'; omega))).below hst
    have so2 := ((SlV.own (V := V) ho2 (fun b hb' => hV b (Nat.le_trans hb.size hb'))).below ((Below.refl _ w2).alloc (Nat.le_refl _) (.cells #[.slice none 0 0, .slice Al (n - 1) cl, .slice Aa n ca] 26))).below (by rw [World.size_alloc]; exact hb3.trans (hst.mono (by have := hb3.size; rw [World.size_alloc] at this; exact this)))
    clear hD hDx b9 hD1 q0 q1 q2 hst
    go_wp2_with fail
    rw [HI2.out]
    generalize w3.alloc (.cells #[.slice none 0 0, .slice Ar (keys.length - n) cr, .slice Ab (kids.length - n) cb] 26) = wA at *
    have up : ∀ {a : Addr} {v : Value}, wA.cell? a = some v → ∀ o, (wA.alloc o).cell? a = some v := fun h o => cell_next h ((Below.refl _ _).alloc (Nat.le_refl _) o)
    have t0 := up q0'
    have t1 := up q1'
    have t2 := up q2'
    have t3 := up r0
    have t4 := up r1
    have t5 := up r2
    have t6 := up hcx'
    clear up hcx
    go_region
    all_goals go_wp2_with fail
    all_goals go_ret2
    all_goals clear t0 t1 t2 t3 t4 t5 t6 r0 r1 r2 q0' q1' q2' hcx' sa sb
    · obtain ⟨p, q, hz⟩ := lit_two wA (fun b hb' => hV b (Nat.le_trans hb4.size hb')) 26 9 3 1 2 1 #[.slice none 0 0, .slice Al (n - 1) cl, .slice Aa n ca, .slice none 0 0, .slice Ar (keys.length - n) cr, .slice Ab (kids.length - n) cb] #[.string x] rfl rfl (by simp [maxLen]) (by simp [maxLen])
      exact ⟨⟨_, _, _, rfl, p, knL_append (knL_one (kn_of (slv_nil _ _) (hlT ▸ so2.below hz) (saA.below hz) ((kT.below hb4).below hz) rfl (by omega) (by omega) (by omega))) (knL_one (kn_of (slv_nil _ _) (hlD ▸ so3.below hz) (sbA.below hz) ((kD.below hb4).below hz) rfl (by omega) (by omega) (by omega))), q⟩, hb4.trans (hz.mono hb4.size)⟩
    · obtain ⟨q, p, hz⟩ := lit_two wA (fun b hb' => hV b (Nat.le_trans hb4.size hb')) 9 26 1 3 1 2 #[.string x] #[.slice none 0 0, .slice Al (n - 1) cl, .slice Aa n ca, .slice none 0 0, .slice Ar (keys.length - n) cr, .slice Ab (kids.length - n) cb] rfl rfl (by simp [maxLen]) (by simp [maxLen])
      exact ⟨⟨_, _, _, rfl, p, knL_append (knL_one (kn_of (slv_nil _ _) (hlT ▸ so2.below hz) (saA.below hz) ((kT.below hb4).below hz) rfl (by omega) (by omega) (by omega))) (knL_one (kn_of (slv_nil _ _) (hlD ▸ so3.below hz) (sbA.below hz) ((kD.below hb4).below hz) rfl (by omega) (by omega) (by omega))), q⟩, hb4.trans (hz.mono hb4.size)⟩
end Go.Proofs.Ytkkddnmpehoeoaa
