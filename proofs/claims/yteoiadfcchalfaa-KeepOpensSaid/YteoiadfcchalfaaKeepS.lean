/- What Add and Save do to what is kept, in every case: the contracts by which the laws of layer 21 walk. -/
import Derived.Test.YteoiadfcchalfaaKeepR
namespace Go.Proofs.Yteoiadfcchalfaa
open Go.RowKit
open DiskP (Bytes Disk Wr Fate noughts)
open KeepP (Cut Head K Kept okC okH pagesP saveP beginP openP)
open LogP (Log zeroL Live okL Holds)
set_option linter.unusedVariables false

set_option maxRecDepth 100000 in
set_option maxHeartbeats 6400000 in
theorem ksave_full (V : Nat → Prop) (b : Nat) (rv : Value) (k : K) (s : ByteArray) (w : World) (h : KeepAt w V b rv k) (hdead : k.drive.dead = false) (hc : okC k.cut) (hh : k.head.half ≤ 1) (hg : k.head.gen ≤ 4611686018427387903) (hq : k.log.seq ≤ 9000000000000000000) (hs : s.size ≤ 100000) (hroom : ¬ svRoom k (oct s)) :
    Calls Try.prog 56 #[.pointer (some ⟨b, 0, none⟩), .string s] w fun q w' => q = .returned (.int .i64 13) ∧ Below w.heap.size w w' := by
  have hpg := fun w1 => pages_any s w1 (by omega)
  obtain ⟨t, ht⟩ : ∃ t, t = oct s := ⟨_, rfl⟩
  rw [← ht] at hpg hroom
  obtain ⟨np, hnp⟩ : ∃ np, np = (pagesP t).length := ⟨_, rfl⟩
  rw [← hnp] at hpg
  obtain ⟨A, n, c, B, m, e, hB, hD, ho, hne⟩ := h
  obtain ⟨cl, hcl⟩ : ∃ x, x = k.cut.log := ⟨_, rfl⟩
  obtain ⟨cp, hcp⟩ : ∃ x, x = k.cut.pages := ⟨_, rfl⟩
  obtain ⟨gg, hgg⟩ : ∃ x, x = k.head.gen := ⟨_, rfl⟩
  obtain ⟨gf, hgf⟩ : ∃ x, x = k.head.half := ⟨_, rfl⟩
  obtain ⟨sq, hsq⟩ : ∃ x, x = k.log.seq := ⟨_, rfl⟩
  obtain ⟨lf, hlf⟩ : ∃ x, x = k.drive.left := ⟨_, rfl⟩
  obtain ⟨g1, hg1⟩ : ∃ x, x = gg + 1 := ⟨_, rfl⟩
  obtain ⟨f1, hf1⟩ : ∃ x, x = 1 - gf := ⟨_, rfl⟩
  have hB0 := hB
  unfold kcells at hB0
  rw [← hcl, ← hcp, ← hgg, ← hgf, ← hsq, ← hlf, hdead] at hB0
  obtain ⟨Ar, cr, hrv⟩ := own_shape ho
  obtain ⟨nr, hnr⟩ : ∃ nr, nr = k.records.length := ⟨_, rfl⟩
  rw [← hnr] at hrv
  rw [hrv] at hB hB0
  have HR : Hid (cp < np ∨ (¬ cp < np ∧ 4611686018427387903 < g1) ∨ (¬ cp < np ∧ ¬ 4611686018427387903 < g1 ∧ 4611686018427387903 < sq)) := by
    have : ¬ (np ≤ cp ∧ g1 ≤ 4611686018427387903 ∧ sq ≤ 4611686018427387903) := fun ⟨a1, a2, a3⟩ => hroom ⟨by omega, by unfold LogP.maxSeq; omega, by unfold LogP.maxSeq; omega⟩
    show _ ∨ _
    omega
  have ee1 : ((gg : Int) + 1) = (g1 : Int) := by omega
  have ee2 : (1 - (gf : Int)) = (f1 : Int) := by omega
  have w1' : IntKind.i64.wrap (g1 : Int) = (g1 : Int) := IntWalk.i64_in _ (by omega)
  have w2' : IntKind.i64.wrap (f1 : Int) = (f1 : Int) := IntWalk.i64_in _ (by omega)
  have HPG := hide hpg
  obtain ⟨⟨h0, h1⟩, ⟨h2, h3, h4, h5⟩, ⟨h6, h7, _, _⟩, ⟨_, _⟩, _, _, _, h15⟩ := hB0.cell16
  have hlt := hB.lt
  clear hpg ht hnp hB hD ho hne hcl hcp hgg hgf hsq hlf hc hdead hh hg hq hs hroom hrv hnr hg1 hf1
  go_enter Try.func56, Try.ntmps56
  go_wp2_with fail
  refine (HPG.out _).mono ?_
  rintro q w2 ⟨v, rfl, ho2, hb2⟩
  obtain ⟨Al, al, rfl⟩ := own_shape ho2
  have kB2 := hB0.belowS hb2
  clear h0 h1 h2 h3 h4 h5 h6 h7 h15
  have hHO2 := hide ho2
  have HB2 := hide hb2
  have hb20 := hb2
  clear ho2 hb2 HPG
  go_upto_region 4 with (fail)
  refine wp_region_noPanic ?_
  refine RegS.region (ds := [17, 18, 19, 20, 21, 22, 23, 24, 25, 26, 27, 28, 29, 30, 31, 32, 33, 34, 35, 36, 37, 38, 39, 6]) (pure := []) (fresh := [23])
    (G := Gs [.is (.pointer (some ⟨b, 0, none⟩)), .is (.pointer (some ⟨b, 0, none⟩)), .is (.pointer (some ⟨b, 0, none⟩)), .is (.pointer (some ⟨b, 6, none⟩)), .is (.pointer (some ⟨b, 6, none⟩)), .is (.int .i64 (gg : Nat)), .is (.int .i64 (g1 : Nat)), .is (.pointer (some ⟨b, 0, none⟩)), .is (.pointer (some ⟨b, 0, none⟩)), .is (.pointer (some ⟨b, 0, none⟩)), .is (.pointer (some ⟨b, 6, none⟩)), .is (.pointer (some ⟨b, 7, none⟩)), .is (.int .i64 (gf : Nat)), .is (.int .i64 (f1 : Nat)), .is (.pointer (some ⟨b, 0, none⟩)), .is (.pointer (some ⟨b, 0, none⟩)), .is (.pointer (some ⟨b, 0, none⟩)), .is (.pointer (some ⟨b, 12, none⟩)), .is (.pointer (some ⟨b, 15, none⟩)), .is (.int .i64 (sq : Nat)), .is (.slice Al np al), .is (.int .i64 (np : Nat)), .is (.agg #[.int .i64 (g1 : Nat), .int .i64 (f1 : Nat), .int .i64 (sq : Nat), .int .i64 (np : Nat)]), .box w2.heap.size 128 #[.int .i64 0, .int .i64 0, .int .i64 0, .int .i64 0]])
    rfl (by kernel_rfl) (by kernel_rfl) ⟨by kernel_rfl, by kernel_rfl, fun i _ v w w' => gs_keep _ i v w w', ?quiet, ?step⟩ (fun _ _ _ _ _ h => h) ?tail
  case quiet =>
    intro i o hi hp ho u ww hd
    simp at hp
  case step =>
    intro i o hi hp ho u ww hb hd K hK
    obtain rfl | rfl | rfl | rfl | rfl | rfl | rfl | rfl | rfl | rfl | rfl | rfl | rfl | rfl | rfl | rfl | rfl | rfl | rfl | rfl | rfl | rfl | rfl | rfl : i = 0 ∨ i = 1 ∨ i = 2 ∨ i = 3 ∨ i = 4 ∨ i = 5 ∨ i = 6 ∨ i = 7 ∨ i = 8 ∨ i = 9 ∨ i = 10 ∨ i = 11 ∨ i = 12 ∨ i = 13 ∨ i = 14 ∨ i = 15 ∨ i = 16 ∨ i = 17 ∨ i = 18 ∨ i = 19 ∨ i = 20 ∨ i = 21 ∨ i = 22 ∨ i = 23 := by simp at hp hi; omega
    · simp only [List.getElem?_toArray, List.getElem?_cons_zero, Option.some.injEq] at ho
      subst ho
      simp only [RegS.putAll, List.length_cons, List.length_nil, Nat.reduceAdd, List.getD_cons_zero, List.getD_cons_succ, Act.put, List.setIfInBounds_toArray, List.set_cons_zero, List.set_cons_succ]
      go_simp
      exact hK _ _ rfl (Below.refl _ _) rfl (fun h => absurd h (by decide))
    · simp only [List.getElem?_toArray, List.getElem?_cons_succ, List.getElem?_cons_zero, Option.some.injEq] at ho
      subst ho
      simp only [RegS.putAll, List.length_cons, List.length_nil, Nat.reduceAdd, List.getD_cons_zero, List.getD_cons_succ, Act.put, List.setIfInBounds_toArray, List.set_cons_zero, List.set_cons_succ]
      have e0 : u 0 = .pointer (some ⟨b, 0, none⟩) := hd 0 (by decide) (by rfl)
      go_simp
      exact hK _ _ rfl (Below.refl _ _) rfl (fun h => absurd h (by decide))
    · simp only [List.getElem?_toArray, List.getElem?_cons_succ, List.getElem?_cons_zero, Option.some.injEq] at ho
      subst ho
      simp only [RegS.putAll, List.length_cons, List.length_nil, Nat.reduceAdd, List.getD_cons_zero, List.getD_cons_succ, Act.put, List.setIfInBounds_toArray, List.set_cons_zero, List.set_cons_succ]
      have e1 : u 1 = .pointer (some ⟨b, 0, none⟩) := hd 1 (by decide) (by rfl)
      go_simp
      exact hK _ _ rfl (Below.refl _ _) rfl (fun h => absurd h (by decide))
    · simp only [List.getElem?_toArray, List.getElem?_cons_succ, List.getElem?_cons_zero, Option.some.injEq] at ho
      subst ho
      simp only [RegS.putAll, List.length_cons, List.length_nil, Nat.reduceAdd, List.getD_cons_zero, List.getD_cons_succ, Act.put, List.setIfInBounds_toArray, List.set_cons_zero, List.set_cons_succ]
      have e2 : u 2 = .pointer (some ⟨b, 0, none⟩) := hd 2 (by decide) (by rfl)
      go_simp
      exact hK _ _ rfl (Below.refl _ _) rfl (fun h => absurd h (by decide))
    · simp only [List.getElem?_toArray, List.getElem?_cons_succ, List.getElem?_cons_zero, Option.some.injEq] at ho
      subst ho
      simp only [RegS.putAll, List.length_cons, List.length_nil, Nat.reduceAdd, List.getD_cons_zero, List.getD_cons_succ, Act.put, List.setIfInBounds_toArray, List.set_cons_zero, List.set_cons_succ]
      have e3 : u 3 = .pointer (some ⟨b, 6, none⟩) := hd 3 (by decide) (by rfl)
      go_simp
      exact hK _ _ rfl (Below.refl _ _) rfl (fun h => absurd h (by decide))
    · simp only [List.getElem?_toArray, List.getElem?_cons_succ, List.getElem?_cons_zero, Option.some.injEq] at ho
      subst ho
      simp only [RegS.putAll, List.length_cons, List.length_nil, Nat.reduceAdd, List.getD_cons_zero, List.getD_cons_succ, Act.put, List.setIfInBounds_toArray, List.set_cons_zero, List.set_cons_succ]
      have e4 : u 4 = .pointer (some ⟨b, 6, none⟩) := hd 4 (by decide) (by rfl)
      obtain ⟨_, _, ⟨h6, h7, _, _⟩, ⟨_, _⟩, _, _, _, h15⟩ := (kB2.belowS hb).cell16
      go_simp
      exact hK _ _ rfl (Below.refl _ _) rfl (fun h => absurd h (by decide))
    · simp only [List.getElem?_toArray, List.getElem?_cons_succ, List.getElem?_cons_zero, Option.some.injEq] at ho
      subst ho
      simp only [RegS.putAll, List.length_cons, List.length_nil, Nat.reduceAdd, List.getD_cons_zero, List.getD_cons_succ, Act.put, List.setIfInBounds_toArray, List.set_cons_zero, List.set_cons_succ]
      have e5 : u 5 = .int .i64 (gg : Nat) := hd 5 (by decide) (by rfl)
      go_simp
      exact hK _ _ rfl (Below.refl _ _) rfl (fun h => absurd h (by decide))
    · simp only [List.getElem?_toArray, List.getElem?_cons_succ, List.getElem?_cons_zero, Option.some.injEq] at ho
      subst ho
      simp only [RegS.putAll, List.length_cons, List.length_nil, Nat.reduceAdd, List.getD_cons_zero, List.getD_cons_succ, Act.put, List.setIfInBounds_toArray, List.set_cons_zero, List.set_cons_succ]
      go_simp
      exact hK _ _ rfl (Below.refl _ _) rfl (fun h => absurd h (by decide))
    · simp only [List.getElem?_toArray, List.getElem?_cons_succ, List.getElem?_cons_zero, Option.some.injEq] at ho
      subst ho
      simp only [RegS.putAll, List.length_cons, List.length_nil, Nat.reduceAdd, List.getD_cons_zero, List.getD_cons_succ, Act.put, List.setIfInBounds_toArray, List.set_cons_zero, List.set_cons_succ]
      have e7 : u 7 = .pointer (some ⟨b, 0, none⟩) := hd 7 (by decide) (by rfl)
      go_simp
      exact hK _ _ rfl (Below.refl _ _) rfl (fun h => absurd h (by decide))
    · simp only [List.getElem?_toArray, List.getElem?_cons_succ, List.getElem?_cons_zero, Option.some.injEq] at ho
      subst ho
      simp only [RegS.putAll, List.length_cons, List.length_nil, Nat.reduceAdd, List.getD_cons_zero, List.getD_cons_succ, Act.put, List.setIfInBounds_toArray, List.set_cons_zero, List.set_cons_succ]
      have e8 : u 8 = .pointer (some ⟨b, 0, none⟩) := hd 8 (by decide) (by rfl)
      go_simp
      exact hK _ _ rfl (Below.refl _ _) rfl (fun h => absurd h (by decide))
    · simp only [List.getElem?_toArray, List.getElem?_cons_succ, List.getElem?_cons_zero, Option.some.injEq] at ho
      subst ho
      simp only [RegS.putAll, List.length_cons, List.length_nil, Nat.reduceAdd, List.getD_cons_zero, List.getD_cons_succ, Act.put, List.setIfInBounds_toArray, List.set_cons_zero, List.set_cons_succ]
      have e9 : u 9 = .pointer (some ⟨b, 0, none⟩) := hd 9 (by decide) (by rfl)
      go_simp
      exact hK _ _ rfl (Below.refl _ _) rfl (fun h => absurd h (by decide))
    · simp only [List.getElem?_toArray, List.getElem?_cons_succ, List.getElem?_cons_zero, Option.some.injEq] at ho
      subst ho
      simp only [RegS.putAll, List.length_cons, List.length_nil, Nat.reduceAdd, List.getD_cons_zero, List.getD_cons_succ, Act.put, List.setIfInBounds_toArray, List.set_cons_zero, List.set_cons_succ]
      have e10 : u 10 = .pointer (some ⟨b, 6, none⟩) := hd 10 (by decide) (by rfl)
      go_simp
      exact hK _ _ rfl (Below.refl _ _) rfl (fun h => absurd h (by decide))
    · simp only [List.getElem?_toArray, List.getElem?_cons_succ, List.getElem?_cons_zero, Option.some.injEq] at ho
      subst ho
      simp only [RegS.putAll, List.length_cons, List.length_nil, Nat.reduceAdd, List.getD_cons_zero, List.getD_cons_succ, Act.put, List.setIfInBounds_toArray, List.set_cons_zero, List.set_cons_succ]
      have e11 : u 11 = .pointer (some ⟨b, 7, none⟩) := hd 11 (by decide) (by rfl)
      obtain ⟨_, _, ⟨h6, h7, _, _⟩, ⟨_, _⟩, _, _, _, h15⟩ := (kB2.belowS hb).cell16
      go_simp
      exact hK _ _ rfl (Below.refl _ _) rfl (fun h => absurd h (by decide))
    · simp only [List.getElem?_toArray, List.getElem?_cons_succ, List.getElem?_cons_zero, Option.some.injEq] at ho
      subst ho
      simp only [RegS.putAll, List.length_cons, List.length_nil, Nat.reduceAdd, List.getD_cons_zero, List.getD_cons_succ, Act.put, List.setIfInBounds_toArray, List.set_cons_zero, List.set_cons_succ]
      have e12 : u 12 = .int .i64 (gf : Nat) := hd 12 (by decide) (by rfl)
      go_simp
      exact hK _ _ rfl (Below.refl _ _) rfl (fun h => absurd h (by decide))
    · simp only [List.getElem?_toArray, List.getElem?_cons_succ, List.getElem?_cons_zero, Option.some.injEq] at ho
      subst ho
      simp only [RegS.putAll, List.length_cons, List.length_nil, Nat.reduceAdd, List.getD_cons_zero, List.getD_cons_succ, Act.put, List.setIfInBounds_toArray, List.set_cons_zero, List.set_cons_succ]
      go_simp
      exact hK _ _ rfl (Below.refl _ _) rfl (fun h => absurd h (by decide))
    · simp only [List.getElem?_toArray, List.getElem?_cons_succ, List.getElem?_cons_zero, Option.some.injEq] at ho
      subst ho
      simp only [RegS.putAll, List.length_cons, List.length_nil, Nat.reduceAdd, List.getD_cons_zero, List.getD_cons_succ, Act.put, List.setIfInBounds_toArray, List.set_cons_zero, List.set_cons_succ]
      have e14 : u 14 = .pointer (some ⟨b, 0, none⟩) := hd 14 (by decide) (by rfl)
      go_simp
      exact hK _ _ rfl (Below.refl _ _) rfl (fun h => absurd h (by decide))
    · simp only [List.getElem?_toArray, List.getElem?_cons_succ, List.getElem?_cons_zero, Option.some.injEq] at ho
      subst ho
      simp only [RegS.putAll, List.length_cons, List.length_nil, Nat.reduceAdd, List.getD_cons_zero, List.getD_cons_succ, Act.put, List.setIfInBounds_toArray, List.set_cons_zero, List.set_cons_succ]
      have e15 : u 15 = .pointer (some ⟨b, 0, none⟩) := hd 15 (by decide) (by rfl)
      go_simp
      exact hK _ _ rfl (Below.refl _ _) rfl (fun h => absurd h (by decide))
    · simp only [List.getElem?_toArray, List.getElem?_cons_succ, List.getElem?_cons_zero, Option.some.injEq] at ho
      subst ho
      simp only [RegS.putAll, List.length_cons, List.length_nil, Nat.reduceAdd, List.getD_cons_zero, List.getD_cons_succ, Act.put, List.setIfInBounds_toArray, List.set_cons_zero, List.set_cons_succ]
      have e16 : u 16 = .pointer (some ⟨b, 0, none⟩) := hd 16 (by decide) (by rfl)
      go_simp
      exact hK _ _ rfl (Below.refl _ _) rfl (fun h => absurd h (by decide))
    · simp only [List.getElem?_toArray, List.getElem?_cons_succ, List.getElem?_cons_zero, Option.some.injEq] at ho
      subst ho
      simp only [RegS.putAll, List.length_cons, List.length_nil, Nat.reduceAdd, List.getD_cons_zero, List.getD_cons_succ, Act.put, List.setIfInBounds_toArray, List.set_cons_zero, List.set_cons_succ]
      have e17 : u 17 = .pointer (some ⟨b, 12, none⟩) := hd 17 (by decide) (by rfl)
      go_simp
      exact hK _ _ rfl (Below.refl _ _) rfl (fun h => absurd h (by decide))
    · simp only [List.getElem?_toArray, List.getElem?_cons_succ, List.getElem?_cons_zero, Option.some.injEq] at ho
      subst ho
      simp only [RegS.putAll, List.length_cons, List.length_nil, Nat.reduceAdd, List.getD_cons_zero, List.getD_cons_succ, Act.put, List.setIfInBounds_toArray, List.set_cons_zero, List.set_cons_succ]
      have e18 : u 18 = .pointer (some ⟨b, 15, none⟩) := hd 18 (by decide) (by rfl)
      obtain ⟨_, _, ⟨h6, h7, _, _⟩, ⟨_, _⟩, _, _, _, h15⟩ := (kB2.belowS hb).cell16
      go_simp
      exact hK _ _ rfl (Below.refl _ _) rfl (fun h => absurd h (by decide))
    · simp only [List.getElem?_toArray, List.getElem?_cons_succ, List.getElem?_cons_zero, Option.some.injEq] at ho
      subst ho
      simp only [RegS.putAll, List.length_cons, List.length_nil, Nat.reduceAdd, List.getD_cons_zero, List.getD_cons_succ, Act.put, List.setIfInBounds_toArray, List.set_cons_zero, List.set_cons_succ]
      go_simp
      exact hK _ _ rfl (Below.refl _ _) rfl (fun h => absurd h (by decide))
    · simp only [List.getElem?_toArray, List.getElem?_cons_succ, List.getElem?_cons_zero, Option.some.injEq] at ho
      subst ho
      simp only [RegS.putAll, List.length_cons, List.length_nil, Nat.reduceAdd, List.getD_cons_zero, List.getD_cons_succ, Act.put, List.setIfInBounds_toArray, List.set_cons_zero, List.set_cons_succ]
      have e20 : u 20 = .slice Al np al := hd 20 (by decide) (by rfl)
      go_simp
      exact hK _ _ rfl (Below.refl _ _) rfl (fun h => absurd h (by decide))
    · simp only [List.getElem?_toArray, List.getElem?_cons_succ, List.getElem?_cons_zero, Option.some.injEq] at ho
      subst ho
      simp only [RegS.putAll, List.length_cons, List.length_nil, Nat.reduceAdd, List.getD_cons_zero, List.getD_cons_succ, Act.put, List.setIfInBounds_toArray, List.set_cons_zero, List.set_cons_succ]
      have e6 : u 6 = .int .i64 (g1 : Nat) := hd 6 (by decide) (by rfl)
      have e13 : u 13 = .int .i64 (f1 : Nat) := hd 13 (by decide) (by rfl)
      have e19 : u 19 = .int .i64 (sq : Nat) := hd 19 (by decide) (by rfl)
      have e21 : u 21 = .int .i64 (np : Nat) := hd 21 (by decide) (by rfl)
      go_simp
      exact hK _ _ rfl (Below.refl _ _) rfl (fun h => absurd h (by decide))
    · simp only [List.getElem?_toArray, List.getElem?_cons_succ, List.getElem?_cons_zero, Option.some.injEq] at ho
      subst ho
      simp only [RegS.putAll, List.length_cons, List.length_nil, Nat.reduceAdd, List.getD_cons_zero, List.getD_cons_succ, Act.put, List.setIfInBounds_toArray, List.set_cons_zero, List.set_cons_succ]
      go_simp
      exact hK _ _ rfl ((Below.refl _ _).alloc (Nat.le_refl _) _) ⟨_, rfl, hb.size, Box.new _ _ _⟩ fun _ => ⟨rfl, by simp⟩
  case tail =>
    intro u ww hb hG hp hne
    simp only [RegS.putAll, List.length_cons, List.length_nil, Nat.reduceAdd, List.getD_cons_zero, List.getD_cons_succ, Act.put, List.setIfInBounds_toArray, List.set_cons_zero, List.set_cons_succ, List.drop_succ_cons, List.drop_zero]
    have e22 : u 22 = .agg #[.int .i64 (g1 : Nat), .int .i64 (f1 : Nat), .int .i64 (sq : Nat), .int .i64 (np : Nat)] := hG 22 (by decide)
    obtain ⟨b6, e23, l6, k6⟩ := hG 23 (by decide)
    clear hG hp hne
    obtain ⟨q0, q1, q2, q3⟩ := k6.cell4
    have f0 := k6.frozen 0
    have f1' := k6.frozen 1
    have f2' := k6.frozen 2
    have f3' := k6.frozen 3
    have hltb := kB2.lt
    have kB3 := (kB2.belowS hb).far4 (c := b6) (u0 := .int .i64 (g1 : Nat)) (u1 := .int .i64 (f1 : Nat)) (u2 := .int .i64 (sq : Nat)) (u3 := .int .i64 (np : Nat)) (by omega)
    have kH3 := k6.set4 (u0 := .int .i64 (g1 : Nat)) (u1 := .int .i64 (f1 : Nat)) (u2 := .int .i64 (sq : Nat)) (u3 := .int .i64 (np : Nat))
    have hO3 := own_set4o (own_below hHO2.out hb) (b := b6) (fun e => by have := (hHO2.out.lt _ e).2; omega) (.int .i64 (g1 : Nat)) (.int .i64 (f1 : Nat)) (.int .i64 (sq : Nat)) (.int .i64 (np : Nat))
    have hb3 := below_set4 (b := b6) (u0 := .int .i64 (g1 : Nat)) (u1 := .int .i64 (f1 : Nat)) (u2 := .int .i64 (sq : Nat)) (u3 := .int .i64 (np : Nat)) hb l6
    have hbw3 := HB2.out.trans (hb3.mono HB2.out.size)
    obtain ⟨w3, hw3⟩ : ∃ y, y = (((ww.setCell ⟨b6, 0, none⟩ (.int .i64 (g1 : Nat))).setCell ⟨b6, 1, none⟩ (.int .i64 (f1 : Nat))).setCell ⟨b6, 2, none⟩ (.int .i64 (sq : Nat))).setCell ⟨b6, 3, none⟩ (.int .i64 (np : Nat)) := ⟨_, rfl⟩
    rw [← hw3] at kB3 kH3 hO3 hb3 hbw3
    have HW3 := hide hw3
    have HO3 := hide hO3
    have HBW3 := hide hbw3
    clear hw3 hO3 hbw3 hb3 kB2 hb20 hHO2 HB2 k6
    go_wp2_with fail
    refine NoPanic.normal ?_
    rw [← HW3.out]
    go_upto_region 5 with (fail)
    clear HW3 q0 q1 q2 q3 f0 f1' f2' f3' e22
    obtain ⟨⟨h0, h1⟩, _, _, _, _⟩ := kB3.cell16
    obtain ⟨q0, q1, q2, q3⟩ := kH3.cell4
    have HBW := hide HBW3.out
    rcases HR.out with r1 | ⟨r1, r2⟩ | ⟨r1, r2, r3⟩
    · have x1 : decide ((np : Int) > (cp : Int)) = true := by simp; omega
      have x1' : decide (cp < np) = true := by simpa using r1
      clear r1
      go_quiet (fail)
      go_wp2_with fail
      exact bodyPost_ret (v := .int .i64 13) (by simp [results, Try.results56, go_sem]) rfl ⟨rfl, by first | exact HBW.out | exact below_drewN HBW.out _⟩
    · have x1 : decide ((np : Int) > (cp : Int)) = false := by simp; omega
      have x1' : decide (cp < np) = false := by simpa using r1
      have x2 : decide (4611686018427387903 < g1) = true := by simpa using r2
      have y2 : (4611686018427387903 : Int) < (g1 : Int) := by omega
      have z2 : decide ((4611686018427387903 : Int) < (g1 : Int)) = true := by simpa using y2
      clear r1 r2
      go_quiet (fail)
      go_wp2_with fail
      exact bodyPost_ret (v := .int .i64 13) (by simp [results, Try.results56, go_sem]) rfl ⟨rfl, by first | exact HBW.out | exact below_drewN HBW.out _⟩
    · have x1 : decide ((np : Int) > (cp : Int)) = false := by simp; omega
      have x1' : decide (cp < np) = false := by simpa using r1
      have x2 : decide (4611686018427387903 < g1) = false := by simpa using r2
      have y2 : ¬ (4611686018427387903 : Int) < (g1 : Int) := by omega
      have z2 : decide ((4611686018427387903 : Int) < (g1 : Int)) = false := by simpa using y2
      have x3 : decide (4611686018427387903 < sq) = true := by simpa using r3
      have y3 : (4611686018427387903 : Int) < (sq : Int) := by omega
      have z3 : decide ((4611686018427387903 : Int) < (sq : Int)) = true := by simpa using y3
      clear r1 r2 r3
      go_quiet (fail)
      go_wp2_with fail
      exact bodyPost_ret (v := .int .i64 13) (by simp [results, Try.results56, go_sem]) rfl ⟨rfl, by first | exact HBW.out | exact below_drewN HBW.out _⟩

/-- what an Add answers, and leaves -/
def AddE (k : K) (s : Bytes) (k' : K) (e : Nat) : Prop :=
  (e = 1 ∧ 4000 < s.length ∧ k' = k) ∨
  (e = 13 ∧ s.length ≤ 4000 ∧ ¬ LogP.sum k.records + LogP.secs s.length < k.cut.log ∧ k' = k) ∨
  (e = 0 ∧ s.length ≤ 4000 ∧ LogP.sum k.records + LogP.secs s.length < k.cut.log ∧ ∃ d' l', k' = { k with drive := d', records := k.records ++ [s], log := l' } ∧ Kept k' ∧ (k.drive.left = -1 → d'.left = -1)) ∨
  (e = 14 ∧ k.drive.left ≠ -1 ∧ ∃ d', k' = { k with drive := d' } ∧ DiskP.may d' = true ∧ ∀ f : Fate, Kept { k with drive := DiskP.crash d' f } ∨ ∃ l2, Kept { k with drive := DiskP.crash d' f, records := k.records ++ [s], log := l2 })
/-- what a Save answers, and leaves -/
def SaveE (k : K) (t : Bytes) (k' : K) (e : Nat) : Prop :=
  (e = 13 ∧ ¬ svRoom k t ∧ k' = k) ∨
  (e = 0 ∧ svRoom k t ∧ ∃ d', k' = svN k t d' ∧ Kept k' ∧ (k.drive.left = -1 → d'.left = -1)) ∨
  (e = 14 ∧ svRoom k t ∧ k.drive.left ≠ -1 ∧ ∃ d', k' = { k with drive := d' } ∧ DiskP.may d' = true ∧ ∀ f : Fate, Kept { k with drive := DiskP.crash d' f } ∨ Kept (svN k t (DiskP.crash d' f)))
theorem km_row {w : World} {S : Nat → Prop} {rv rv' : Value} (h3 : ∀ g, rv.ownBlock = some g → S g) (g2 : RowOn w rv rv') : ∀ g, rv'.ownBlock = some g → S g ∨ w.heap.size ≤ g := fun g hg => by
  rcases g2 g hg with h | h
  · exact .inl (h3 g h)
  · exact .inr h
theorem km_addG {w : World} {S : Nat → Prop} {b : Nat} {k : K} (h : KM w S b k) (hk : Kept k) (hq : k.head.seq + k.records.length ≤ LogP.maxSeq) (s : ByteArray) (hs : s.size ≤ 1000000) (hrl : k.records.length ≤ 1000000) :
    Calls Try.prog 57 #[.pointer (some ⟨b, 0, none⟩), .string s] w fun q w' => ∃ k' e, q = .returned (.int .i64 (e : Nat)) ∧ KM w' (fun x => S x ∨ w.heap.size ≤ x) b k' ∧ KChg S w w' ∧ AddE k (oct s) k' e := by
  obtain ⟨rv, h1, h2, h3⟩ := h
  have hlv := hk.log.live
  have hz := oct_length s
  have hA := add_any S b rv k s w h1 (hk.log.okL hq) hlv.dead (by rw [hk.log.quiet]; simp) hs hrl
  refine hA.mono ?_
  rintro q w' ⟨rfl, rv', g1, g2, g3⟩
  refine ⟨_, _, rfl, ⟨rv', g1, .inl h2, km_row h3 g2⟩, KChg.of g3 h2 h3, ?_⟩
  rcases hk.add hq (oct s) with ⟨h0, he⟩ | ⟨h0, h4, he⟩ | ⟨h0, h4, d', l', e, he, h5⟩
  · rw [he]
    exact .inl ⟨rfl, h0, by rw [addK]; simp⟩
  · rw [he]
    exact .inr (.inl ⟨rfl, h0, h4, by rw [addK]; simp⟩)
  · rcases h5 with ⟨rfl, hkN, hlN⟩ | ⟨rfl, hl, hm, hf⟩
    · rw [he]
      exact .inr (.inr (.inl ⟨rfl, h0, h4, d', l', by rw [addK]; simp, by rw [addK]; simpa using hkN, hlN⟩))
    · rw [he]
      exact .inr (.inr (.inr ⟨rfl, hl, d', by rw [addK]; simp, hm, hf⟩))
theorem kept_seq {k : K} (hk : Kept k) : k.log.seq = k.head.seq + k.records.length := by rw [hk.log.log]
theorem km_saveG {w : World} {S : Nat → Prop} {b : Nat} {k : K} (h : KM w S b k) (hk : Kept k) (hrl : k.records.length ≤ 1000000) (s : ByteArray) (hs : s.size ≤ 100000) :
    Calls Try.prog 56 #[.pointer (some ⟨b, 0, none⟩), .string s] w fun q w' => ∃ k' e, q = .returned (.int .i64 (e : Nat)) ∧ KM w' (fun x => S x ∨ w.heap.size ≤ x) b k' ∧ KChg S w w' ∧ SaveE k (oct s) k' e := by
  have hlv := hk.log.live
  have hh1 := hk.hd
  have hsq := kept_seq hk
  have hm1 := hh1.2.1
  have hm2 := hh1.2.2.2.2.1
  unfold LogP.maxSeq at hm1 hm2
  by_cases hroom : svRoom k (oct s)
  · obtain ⟨rv, h1, h2, h3⟩ := h
    have hh := svH_ok hk hroom
    obtain ⟨⟨d', e⟩, he⟩ : ∃ r, saveP k.drive k.cut (svH k (oct s)) (pagesP (oct s)) = r := ⟨_, rfl⟩
    have hsv := ksave_any S b rv k s w h1 hlv.may hlv.dead (by rw [hk.log.quiet]; simp) hk.cut hh1.2.2.1 (by omega) (by omega) hs hroom
    rw [he] at hsv
    refine hsv.mono ?_
    rintro q w' ⟨rfl, rv', g1, g2, g3⟩
    refine ⟨_, _, rfl, ⟨rv', g1, .inl h2, km_row h3 g2⟩, KChg.of g3 h2 h3, ?_⟩
    rcases Nat.eq_zero_or_pos e with h0 | h0
    · subst h0
      have hkN : Kept (svN k (oct s) d') := KeepP.opened_save hlv hk.cut hk.opened hh rfl rfl hroom.1 he
      have hdone : DiskP.done k.drive = k.drive.S := by rw [DiskP.done, hk.log.quiet]; rfl
      have hlN := (KeepP.save_ok hlv hk.cut hh rfl hroom.1 (fun s' hs' => by
        rw [hdone, show 1 - (svH k (oct s)).gen % 2 = k.head.gen % 2 by show 1 - (k.head.gen + 1) % 2 = _; omega, hk.here] at hs'
        rw [← Option.some.inj hs']
        exact KeepP.Old.sector hh1 (by show k.head.gen < k.head.gen + 1; omega)) he).2
      exact .inr (.inl ⟨rfl, hroom, d', by rw [svK, if_pos rfl], by rw [svK, if_pos rfl]; exact hkN, hlN⟩)
    · obtain ⟨rfl, hl, hm, _⟩ := KeepP.save_err hlv hk.cut hh rfl hroom.1 he (by omega)
      exact .inr (.inr ⟨rfl, hroom, hl, d', by rw [svK]; simp, hm, fun f => KeepP.save_cut hk hh rfl rfl rfl hroom.1 he (by decide) f⟩)
  · obtain ⟨rv, h1, h2, h3⟩ := h
    refine (ksave_full S b rv k s w h1 hlv.dead hk.cut hh1.2.2.1 (by omega) (by omega) hs hroom).mono ?_
    rintro q w' ⟨rfl, hb⟩
    exact ⟨k, 13, rfl, ⟨rv, (h1.below hb).mono fun x hx _ => .inl hx, .inl h2, fun g hg => .inl (h3 g hg)⟩, KChg.of (Chg.of hb) h2 h3, .inl ⟨rfl, hroom, rfl⟩⟩
theorem km_budget {w : World} {S : Nat → Prop} {b : Nat} {k : K} (h : KM w S b k) (hk : Kept k) (j : Int) (hj : -1 ≤ j) (hj2 : j ≤ 9223372036854775807) :
    Calls Try.prog 65 #[.pointer (some ⟨b, 0, none⟩), .int .i64 j] w fun q w' => q = .returned (.int .i64 0) ∧ KM w' S b { k with drive := { k.drive with left := j } } ∧ Kept { k with drive := { k.drive with left := j } } ∧ KChg S w w' := by
  obtain ⟨rv, h1, h2, h3⟩ := h
  refine (kbudget_any S b rv k j w h1 hk.log.live.may hj hj2).mono ?_
  rintro q w' ⟨rfl, h4, h5⟩
  exact ⟨rfl, ⟨rv, h4, h2, h3⟩, hk.budget hj, KChg.of h5 h2 h3⟩

/-! ### What is kept, crashed and opened -/
theorem reo_disk {w : World} {S : Nat → Prop} {b : Nat} {k : K} (hM : KM w S b k) : ∀ ww, Below w.heap.size w ww → Calls Try.prog 61 #[.pointer (some ⟨b, 0, none⟩)] ww fun q w' => ∃ A n c B m e, q = .returned (.agg #[.slice A n c, .slice B m e, .int .i64 k.drive.left, .bool k.drive.dead]) ∧ Dk w' (fun _ => True) A n c B m e k.drive ∧ Below ww.heap.size ww w' :=
  fun ww hb => (km_disk (hM.below hb)).mono fun q w' ⟨A, n, c, B, m, e, h1, h2, h3⟩ => ⟨A, n, c, B, m, e, h1, h2.mono fun _ _ => trivial, h3⟩
theorem reo_crash {d d5 : Disk} {f : Fate} (hm : DiskP.may d = true) (hd : d5 = DiskP.crash d f) : ∀ (FA : Option Addr) (fc : Nat) ww A n c B m e g, Dk ww (fun _ => True) A n c B m e d → Ft ww (fun _ => True) FA g fc f → Calls Try.prog 37 #[.agg #[.slice A n c, .slice B m e, .int .i64 d.left, .bool d.dead], .agg #[.slice FA g fc, .int .i64 f.torn, .int .i64 f.cut]] ww fun q w' => ∃ A n c B m e, q = .returned (.agg #[.slice A n c, .slice B m e, .int .i64 d5.left, .bool d5.dead]) ∧ Dk w' (fun x => ww.heap.size ≤ x) A n c B m e d5 ∧ Below ww.heap.size ww w' := by
  intro FA fc ww A n c B m e g hD hG
  rw [hd]
  exact km_crash hD hm hG
theorem reo_crash0 {d d5 : Disk} {tn : Int} (hm : DiskP.may d = true) (hd : d5 = DiskP.crash d ⟨[], tn, 0⟩) : ∀ ww A n c B m e, Dk ww (fun _ => True) A n c B m e d → Calls Try.prog 37 #[.agg #[.slice A n c, .slice B m e, .int .i64 d.left, .bool d.dead], .agg #[.slice none 0 0, .int .i64 tn, .int .i64 0]] ww fun q w' => ∃ A n c B m e, q = .returned (.agg #[.slice A n c, .slice B m e, .int .i64 d5.left, .bool d5.dead]) ∧ Dk w' (fun x => ww.heap.size ≤ x) A n c B m e d5 ∧ Below ww.heap.size ww w' := by
  intro ww A n c B m e hD
  rw [hd]
  exact km_crash (f := ⟨[], tn, 0⟩) (V2 := fun _ => True) hD hm ⟨Sl.nil, by decide⟩
theorem reo_open {k5 : K} {cl cp : Int} (h5 : Kept k5) (hl : (k5.cut.log : Int) = cl) (hp : (k5.cut.pages : Int) = cp) : ∀ (V : Nat → Prop) A n c' B m e ww, Dk ww V A n c' B m e k5.drive → Calls Try.prog 60 #[.agg #[.slice A n c', .slice B m e, .int .i64 k5.drive.left, .bool k5.drive.dead], .agg #[.int .i64 cl, .int .i64 cp]] ww fun q w' => ∃ b, q = .returned (.tuple #[.pointer (some ⟨b, 0, none⟩), .int .i64 0]) ∧ KM w' (fun x => V x ∨ ww.heap.size ≤ x) b k5 ∧ ww.heap.size ≤ b ∧ Below ww.heap.size ww w' := by
  intro V A n c' B m e ww hD
  rw [← hl, ← hp]
  exact km_open h5 hD
theorem KM.now {w : World} {S : Nat → Prop} {b : Nat} {k : K} (h : KM w S b k) : KM w (fun x => S x ∧ x < w.heap.size) b k := h.mono fun x hx hl => ⟨hx, hl⟩
theorem reo_text {w : World} {S : Nat → Prop} {b : Nat} {k : K} (hM : KM w S b k) {s : ByteArray} (hs : k.text = oct s) : ∀ ww, Below w.heap.size w ww → Calls Try.prog 55 #[.pointer (some ⟨b, 0, none⟩)] ww fun q w' => q = .returned (.string s) ∧ w' = ww :=
  fun ww hb => (km_text (hM.below hb)).mono fun q w' ⟨h1, h2⟩ => ⟨by rw [h1, hs, mkB_oct], h2.symm⟩
theorem reo_gen {w : World} {S : Nat → Prop} {b : Nat} {k : K} (hM : KM w S b k) {g : Int} (hg : (k.head.gen : Int) = g) : ∀ ww, Below w.heap.size w ww → Calls Try.prog 62 #[.pointer (some ⟨b, 0, none⟩)] ww fun q w' => q = .returned (.int .i64 g) ∧ w' = ww :=
  fun ww hb => (km_gen (hM.below hb)).mono fun q w' ⟨h1, h2⟩ => ⟨by rw [h1, hg], h2.symm⟩
theorem reo_records {w : World} {S : Nat → Prop} {b : Nat} {k : K} (hM : KM w S b k) (hr : k.records.length ≤ 1000000) {l : List Bytes} {n : Nat} (hl : k.records = l) (hn : n = l.length) : ∀ ww, Below w.heap.size w ww → Calls Try.prog 59 #[.pointer (some ⟨b, 0, none⟩)] ww fun q w' => ∃ X xc, q = .returned (.slice X n xc) ∧ Sl w' (fun x => x < w'.heap.size) 1 X n (secV l) ∧ Below ww.heap.size ww w' :=
  fun ww hb => (km_records (hM.below hb) hr).mono fun q w' ⟨v, h1, h2, h3⟩ => by
    rw [hl, ← hn] at h2
    obtain ⟨X, xc, rfl⟩ := own_shape h2
    exact ⟨X, xc, h1, (Sl.of_own h2).lt, h3⟩
end Go.Proofs.Yteoiadfcchalfaa
