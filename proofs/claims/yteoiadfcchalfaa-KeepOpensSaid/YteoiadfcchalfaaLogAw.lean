/- The walk of layer 18's examples. -/
import Derived.Test.YteoiadfcchalfaaRegU
import Derived.Test.YteoiadfcchalfaaSlotB
namespace Go.Proofs.Yteoiadfcchalfaa
open Go.RowKit
open DiskP (Bytes Disk Wr Fate noughts)
open LogP (Log zeroL Live okL)
set_option linter.unusedVariables false

/-- what stands behind the first append -/
def Aw2 (w0 : World) (d1 : Disk) (p q e : Value) (wc : World) : Prop :=
  ∃ b7 b8 A n c B m k, p = .pointer (some ⟨b7, 0, none⟩) ∧ q = .pointer (some ⟨b8, 0, none⟩) ∧ e = .int .i64 0 ∧ w0.heap.size < b7 ∧ w0.heap.size < b8 ∧ b7 ≠ b8 ∧
    Box wc w0.heap.size 67 #[.int .i64 0, .int .i64 4, .int .i64 0, .int .i64 1] ∧ Box wc b7 50 #[.slice A n c, .slice B m k, .int .i64 d1.left, .bool d1.dead] ∧ Box wc b8 67 #[.int .i64 0, .int .i64 4, .int .i64 1, .int .i64 2] ∧
    Dk wc (fun x => w0.heap.size < x ∧ x ≠ b7 ∧ x ≠ b8) A n c B m k d1 ∧ Below w0.heap.size w0 wc

theorem Box.far4 {w : World} {b c : Nat} {T : TypeId} {vs : Array Value} {u0 u1 u2 u3 : Value} (h : Box w b T vs) (hc : c ≠ b) : Box ((((w.setCell ⟨c, 0, none⟩ u0).setCell ⟨c, 1, none⟩ u1).setCell ⟨c, 2, none⟩ u2).setCell ⟨c, 3, none⟩ u3) b T vs :=
  (((h.other (a := ⟨c, 0, none⟩) hc u0).other (a := ⟨c, 1, none⟩) hc u1).other (a := ⟨c, 2, none⟩) hc u2).other (a := ⟨c, 3, none⟩) hc u3
/-- a block of ints, slices and truths holds no string -/
theorem noStr_log {z0 z1 z2 z3 : Int} : ∀ (i : Nat) (s : ByteArray), (#[Value.int .i64 z0, .int .i64 z1, .int .i64 z2, .int .i64 z3] : Array Value)[i]? ≠ some (Value.string s) := by
  intro i s h
  rcases i with _ | _ | _ | _ | i <;> simp at h
theorem noStr_disk {A B : Option Addr} {n c m e : Nat} {lf : Int} {dd : Bool} : ∀ (i : Nat) (s : ByteArray), (#[Value.slice A n c, .slice B m e, .int .i64 lf, .bool dd] : Array Value)[i]? ≠ some (Value.string s) := by
  intro i s h
  rcases i with _ | _ | _ | _ | i <;> simp at h

set_option maxRecDepth 100000 in
set_option maxHeartbeats 1600000 in
theorem awake18_any (w : World) :
    Calls Try.prog 46 #[] w fun q w' => q = .returned (.bool true) ∧ Below w.heap.size w w' := by
  obtain ⟨l0, hl0⟩ : ∃ l : Log, l = ⟨0, 4, 0, 1⟩ := ⟨_, rfl⟩
  have hb1 : Below w.heap.size w (w.alloc (.cells #[.int .i64 0, .int .i64 4, .int .i64 0, .int .i64 1] 67)) := (Below.refl _ _).alloc (Nat.le_refl _) _
  have kL := Box.new w 67 #[.int .i64 0, .int .i64 4, .int .i64 0, .int .i64 1]
  obtain ⟨w1, hw1⟩ : ∃ x, x = w.alloc (.cells #[.int .i64 0, .int .i64 4, .int .i64 0, .int .i64 1] 67) := ⟨_, rfl⟩
  rw [← hw1] at hb1 kL
  have HW := hide hw1
  clear hw1
  have HOK : Hid (okL (DiskP.new 4) l0) := by rw [hl0]; exact ⟨by decide, by decide, by decide, by decide, by decide, by decide⟩
  have HAP : Hid (∀ v : Value, Value.tuple #[v, lgv (LogP.appendP (DiskP.new 4) l0 (oct ⟨#[97, 98, 99]⟩)).2.1, .int .i64 ((LogP.appendP (DiskP.new 4) l0 (oct ⟨#[97, 98, 99]⟩)).2.2 : Nat)] = Value.tuple #[v, lgv ⟨0, 4, 1, 2⟩, .int .i64 0]) := by
    intro v
    have e : (LogP.appendP (DiskP.new 4) ⟨0, 4, 0, 1⟩ [97, 98, 99]).2 = (⟨0, 4, 1, 2⟩, 0) := by kernel_rfl
    rw [hl0, show oct ⟨#[97, 98, 99]⟩ = [97, 98, 99] from rfl, e]
    rfl
  have HL0 := hide hl0
  clear hl0
  go_enter Try.func46, Try.ntmps46
  go_wp2_with fail
  have hw1 := HW.out
  clear HW
  subst hw1
  obtain ⟨d1, hd1⟩ : ∃ d1, d1 = (LogP.appendP (DiskP.new 4) l0 [97, 98, 99]).1 := ⟨_, rfl⟩
  have HD1 := hide hd1
  clear hd1
  have HSC : Hid (∀ (w1 : World) A n c B m k V, Dk w1 V A n c B m k d1 → Calls Try.prog 47 #[dkv A n c B m k d1.left d1.dead, lgv ⟨0, 4, 0, 1⟩] w1 fun q w' => ∃ v, q = .returned (.tuple #[v, lgv ⟨0, 4, 1, 2⟩, .int .i64 0]) ∧ OwnT w' w1.heap.size v [[97, 98, 99]] ∧ Below w1.heap.size w1 w') := by
    intro w1 A n c B m k V hD
    have hok : okL d1 ⟨0, 4, 0, 1⟩ := by rw [HD1.out, HL0.out]; exact ⟨by kernel_rfl, by decide +kernel, by decide, by decide, by decide, by decide⟩
    have e : LogP.scanP d1 ⟨0, 4, 0, 1⟩ = ([[97, 98, 99]], ⟨0, 4, 1, 2⟩, 0) := by rw [HD1.out, HL0.out]; kernel_rfl
    have := scan_any A n c B m k d1 V ⟨0, 4, 0, 1⟩ w1 hD hok
    rw [e] at this
    exact this
  obtain ⟨d2, hd2⟩ : ∃ d2, d2 = (LogP.appendP d1 ⟨0, 4, 1, 2⟩ (List.replicate 400 120)).1 := ⟨_, rfl⟩
  have HAP2 : Hid (∀ (w1 : World) A n c B m k V, Dk w1 V A n c B m k d1 → Calls Try.prog 45 #[dkv A n c B m k d1.left d1.dead, .agg #[.int .i64 0, .int .i64 4, .int .i64 1, .int .i64 2], .string ((reps 120 512).extract 0 400)] w1 fun q w' => ∃ v, q = .returned (.tuple #[v, lgv zeroL, .int .i64 13]) ∧ DkV w' (fun _ => True) v d2 ∧ Below w1.heap.size w1 w') := by
    intro w1 A n c B m k V hD
    have hok : okL d1 ⟨0, 4, 1, 2⟩ := by rw [HD1.out, HL0.out]; exact ⟨by kernel_rfl, by decide +kernel, by decide, by decide, by decide, by decide⟩
    have ho : oct ((reps 120 512).extract 0 400) = List.replicate 400 120 := by rw [oct_extract, oct_reps]; rfl
    have e : (LogP.appendP d1 ⟨0, 4, 1, 2⟩ (List.replicate 400 120)).2 = (zeroL, 13) := by rw [HD1.out, HL0.out]; kernel_rfl
    have hm : m = 0 := by rw [← hD.wlen, HD1.out, HL0.out]; kernel_rfl
    have := append_any A n c B m k d1 V ⟨0, 4, 1, 2⟩ ((reps 120 512).extract 0 400) w1 hD hok (by omega) (by rw [← oct_length, ho]; decide)
    rw [ho, e, ← hd2] at this
    exact this.mono fun q w' ⟨v, h1, h2, h3⟩ => ⟨v, h1, h2.mono fun _ _ => trivial, h3⟩
  clear hd2
  go_cut [2, 3, 4] from 12 to 18 (fun p q e wc => Aw2 w d1 p q e wc)
  case rest =>
    obtain ⟨b7, b8, A, n, c, B, m, k, rfl, rfl, rfl, l7, l8, h78, kL1, k7, k8, hD, hbw⟩ := hcut
    have hsc := HSC.out wc A n c B m k _ hD
    have HS := hide hsc
    clear hsc kL
    obtain ⟨q0, q1, q2, q3⟩ := k7.cell4
    obtain ⟨r0, r1, r2, r3⟩ := kL1.cell4
    go_wp2_with fail
    refine HS.out.mono ?_
    rintro q w3 ⟨v, rfl, hx, hb3⟩
    have kL3 := kL1.belowS hb3
    have k73 := k7.belowS hb3
    have k83 := k8.belowS hb3
    have hbw3 := hbw.trans (hb3.mono hbw.size)
    have hD3 := hD.lt'.below hb3
    clear HS q0 q1 q2 q3 r0 r1 r2 r3
    go_wp2_with fail
    obtain ⟨X, xc, rfl⟩ := own_shape hx
    have hb4 : Below w3.heap.size w3 (w3.alloc (.cells #[.int .i64 0, .int .i64 4, .int .i64 1, .int .i64 2] 67)) := (Below.refl _ _).alloc (Nat.le_refl _) _
    have hX4 := (Sl.of_own hx).below hb4
    have k64 : Box (w3.alloc (.cells #[.int .i64 0, .int .i64 4, .int .i64 1, .int .i64 2] 67)) w3.heap.size 67 #[.int .i64 0, .int .i64 4, .int .i64 1, .int .i64 2] := Box.new w3 _ _
    have k74 := k73.belowS hb4
    have k84 := k83.belowS hb4
    have hD4 := hD3.below hb4
    have hbw4 := hbw3.trans (hb4.mono hbw3.size)
    have hl3 := hbw3.size
    have l83 := k83.lt
    clear kL3 k73 k83 hbw3 hx hb3 hbw kL1 k7 k8 hD3
    go_cut [10] from 26 to 34 (fun g wc => g = .int .i64 13 ∧ Box wc w3.heap.size 67 #[.int .i64 0, .int .i64 4, .int .i64 1, .int .i64 2] ∧ Box wc b8 67 #[.int .i64 0, .int .i64 4, .int .i64 1, .int .i64 2] ∧ Sl wc (fun _ => True) 1 X 1 (secV [[97, 98, 99]]) ∧ Below w.heap.size w wc)
    case rest =>
      obtain ⟨rfl, k6, k8, hX, hb⟩ := hcut
      obtain ⟨q0, q1, q2, q3⟩ := k6.cell4
      obtain ⟨r0, r1, r2, r3⟩ := k8.cell4
      have hX2 := hX.below ((Below.refl _ _).alloc (Nat.le_refl _) (.cells #[.string ⟨#[97, 98, 99]⟩] 9))
      clear hD4 hX4 hb4 hbw4 k64 k74 k84 HAP2 HAP HOK HD1 HL0 l83 hl3 hX
      go_wp2_with fail
      refine (same_any X (some ⟨wc.heap.size, 0, none⟩) 1 1 xc 1 [mkB [97, 98, 99]] [⟨#[97, 98, 99]⟩] _ _ _ hX2 (sl_lit wc _ _ rfl (by decide)) (by omega)).mono ?_
      rintro e w5 ⟨rfl, q, rfl⟩
      rw [show decide (octs [mkB [97, 98, 99]] = octs [(⟨#[97, 98, 99]⟩ : ByteArray)]) = true from by decide]
      have hb5 := below_drewN ((Below.refl wc.heap.size wc).alloc (Nat.le_refl _) (.cells #[.string ⟨#[97, 98, 99]⟩] 9)) q
      have hbw5 := hb.trans (hb5.mono hb.size)
      obtain ⟨s0, s1, s2, s3⟩ := (k6.belowS hb5).cell4
      obtain ⟨t0, t1, t2, t3⟩ := (k8.belowS hb5).cell4
      clear q0 q1 q2 q3 r0 r1 r2 r3 hX2 k6 k8 hb
      go_wp2_with fail
      go_ret
      exact ⟨rfl, hbw5⟩
    refine wp_region_noPanic ?_
    refine RegS.region (ds := [27, 28, 29, 30, 31, 26, 32, 33, 34, 8, 9]) (pure := [5, 6, 7, 8]) (fresh := [9, 10])
      (G := Gs [.is (dkv A n c B m k d1.left d1.dead), .is (.agg #[.int .i64 0, .int .i64 4, .int .i64 1, .int .i64 2]), .is (.string (reps 120 512)), .is (.string ((reps 120 512).extract 0 400)), .three (.dk (fun _ => True) d2) (lgv zeroL) (.int .i64 13), .three (.dk (fun _ => True) d2) (lgv zeroL) (.int .i64 13), .dk (fun _ => True) d2, .is (lgv zeroL), .is (.int .i64 13), .box (w3.alloc (.cells #[.int .i64 0, .int .i64 4, .int .i64 1, .int .i64 2] 67)).heap.size 50 #[.slice none 0 0, .slice none 0 0, .int .i64 0, .bool false], .box (w3.alloc (.cells #[.int .i64 0, .int .i64 4, .int .i64 1, .int .i64 2] 67)).heap.size 67 #[.int .i64 0, .int .i64 0, .int .i64 0, .int .i64 0]])
      rfl (by kernel_rfl) (by kernel_rfl) ⟨by kernel_rfl, by kernel_rfl, fun i _ v w w' => gs_keep _ i v w w', ?quiet, ?step⟩ (fun _ _ _ _ _ h => h) ?tail
    case quiet =>
      intro i o hi hp ho u ww hd
      obtain rfl | rfl | rfl | rfl : i = 5 ∨ i = 6 ∨ i = 7 ∨ i = 8 := by simp at hp; omega
      · simp only [List.getElem?_toArray, List.getElem?_cons_succ, List.getElem?_cons_zero, Option.some.injEq] at ho
        subst ho
        simp only [RegS.putAll, List.length_cons, List.length_nil, Nat.reduceAdd, List.getD_cons_zero, List.getD_cons_succ, Act.put, List.setIfInBounds_toArray, List.set_cons_zero, List.set_cons_succ]
        exact ⟨_, fun _ => rfl, hd 4 (by decide) (by rfl)⟩
      · simp only [List.getElem?_toArray, List.getElem?_cons_succ, List.getElem?_cons_zero, Option.some.injEq] at ho
        subst ho
        simp only [RegS.putAll, List.length_cons, List.length_nil, Nat.reduceAdd, List.getD_cons_zero, List.getD_cons_succ, Act.put, List.setIfInBounds_toArray, List.set_cons_zero, List.set_cons_succ]
        obtain ⟨x, e, h⟩ := hd 5 (by decide) (by rfl)
        rw [e]
        exact ⟨_, fun _ => rfl, h⟩
      · simp only [List.getElem?_toArray, List.getElem?_cons_succ, List.getElem?_cons_zero, Option.some.injEq] at ho
        subst ho
        simp only [RegS.putAll, List.length_cons, List.length_nil, Nat.reduceAdd, List.getD_cons_zero, List.getD_cons_succ, Act.put, List.setIfInBounds_toArray, List.set_cons_zero, List.set_cons_succ]
        obtain ⟨x, e, h⟩ := hd 5 (by decide) (by rfl)
        rw [e]
        exact ⟨_, fun _ => rfl, rfl⟩
      · simp only [List.getElem?_toArray, List.getElem?_cons_succ, List.getElem?_cons_zero, Option.some.injEq] at ho
        subst ho
        simp only [RegS.putAll, List.length_cons, List.length_nil, Nat.reduceAdd, List.getD_cons_zero, List.getD_cons_succ, Act.put, List.setIfInBounds_toArray, List.set_cons_zero, List.set_cons_succ]
        obtain ⟨x, e, h⟩ := hd 5 (by decide) (by rfl)
        rw [e]
        exact ⟨_, fun _ => rfl, rfl⟩
    case step =>
      intro i o hi hp ho u ww hb hd K hK
      obtain rfl | rfl | rfl | rfl | rfl | rfl | rfl : i = 0 ∨ i = 1 ∨ i = 2 ∨ i = 3 ∨ i = 4 ∨ i = 9 ∨ i = 10 := by simp at hp hi; omega
      · simp only [List.getElem?_toArray, List.getElem?_cons_zero, Option.some.injEq] at ho
        subst ho
        simp only [RegS.putAll, List.length_cons, List.length_nil, Nat.reduceAdd, List.getD_cons_zero, List.getD_cons_succ, Act.put, List.setIfInBounds_toArray, List.set_cons_zero, List.set_cons_succ]
        obtain ⟨q0, q1, q2, q3⟩ := (k74.belowS hb).cell4
        go_simp
        exact hK _ _ rfl (Below.refl _ _) rfl (fun h => absurd h (by decide))
      · simp only [List.getElem?_toArray, List.getElem?_cons_succ, List.getElem?_cons_zero, Option.some.injEq] at ho
        subst ho
        simp only [RegS.putAll, List.length_cons, List.length_nil, Nat.reduceAdd, List.getD_cons_zero, List.getD_cons_succ, Act.put, List.setIfInBounds_toArray, List.set_cons_zero, List.set_cons_succ]
        obtain ⟨q0, q1, q2, q3⟩ := (k84.belowS hb).cell4
        go_simp
        exact hK _ _ rfl (Below.refl _ _) rfl (fun h => absurd h (by decide))
      · simp only [List.getElem?_toArray, List.getElem?_cons_succ, List.getElem?_cons_zero, Option.some.injEq] at ho
        subst ho
        simp only [RegS.putAll, List.length_cons, List.length_nil, Nat.reduceAdd, List.getD_cons_zero, List.getD_cons_succ, Act.put, List.setIfInBounds_toArray, List.set_cons_zero, List.set_cons_succ]
        go_simp
        refine (all17_any 120 4 512 _ rfl (by decide)).mono ?_
        rintro q w2 ⟨rfl, hb2⟩
        exact hK _ _ rfl hb2 rfl (fun h => absurd h (by decide))
      · simp only [List.getElem?_toArray, List.getElem?_cons_succ, List.getElem?_cons_zero, Option.some.injEq] at ho
        subst ho
        simp only [RegS.putAll, List.length_cons, List.length_nil, Nat.reduceAdd, List.getD_cons_zero, List.getD_cons_succ, Act.put, List.setIfInBounds_toArray, List.set_cons_zero, List.set_cons_succ]
        have e : u 2 = .string (reps 120 512) := hd 2 (by decide) (by rfl)
        have hz : (400 : Int) ≤ ((reps 120 512).size : Int) := by rw [reps_size]; decide
        go_simp
        exact hK _ _ rfl (Below.refl _ _) rfl (fun h => absurd h (by decide))
      · simp only [List.getElem?_toArray, List.getElem?_cons_succ, List.getElem?_cons_zero, Option.some.injEq] at ho
        subst ho
        simp only [RegS.putAll, List.length_cons, List.length_nil, Nat.reduceAdd, List.getD_cons_zero, List.getD_cons_succ, Act.put, List.setIfInBounds_toArray, List.set_cons_zero, List.set_cons_succ]
        have e0 : u 0 = dkv A n c B m k d1.left d1.dead := hd 0 (by decide) (by rfl)
        have e1 : u 1 = (.agg #[.int .i64 0, .int .i64 4, .int .i64 1, .int .i64 2]) := hd 1 (by decide) (by rfl)
        have e3 : u 3 = .string ((reps 120 512).extract 0 400) := hd 3 (by decide) (by rfl)
        go_simp
        refine (HAP2.out _ A n c B m k _ (hD4.below hb)).mono ?_
        rintro q w2 ⟨v, rfl, hv, hb2⟩
        exact hK _ _ rfl hb2 ⟨_, rfl, hv⟩ (fun h => absurd h (by decide))
      · simp only [List.getElem?_toArray, List.getElem?_cons_succ, List.getElem?_cons_zero, Option.some.injEq] at ho
        subst ho
        simp only [RegS.putAll, List.length_cons, List.length_nil, Nat.reduceAdd, List.getD_cons_zero, List.getD_cons_succ, Act.put, List.setIfInBounds_toArray, List.set_cons_zero, List.set_cons_succ]
        go_simp
        exact hK _ _ rfl ((Below.refl _ _).alloc (Nat.le_refl _) _) ⟨_, rfl, hb.size, Box.new _ _ _⟩ fun _ => ⟨rfl, by simp⟩
      · simp only [List.getElem?_toArray, List.getElem?_cons_succ, List.getElem?_cons_zero, Option.some.injEq] at ho
        subst ho
        simp only [RegS.putAll, List.length_cons, List.length_nil, Nat.reduceAdd, List.getD_cons_zero, List.getD_cons_succ, Act.put, List.setIfInBounds_toArray, List.set_cons_zero, List.set_cons_succ]
        go_simp
        exact hK _ _ rfl ((Below.refl _ _).alloc (Nat.le_refl _) _) ⟨_, rfl, hb.size, Box.new _ _ _⟩ fun _ => ⟨rfl, by simp⟩
    case tail =>
      intro u ww hb hG hp hne
      simp only [RegS.putAll, List.length_cons, List.length_nil, Nat.reduceAdd, List.getD_cons_zero, List.getD_cons_succ, Act.put, List.setIfInBounds_toArray, List.set_cons_zero, List.set_cons_succ, List.drop_succ_cons, List.drop_zero]
      obtain ⟨A2, n2, c2, B2, m2, e2, e6, hD2⟩ := hG 6 (by decide)
      have e7 : u 7 = .agg #[.int .i64 0, .int .i64 0, .int .i64 0, .int .i64 0] := hG 7 (by decide)
      have e8 : u 8 = .int .i64 13 := hG 8 (by decide)
      obtain ⟨b9, e9, l9, k9⟩ := hG 9 (by decide)
      obtain ⟨b10, e10, l10, k10⟩ := hG 10 (by decide)
      rw [World.size_alloc] at l9 l10
      have k65 := k64.belowS hb
      have k85 := k84.belowS hb
      have hX5 := (hX4.lt.below hb).mono (V' := fun x => x < w3.heap.size + 1) (fun x hx => by have := hx; rw [World.size_alloc] at this; exact this)
      have hbw5 := hbw4.trans (hb.mono hbw4.size)
      clear hG hp hne HAP2 HD1 hD2 hX4 hD4 k74 k64 k84
      obtain ⟨q0, q1, q2, q3⟩ := k9.cell4
      obtain ⟨r0, r1, r2, r3⟩ := k10.cell4
      have f0 := k9.frozen 0
      have f1 := k9.frozen 1
      have f2 := k9.frozen 2
      have f3 := k9.frozen 3
      have g0 := k10.frozen 0
      have g1 := k10.frozen 1
      have g2 := k10.frozen 2
      have g3 := k10.frozen 3
      have hne910 : b9 ≠ b10 := by
        intro e
        subst e
        have := k9.symm.trans k10
        simp at this
      go_wp2_with fail
      refine NoPanic.normal ?_
      go_wp2_with fail
      go_meet
      refine ⟨e8, ?_, ?_, ?_, ?_⟩
      · exact (k65.far4 (by omega)).far4 (by omega)
      · exact (k85.far4 (by omega)).far4 (by omega)
      · exact (hX5.keep (by rw [set4_size, set4_size]; exact Nat.le_refl _) fun x hx _ => by rw [set4_far (by omega), set4_far (by omega)]).mono fun _ _ => trivial
      · exact below_set4 (below_set4 hbw5 (by omega)) (by omega)
  refine wp_region_noPanic ?_
  have hB1 : w.heap.size < (w.alloc (.cells #[.int .i64 0, .int .i64 4, .int .i64 0, .int .i64 1] 67)).heap.size := kL.lt
  refine RegS.region (ds := [13, 14, 15, 12, 16, 17, 18, 2, 3]) (pure := [3, 4, 5, 6]) (fresh := [7, 8])
    (G := Gs [.dk (fun b => w.heap.size < b) (DiskP.new 4), .is (lgv l0), .three (.dk (fun b => w.heap.size < b) d1) (lgv ⟨0, 4, 1, 2⟩) (.int .i64 0), .three (.dk (fun b => w.heap.size < b) d1) (lgv ⟨0, 4, 1, 2⟩) (.int .i64 0),
      .dk (fun b => w.heap.size < b) d1, .is (lgv ⟨0, 4, 1, 2⟩), .is (.int .i64 0), .box w.heap.size 50 #[.slice none 0 0, .slice none 0 0, .int .i64 0, .bool false], .box w.heap.size 67 #[.int .i64 0, .int .i64 0, .int .i64 0, .int .i64 0]])
    rfl (by kernel_rfl) (by kernel_rfl) ⟨by kernel_rfl, by kernel_rfl, fun i _ v w w' => gs_keep _ i v w w', ?quiet, ?step⟩ (fun _ _ _ _ _ h => h) ?tail
  case quiet =>
    intro i o hi hp ho u w' hd
    obtain rfl | rfl | rfl | rfl : i = 3 ∨ i = 4 ∨ i = 5 ∨ i = 6 := by simp at hp; omega
    · simp only [List.getElem?_toArray, List.getElem?_cons_succ, List.getElem?_cons_zero, Option.some.injEq] at ho
      subst ho
      simp only [RegS.putAll, List.length_cons, List.length_nil, Nat.reduceAdd, List.getD_cons_zero, List.getD_cons_succ, Act.put, List.setIfInBounds_toArray, List.set_cons_zero, List.set_cons_succ]
      exact ⟨_, fun _ => rfl, hd 2 (by decide) (by rfl)⟩
    · simp only [List.getElem?_toArray, List.getElem?_cons_succ, List.getElem?_cons_zero, Option.some.injEq] at ho
      subst ho
      simp only [RegS.putAll, List.length_cons, List.length_nil, Nat.reduceAdd, List.getD_cons_zero, List.getD_cons_succ, Act.put, List.setIfInBounds_toArray, List.set_cons_zero, List.set_cons_succ]
      obtain ⟨x, e, h⟩ := hd 3 (by decide) (by rfl)
      rw [e]
      exact ⟨_, fun _ => rfl, h⟩
    · simp only [List.getElem?_toArray, List.getElem?_cons_succ, List.getElem?_cons_zero, Option.some.injEq] at ho
      subst ho
      simp only [RegS.putAll, List.length_cons, List.length_nil, Nat.reduceAdd, List.getD_cons_zero, List.getD_cons_succ, Act.put, List.setIfInBounds_toArray, List.set_cons_zero, List.set_cons_succ]
      obtain ⟨x, e, h⟩ := hd 3 (by decide) (by rfl)
      rw [e]
      exact ⟨_, fun _ => rfl, rfl⟩
    · simp only [List.getElem?_toArray, List.getElem?_cons_succ, List.getElem?_cons_zero, Option.some.injEq] at ho
      subst ho
      simp only [RegS.putAll, List.length_cons, List.length_nil, Nat.reduceAdd, List.getD_cons_zero, List.getD_cons_succ, Act.put, List.setIfInBounds_toArray, List.set_cons_zero, List.set_cons_succ]
      obtain ⟨x, e, h⟩ := hd 3 (by decide) (by rfl)
      rw [e]
      exact ⟨_, fun _ => rfl, rfl⟩
  case step =>
    intro i o hi hp ho u w' hb hd K hK
    obtain rfl | rfl | rfl | rfl | rfl : i = 0 ∨ i = 1 ∨ i = 2 ∨ i = 7 ∨ i = 8 := by simp at hp hi; omega
    · simp only [List.getElem?_toArray, List.getElem?_cons_zero, Option.some.injEq] at ho
      subst ho
      simp only [RegS.putAll, List.length_cons, List.length_nil, Nat.reduceAdd, List.getD_cons_zero, List.getD_cons_succ, Act.put, List.setIfInBounds_toArray, List.set_cons_zero, List.set_cons_succ]
      go_simp
      refine (some_any 4 _ (by decide) (by decide)).mono ?_
      rintro q w2 ⟨v, rfl, hv, hb2⟩
      exact hK _ _ rfl hb2 (hv.mono fun b h => by have := hb.size; simp at this; omega) (fun h => absurd h (by decide))
    · simp only [List.getElem?_toArray, List.getElem?_cons_succ, List.getElem?_cons_zero, Option.some.injEq] at ho
      subst ho
      simp only [RegS.putAll, List.length_cons, List.length_nil, Nat.reduceAdd, List.getD_cons_zero, List.getD_cons_succ, Act.put, List.setIfInBounds_toArray, List.set_cons_zero, List.set_cons_succ]
      obtain ⟨q0, q1, q2, q3⟩ := (kL.belowS hb).cell4
      go_simp
      exact hK _ _ rfl (Below.refl _ _) (by rw [HL0.out]; rfl) (fun h => absurd h (by decide))
    · simp only [List.getElem?_toArray, List.getElem?_cons_succ, List.getElem?_cons_zero, Option.some.injEq] at ho
      subst ho
      simp only [RegS.putAll, List.length_cons, List.length_nil, Nat.reduceAdd, List.getD_cons_zero, List.getD_cons_succ, Act.put, List.setIfInBounds_toArray, List.set_cons_zero, List.set_cons_succ]
      have e0 : u 1 = lgv l0 := hd 1 (by decide) (by rfl)
      obtain ⟨A, n, c, B, m, e, e1, hD⟩ := hd 0 (by decide) (by rfl)
      go_simp
      refine (append_any A n c B m e _ _ l0 ⟨#[97, 98, 99]⟩ _ hD HOK.out (by rw [← hD.wlen]; decide) (by decide)).mono ?_
      rintro q w2 ⟨v, rfl, hv, hb2⟩
      exact hK _ _ rfl hb2 ⟨_, HAP.out v, by rw [HD1.out]; exact hv.mono fun b h => h.elim id fun h => by have := hb.size; simp at this; omega⟩ (fun h => absurd h (by decide))
    · simp only [List.getElem?_toArray, List.getElem?_cons_succ, List.getElem?_cons_zero, Option.some.injEq] at ho
      subst ho
      simp only [RegS.putAll, List.length_cons, List.length_nil, Nat.reduceAdd, List.getD_cons_zero, List.getD_cons_succ, Act.put, List.setIfInBounds_toArray, List.set_cons_zero, List.set_cons_succ]
      go_simp
      exact hK _ _ rfl ((Below.refl _ _).alloc (Nat.le_refl _) _) ⟨_, rfl, by have := hb.size; simp at this; omega, Box.new _ _ _⟩ fun _ => ⟨rfl, by simp⟩
    · simp only [List.getElem?_toArray, List.getElem?_cons_succ, List.getElem?_cons_zero, Option.some.injEq] at ho
      subst ho
      simp only [RegS.putAll, List.length_cons, List.length_nil, Nat.reduceAdd, List.getD_cons_zero, List.getD_cons_succ, Act.put, List.setIfInBounds_toArray, List.set_cons_zero, List.set_cons_succ]
      go_simp
      exact hK _ _ rfl ((Below.refl _ _).alloc (Nat.le_refl _) _) ⟨_, rfl, by have := hb.size; simp at this; omega, Box.new _ _ _⟩ fun _ => ⟨rfl, by simp⟩
  case tail =>
    intro u w' hb hG hp hne
    simp only [RegS.putAll, List.length_cons, List.length_nil, Nat.reduceAdd, List.getD_cons_zero, List.getD_cons_succ, Act.put, List.setIfInBounds_toArray, List.set_cons_zero, List.set_cons_succ, List.drop_succ_cons, List.drop_zero]
    have kL1 := kL.belowS hb
    have b7lt := hp 7 (by decide) (by decide)
    have b8lt := hp 8 (by decide) (by decide)
    have b78 := hne 7 8 (by decide) (by decide) (by decide) (by decide) (by decide)
    obtain ⟨A, n, c, B, m, k, e4, hD⟩ := hG 4 (by decide)
    have e5 : u 5 = lgv ⟨0, 4, 1, 2⟩ := hG 5 (by decide)
    have e6 : u 6 = .int .i64 0 := hG 6 (by decide)
    obtain ⟨b7, e7, _, k7⟩ := hG 7 (by decide)
    obtain ⟨b8, e8, _, k8⟩ := hG 8 (by decide)
    obtain ⟨b7', e7', l7, _⟩ := b7lt
    obtain ⟨b8', e8', l8, _⟩ := b8lt
    rw [e7] at e7' b78
    rw [e8] at e8' b78
    injection e7' with e7'; injection e7' with e7'; injection e7' with e7'
    injection e8' with e8'; injection e8' with e8'; injection e8' with e8'
    subst e7' e8'
    simp only [World.size_alloc] at l7 l8
    have hne78 : b7 ≠ b8 := fun h => b78 (by rw [h])
    have hne87 : b8 ≠ b7 := fun h => hne78 h.symm
    have hD2 := (hD.notBox k7 noStr_disk).notBox k8 noStr_log
    have hbw : Below w.heap.size w w' := ((Below.refl _ _).alloc (Nat.le_refl _) _).trans (hb.mono (by simp))
    have hc : ∀ (x y z u : Value), lgv ⟨0, 4, 1, 2⟩ = .agg #[.int .i64 0, .int .i64 4, .int .i64 1, .int .i64 2] := fun _ _ _ _ => rfl
    rw [hc (.int .i64 0) (.int .i64 0) (.int .i64 0) (.int .i64 0)] at e5
    clear hG hp hne b78 HL0 HD1 hD hc HAP HOK
    obtain ⟨q0, q1, q2, q3⟩ := k7.cell4
    obtain ⟨r0, r1, r2, r3⟩ := k8.cell4
    have f0 := k7.frozen 0
    have f1 := k7.frozen 1
    have f2 := k7.frozen 2
    have f3 := k7.frozen 3
    have g0 := k8.frozen 0
    have g1 := k8.frozen 1
    have g2 := k8.frozen 2
    have g3 := k8.frozen 3
    have kL2 := kL1.cell4
    go_wp2_with fail
    refine NoPanic.normal ?_
    go_wp2_with fail
    go_meet
    refine ⟨b7, b8, A, n, c, B, m, k, rfl, rfl, rfl, by omega, by omega, hne78, ?_, ?_, (k8.far4 hne78).set4, ?_, ?_⟩
    · exact (kL1.far4 (by omega)).far4 (by omega)
    · exact k7.set4.far4 hne87
    · exact ((hD2.set4 fun x hx => hx.1.2).set4 fun x hx => hx.2).mono fun x hx => ⟨hx.1.1, hx.1.2, hx.2⟩
    · exact below_set4 (below_set4 hbw (by omega)) (by omega)
end Go.Proofs.Yteoiadfcchalfaa
