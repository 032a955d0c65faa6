/- The walks of layer 21's heads: read, begin. -/
import Derived.Test.YteoiadfcchalfaaKeepB
namespace Go.Proofs.Yteoiadfcchalfaa
open Go.RowKit
open DiskP (Bytes Disk Wr Fate)
open KeepP (Cut Head okC okH numB countB readH zeroH)
set_option linter.unusedVariables false

/-- a head that was read, as a value -/
def rdv : Option Head → Value
  | some h => .tuple #[hdv h, .bool true]
  | none => .tuple #[hdv zeroH, .bool false]
abbrev rawH (s : Bytes) : Head := ⟨countB (s.take 8), (s.getD 8 0).toNat, countB ((s.drop 9).take 8), countB ((s.drop 17).take 2)⟩
theorem readH_raw (s : Bytes) (p : Nat) : readH s p = if 1 ≤ (rawH s).gen ∧ (rawH s).gen ≤ LogP.maxSeq ∧ 1 ≤ (rawH s).seq ∧ (rawH s).seq ≤ LogP.maxSeq ∧ (rawH s).half ≤ 1 ∧ (rawH s).gen % 2 = p ∧ KeepP.sectorB (rawH s) = s then some (rawH s) else none := rfl

theorem count_same (s : ByteArray) (w : World) (hs : s.size ≤ 8) : Calls Try.prog 113 #[.string s] w fun q w' => q = .returned (.int .u64 (countB (oct s) : Nat)) ∧ w' = w :=
  (count_any s w hs).mono fun _ _ h => ⟨h.1, h.2.symm⟩

set_option maxRecDepth 100000 in
set_option maxHeartbeats 3200000 in
theorem readh_any (s : ByteArray) (p : Nat) (w : World) (hs : s.size = 128) (hp : p ≤ 1) :
    Calls Try.prog 105 #[.string s, .int .i64 p] w fun q w' => q = .returned (rdv (readH (oct s) p)) ∧ Below w.heap.size w w' := by
  have kA := Box.new w 128 #[.int .i64 0, .int .i64 0, .int .i64 0, .int .i64 0]
  have hbA : Below w.heap.size w (w.alloc (.cells #[.int .i64 0, .int .i64 0, .int .i64 0, .int .i64 0] 128)) := (Below.refl _ _).alloc (Nat.le_refl _) _
  have o1 : oct (s.extract 0 8) = (oct s).take 8 := by rw [oct_extract]; simp
  have o2 : oct (s.extract 9 17) = ((oct s).drop 9).take 8 := by rw [oct_extract]
  have o3 : oct (s.extract 17 19) = ((oct s).drop 17).take 2 := by rw [oct_extract]
  have c1 := fun w1 => count_same (s.extract 0 8) w1 (by rw [← oct_length, o1, List.length_take]; omega)
  have c2 := fun w1 => count_same (s.extract 9 17) w1 (by rw [← oct_length, o2, List.length_take]; omega)
  have c3 := fun w1 => count_same (s.extract 17 19) w1 (by rw [← oct_length, o3, List.length_take]; omega)
  rw [o1] at c1
  rw [o2] at c2
  rw [o3] at c3
  have l1 := KeepP.count_lt ((oct s).take 8)
  have l2 := KeepP.count_lt (((oct s).drop 9).take 8)
  have l3 := KeepP.count_lt (((oct s).drop 17).take 2)
  have hb8 : s[8].toNat < 256 := UInt8.toNat_lt _
  have ol := oct_length s
  rw [show ((oct s).take 8).length = 8 by rw [List.length_take]; omega] at l1
  rw [show (((oct s).drop 9).take 8).length = 8 by rw [List.length_take, List.length_drop]; omega] at l2
  rw [show (((oct s).drop 17).take 2).length = 2 by rw [List.length_take, List.length_drop]; omega] at l3
  have hr : rawH (oct s) = ⟨countB ((oct s).take 8), s[8].toNat, countB (((oct s).drop 9).take 8), countB (((oct s).drop 17).take 2)⟩ := by
    unfold rawH
    congr 2
    rw [List.getD_eq_getElem?_getD, List.getElem?_eq_getElem (by omega)]
    rfl
  obtain ⟨R, hR⟩ : ∃ R, R = readH (oct s) p := ⟨_, rfl⟩
  rw [← hR]
  rw [readH_raw, hr] at hR
  obtain ⟨g, hg⟩ : ∃ g, g = countB ((oct s).take 8) := ⟨_, rfl⟩
  obtain ⟨q, hq⟩ : ∃ q, q = countB (((oct s).drop 9).take 8) := ⟨_, rfl⟩
  obtain ⟨pg, hpg⟩ : ∃ pg, pg = countB (((oct s).drop 17).take 2) := ⟨_, rfl⟩
  rw [← hg] at l1 c1 hR
  rw [← hq] at l2 c2 hR
  rw [← hpg] at l3 c3 hR
  obtain ⟨hv, hhv⟩ : ∃ hv, hv = s[8].toNat := ⟨_, rfl⟩
  rw [← hhv] at hb8 hR
  have hidx : (s[8].toNat : Int) = (hv : Int) := by rw [hhv]
  simp only at hR
  have HC1 := hide c1
  have HC2 := hide c2
  have HC3 := hide c3
  have HR := hide hR
  have HBA := hide hbA
  have HI := hide hidx
  have HS := hide hs
  have b1 : (19 : Int) ≤ (s.size : Int) := by omega
  have b2 : (8 : Int) < (s.size : Int) := by omega
  clear o1 o2 o3 c1 c2 c3 hr hg hq hpg hR hhv hbA ol
  go_enter Try.func105, Try.ntmps105
  go_wp2_with fail
  go_quiet (first
      | ((go_at_call 113; with_reducible exact Calls.quiet_of_same (HC1.out _)))
      | ((go_at_call 113; with_reducible exact Calls.quiet_of_same (HC2.out _)))
      | ((go_at_call 113; with_reducible exact Calls.quiet_of_same (HC3.out _))))
  have hbq := below_drewN HBA.out nq
  have kAq : Box _ _ _ _ := kA.at (w' := (w.alloc (.cells #[.int .i64 0, .int .i64 0, .int .i64 0, .int .i64 0] 128)).drewN nq) rfl
  clear HC1 HC2 HC3 kA HBA
  obtain ⟨wq, hwq⟩ : ∃ x, x = (w.alloc (.cells #[.int .i64 0, .int .i64 0, .int .i64 0, .int .i64 0] 128)).drewN nq := ⟨_, rfl⟩
  rw [← hwq] at hbq kAq ⊢
  clear hwq
  obtain ⟨p0, p1, p2, p3⟩ := kAq.cell4
  have f0 := kAq.frozen 0
  have f1 := kAq.frozen 1
  have f2 := kAq.frozen 2
  have f3 := kAq.frozen 3
  by_cases hbad : g = 0 ∨ 4611686018427387903 < g ∨ q = 0 ∨ 4611686018427387903 < q ∨ 1 < hv
  · have hnone : R = none := by
      rw [HR.out, if_neg]
      intro h
      unfold LogP.maxSeq at h
      omega
    subst hnone
    have kA2 := kAq.set4 (u0 := .int .i64 0) (u1 := .int .i64 0) (u2 := .int .i64 0) (u3 := .int .i64 0)
    have hbF := below_set4 (u0 := .int .i64 0) (u1 := .int .i64 0) (u2 := .int .i64 0) (u3 := .int .i64 0) hbq (Nat.le_refl _)
    obtain ⟨s0, s1, s2, s3⟩ := kA2.cell4
    have HBF := hide hbF
    clear HR hbq kAq kA2 hbF HI HS hidx hs b1 b2
    rcases Nat.eq_zero_or_pos g with hg0 | hg0
    · subst hg0
      clear hbad
      go_wp2_with fail
      exact bodyPost_ret (v := .tuple #[.agg #[.int .i64 0, .int .i64 0, .int .i64 0, .int .i64 0], .bool false]) (by simp [results, Try.results105, go_sem, s0, s1, s2, s3]) rfl ⟨rfl, HBF.out⟩
    have xg1 : decide (g = 0) = false := by simp; omega
    have xg1' : ¬ (g : Int) < 1 := by omega
    by_cases hg2 : 4611686018427387903 < g
    · have xg2 : decide ((4611686018427387903 : Int) < (g : Int)) = true := by simp; omega
      have xg2' : (4611686018427387903 : Int) < (g : Int) := by omega
      clear hbad
      go_wp2_with fail
      exact bodyPost_ret (v := .tuple #[.agg #[.int .i64 0, .int .i64 0, .int .i64 0, .int .i64 0], .bool false]) (by simp [results, Try.results105, go_sem, s0, s1, s2, s3]) rfl ⟨rfl, HBF.out⟩
    have xg2 : decide ((4611686018427387903 : Int) < (g : Int)) = false := by simp; omega
    have xg2' : ¬ (4611686018427387903 : Int) < (g : Int) := by omega
    rcases Nat.eq_zero_or_pos q with hq0 | hq0
    · subst hq0
      clear hbad
      go_wp2_with fail
      exact bodyPost_ret (v := .tuple #[.agg #[.int .i64 0, .int .i64 0, .int .i64 0, .int .i64 0], .bool false]) (by simp [results, Try.results105, go_sem, s0, s1, s2, s3]) rfl ⟨rfl, HBF.out⟩
    have xq1 : decide (q = 0) = false := by simp; omega
    have xq1' : ¬ (q : Int) < 1 := by omega
    by_cases hq2 : 4611686018427387903 < q
    · have xq2 : decide ((4611686018427387903 : Int) < (q : Int)) = true := by simp; omega
      have xq2' : (4611686018427387903 : Int) < (q : Int) := by omega
      clear hbad
      go_wp2_with fail
      exact bodyPost_ret (v := .tuple #[.agg #[.int .i64 0, .int .i64 0, .int .i64 0, .int .i64 0], .bool false]) (by simp [results, Try.results105, go_sem, s0, s1, s2, s3]) rfl ⟨rfl, HBF.out⟩
    have xq2 : decide ((4611686018427387903 : Int) < (q : Int)) = false := by simp; omega
    have xq2' : ¬ (4611686018427387903 : Int) < (q : Int) := by omega
    have xh : decide ((1 : Int) < (hv : Int)) = true := by simp; omega
    have xh' : (1 : Int) < (hv : Int) := by omega
    clear hbad
    go_wp2_with fail
    exact bodyPost_ret (v := .tuple #[.agg #[.int .i64 0, .int .i64 0, .int .i64 0, .int .i64 0], .bool false]) (by simp [results, Try.results105, go_sem, s0, s1, s2, s3]) rfl ⟨rfl, HBF.out⟩
  · have hg : 1 ≤ g ∧ g ≤ 4611686018427387903 ∧ 1 ≤ q ∧ q ≤ 4611686018427387903 ∧ hv ≤ 1 := by omega
    have xg1 : decide (g = 0) = false := by simp; omega
    have xg1' : ¬ (g : Int) < 1 := by omega
    have xg2 : decide ((4611686018427387903 : Int) < (g : Int)) = false := by simp; omega
    have xg2' : ¬ (4611686018427387903 : Int) < (g : Int) := by omega
    have xq1 : decide (q = 0) = false := by simp; omega
    have xq1' : ¬ (q : Int) < 1 := by omega
    have xq2 : decide ((4611686018427387903 : Int) < (q : Int)) = false := by simp; omega
    have xq2' : ¬ (4611686018427387903 : Int) < (q : Int) := by omega
    have xh : decide ((1 : Int) < (hv : Int)) = false := by simp; omega
    have xh' : ¬ (1 : Int) < (hv : Int) := by omega
    have hsec := fun w1 => sector_any ⟨g, hv, q, pg⟩ w1 (by show g ≤ 9223372036854775807; omega) (by show hv ≤ 9223372036854775807; omega) (by show q ≤ 9223372036854775807; omega) (by show pg ≤ 9223372036854775807; omega)
    obtain ⟨ss, hss⟩ : ∃ ss, ss = mkB (KeepP.sectorB ⟨g, hv, q, pg⟩) := ⟨_, rfl⟩
    rw [← hss] at hsec
    have HSEC := hide hsec
    have HSS := hide hss
    obtain ⟨g2, hg2⟩ : ∃ g2, g2 = g % 2 := ⟨_, rfl⟩
    have t1 : (g : Int).tmod 2 = (g2 : Int) := by rw [Int.tmod_eq_emod_of_nonneg (by omega), hg2]; rfl
    have HG := hide hg
    have HG2 := hide hg2
    have hpg : (pg : Int) ≤ 65535 := by omega
    have hg8 : (g : Int) ≤ 4611686018427387903 := by omega
    have hq8 : (q : Int) ≤ 4611686018427387903 := by omega
    have hg82 : g2 ≤ 1 := by omega
    clear hbad hsec hss hg hg2 HI HS hidx hs b1 b2
    have k10 := Box.new wq 128 #[.int .i64 (g : Nat), .int .i64 (hv : Nat), .int .i64 (q : Nat), .int .i64 (pg : Nat)]
    have kA3 := kAq.up (.cells #[.int .i64 (g : Nat), .int .i64 (hv : Nat), .int .i64 (q : Nat), .int .i64 (pg : Nat)] 128)
    have hlA := kAq.lt
    have hbq3 := hbq.alloc hbq.size (.cells #[.int .i64 (g : Nat), .int .i64 (hv : Nat), .int .i64 (q : Nat), .int .i64 (pg : Nat)] 128)
    obtain ⟨w3, hw3⟩ : ∃ x, x = wq.alloc (.cells #[.int .i64 (g : Nat), .int .i64 (hv : Nat), .int .i64 (q : Nat), .int .i64 (pg : Nat)] 128) := ⟨_, rfl⟩
    rw [← hw3] at k10 kA3 hbq3
    have HW3 := hide hw3
    obtain ⟨bq, hbq⟩ : ∃ bq, bq = wq.heap.size := ⟨_, rfl⟩
    have HBQ := hide hbq
    clear hw3 hbq
    rw [← HBQ.out] at k10 hlA
    go_upto_region 5 with (fail)
    rw [← HW3.out, ← HBQ.out]
    clear HW3 HBQ p0 p1 p2 p3 f0 f1 f2 f3
    by_cases hgp : g2 = p
    · have x1 : ((g2 : Int) != (p : Int)) = false := by rw [bne_eq_false_iff_eq]; omega
      obtain ⟨q0, q1, q2, q3⟩ := k10.cell4
      go_wp2_with fail
      refine (HSEC.out _).mono ?_
      rintro r w4 ⟨rfl, hb4⟩
      have k14 := k10.belowS hb4
      have kA4 := kA3.belowS hb4
      have hbq4 := hbq3.trans (hb4.mono hbq3.size)
      clear q0 q1 q2 q3 HSEC k10 kA3 hbq3 hb4
      obtain ⟨q0, q1, q2, q3⟩ := k14.cell4
      obtain ⟨p0, p1, p2, p3⟩ := kA4.cell4
      have f0 := kA4.frozen 0
      have f1 := kA4.frozen 1
      have f2 := kA4.frozen 2
      have f3 := kA4.frozen 3
      by_cases hse : ss = s
      · have hsome : R = some ⟨g, hv, q, pg⟩ := by
          have := HG.out
          rw [HR.out, if_pos]
          refine ⟨this.1, by unfold LogP.maxSeq; omega, this.2.2.1, by unfold LogP.maxSeq; omega, this.2.2.2.2, by rw [← HG2.out]; exact hgp, ?_⟩
          rw [← hse, HSS.out, oct_mkB]
        subst hsome
        have kA5 := kA4.set4 (u0 := .int .i64 (g : Nat)) (u1 := .int .i64 (hv : Nat)) (u2 := .int .i64 (q : Nat)) (u3 := .int .i64 (pg : Nat))
        have hbF := below_set4 (u0 := .int .i64 (g : Nat)) (u1 := .int .i64 (hv : Nat)) (u2 := .int .i64 (q : Nat)) (u3 := .int .i64 (pg : Nat)) hbq4 (Nat.le_refl _)
        obtain ⟨s0, s1, s2, s3⟩ := kA5.cell4
        have HBF := hide hbF
        clear HR HSS kA4 kA5 hbF hbq4 hgp k14
        subst hse
        have x5 : (ss.toList != ss.toList) = false := by simp
        go_wp2_with fail
        exact bodyPost_ret (v := .tuple #[.agg #[.int .i64 (g : Nat), .int .i64 (hv : Nat), .int .i64 (q : Nat), .int .i64 (pg : Nat)], .bool true]) (by simp [results, Try.results105, go_sem, s0, s1, s2, s3]) rfl ⟨rfl, HBF.out⟩
      · have hnone : R = none := by
          rw [HR.out, if_neg]
          intro h
          have := h.2.2.2.2.2.2
          exact hse (by rw [HSS.out, this, mkB_oct])
        subst hnone
        have x5 : (ss.toList != s.toList) = true := by
          rw [bne, toList_cmp]
          simp only [Bool.not_eq_true', decide_eq_false_iff_not]
          exact fun h => hse (oct_inj h)
        have x6 : (ss.toList == s.toList) = false := by
          rw [toList_cmp]
          simp only [decide_eq_false_iff_not]
          exact fun h => hse (oct_inj h)
        have x7 : decide (ss = s) = false := by simpa using hse
        have kA5 := kA4.set4 (u0 := .int .i64 0) (u1 := .int .i64 0) (u2 := .int .i64 0) (u3 := .int .i64 0)
        have hbF := below_set4 (u0 := .int .i64 0) (u1 := .int .i64 0) (u2 := .int .i64 0) (u3 := .int .i64 0) hbq4 (Nat.le_refl _)
        obtain ⟨s0, s1, s2, s3⟩ := kA5.cell4
        have HBF := hide hbF
        clear HR HSS kA4 kA5 hbF hbq4 hgp k14 hse
        go_wp2_with fail
        exact bodyPost_ret (v := .tuple #[.agg #[.int .i64 0, .int .i64 0, .int .i64 0, .int .i64 0], .bool false]) (by simp [results, Try.results105, go_sem, s0, s1, s2, s3]) rfl ⟨rfl, HBF.out⟩
    · have hnone : R = none := by
        rw [HR.out, if_neg]
        intro h
        have := HG2.out
        exact hgp (this.trans h.2.2.2.2.2.1)
      subst hnone
      have x1 : ((g2 : Int) != (p : Int)) = true := by rw [bne_iff_ne]; omega
      have x2 : decide ((g2 : Int) = (p : Int)) = false := by simp; omega
      have x3 : decide (g2 = p) = false := by simpa using hgp
      obtain ⟨p0, p1, p2, p3⟩ := kA3.cell4
      have f0 := kA3.frozen 0
      have f1 := kA3.frozen 1
      have f2 := kA3.frozen 2
      have f3 := kA3.frozen 3
      have kA4 := kA3.set4 (u0 := .int .i64 0) (u1 := .int .i64 0) (u2 := .int .i64 0) (u3 := .int .i64 0)
      have hbF := below_set4 (u0 := .int .i64 0) (u1 := .int .i64 0) (u2 := .int .i64 0) (u3 := .int .i64 0) hbq3 (Nat.le_refl _)
      obtain ⟨s0, s1, s2, s3⟩ := kA4.cell4
      have HBF := hide hbF
      obtain ⟨q0, q1, q2, q3⟩ := k10.cell4
      clear HR kA3 kA4 hbF hbq3 hgp k10
      go_wp2_with fail
      exact bodyPost_ret (v := .tuple #[.agg #[.int .i64 0, .int .i64 0, .int .i64 0, .int .i64 0], .bool false]) (by simp [results, Try.results105, go_sem, s0, s1, s2, s3]) rfl ⟨rfl, HBF.out⟩
end Go.Proofs.Yteoiadfcchalfaa
