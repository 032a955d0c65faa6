/- The walk of the law SlotReads. -/
import Derived.Test.YteoiadfcchalfaaSlotAwake
namespace Go.Proofs.Yteoiadfcchalfaa
open Go.RowKit
set_option linter.unusedVariables false

theorem read_cases (b : List UInt8) : (SlotP.read b).1 = [] ∨ (SlotP.read b).2 = 0 := by
  unfold SlotP.read
  repeat' split
  all_goals first | exact .inl rfl | exact .inr rfl
theorem read_fits (b : List UInt8) : SlotP.fits (SlotP.read b).1 = true := by
  rcases read_cases b with h | h
  · rw [h]; exact SlotP.fits_nil
  · exact (SlotP.lay_read b h).1
theorem read_len {ts : List ByteArray} {b : List UInt8} (h : octs ts = (SlotP.read b).1) : ts.length ≤ 9223372036854775807 := by
  have h1 := ((SlotP.fits_iff _).1 (read_fits b)).1
  rw [← h, octs_length] at h1
  omega

set_option maxRecDepth 100000 in
set_option maxHeartbeats 4000000 in
theorem slotReads_walk (s : ByteArray) (w : World) (hs : s.size ≤ 9223372036854775807) :
    Calls Try.prog 3 #[.string s] w fun e w' => e = .returned (.bool true) ∧ Below w.heap.size w w' := by
  by_cases h1030 : (1030 : Int) < s.size
  · skip
    obtain ⟨x, hx⟩ : ∃ x : ByteArray, x = s.extract 0 1030 := ⟨_, rfl⟩
    have hxs : x.size ≤ 9223372036854775807 := by rw [hx]; rw [← oct_length, oct_extract]; simp; omega
    obtain ⟨cn, hcn⟩ : ∃ cn : Nat, (SlotP.read (oct x)).2 = cn := ⟨_, rfl⟩
    have HX := hide hx
    go_enter Try.func3, Try.ntmps3
    go_wp2_with fail
    rw [← HX.out]
    clear hx
    refine (read_any x _ hxs).mono ?_
    rw [hcn]
    rintro e w1 ⟨v, ts, rfl, hown, hts, hb1⟩
    obtain ⟨A, c, hv⟩ := own_shape hown
    subst hv
    have HCN := hide hcn
    have HTS := hide hts
    clear hcn hts
    go_wp2_with fail
    refine (rread_any x _ hxs).mono ?_
    rw [HCN.out]
    rintro e w2 ⟨v2, ts2, rfl, hown2, hts2, hb2⟩
    obtain ⟨A2, c2, hv2⟩ := own_shape hown2
    subst hv2
    have HTS2 := hide hts2
    clear hts2
    have hsl1 := (Sl.of_own hown).any.below hb2
    have hsl2 := (Sl.of_own hown2).any
    have hl1 : ts.length ≤ 9223372036854775807 := read_len HTS.out
    have hee : decide (octs ts = octs ts2) = true := by rw [HTS.out, HTS2.out]; simp
    have hfit : SlotP.fits (octs ts) = true := by rw [HTS.out]; exact read_fits _
    have hly := lay_yes A ts.length c ts
    have hpo : oct ⟨(SlotP.lay (octs ts)).toArray⟩ = SlotP.lay (octs ts) := oct_mk _
    generalize (⟨(SlotP.lay (octs ts)).toArray⟩ : ByteArray) = pg at hly hpo
    have hne : ((cn : Int) != cn) = false := by simp
    have HEE := hide hee
    have HFIT := hide hfit
    have HPO := hide hpo
    clear hee hfit hpo
    go_wp2_with fail
    refine (same_any A A2 ts.length ts2.length c c2 ts ts2 _ _ _ hsl1 hsl2 hl1).mono ?_
    rw [HEE.out]
    rintro e w3 ⟨rfl, q, rfl⟩
    go_wp2_with fail
    refine (hly _ (hsl1.drewN q) HFIT.out).mono ?_
    rintro e w4 ⟨rfl, hb4⟩
    have hbb : Below w.heap.size w w4 := by
      have c2 := hb1.trans (hb2.mono hb1.size)
      exact (below_drewN c2 q).trans (hb4.mono c2.size)
    by_cases h0 : cn = 0
    · have hn0 : ((cn : Int) != 0) = false := by simp [h0]
      have hpt : (pg.toList == x.toList) = true := by
        rw [toList_cmp, HPO.out, HTS.out, (SlotP.lay_read _ (by rw [HCN.out]; exact h0)).2]; simp
      have H0 := hide h0
      clear h0
      go_wp2_with fail
      refine (awake19_any _).mono ?_
      rintro e w5 ⟨rfl, hb5⟩
      go_wp2_with fail
      go_ret
      exact ⟨rfl, hbb.trans (hb5.mono hbb.size)⟩
    · have hn0 : ((cn : Int) != 0) = true := by simp [h0]
      have H0 := hide h0
      clear h0
      go_wp2_with fail
      refine (awake19_any _).mono ?_
      rintro e w5 ⟨rfl, hb5⟩
      go_wp2_with fail
      go_ret
      exact ⟨rfl, hbb.trans (hb5.mono hbb.size)⟩
  · skip
    obtain ⟨x, hx⟩ : ∃ x : ByteArray, x = s := ⟨_, rfl⟩
    have hxs : x.size ≤ 9223372036854775807 := by rw [hx]; exact hs
    obtain ⟨cn, hcn⟩ : ∃ cn : Nat, (SlotP.read (oct x)).2 = cn := ⟨_, rfl⟩
    have HX := hide hx
    go_enter Try.func3, Try.ntmps3
    go_wp2_with fail
    rw [← HX.out]
    clear hx
    refine (read_any x _ hxs).mono ?_
    rw [hcn]
    rintro e w1 ⟨v, ts, rfl, hown, hts, hb1⟩
    obtain ⟨A, c, hv⟩ := own_shape hown
    subst hv
    have HCN := hide hcn
    have HTS := hide hts
    clear hcn hts
    go_wp2_with fail
    refine (rread_any x _ hxs).mono ?_
    rw [HCN.out]
    rintro e w2 ⟨v2, ts2, rfl, hown2, hts2, hb2⟩
    obtain ⟨A2, c2, hv2⟩ := own_shape hown2
    subst hv2
    have HTS2 := hide hts2
    clear hts2
    have hsl1 := (Sl.of_own hown).any.below hb2
    have hsl2 := (Sl.of_own hown2).any
    have hl1 : ts.length ≤ 9223372036854775807 := read_len HTS.out
    have hee : decide (octs ts = octs ts2) = true := by rw [HTS.out, HTS2.out]; simp
    have hfit : SlotP.fits (octs ts) = true := by rw [HTS.out]; exact read_fits _
    have hly := lay_yes A ts.length c ts
    have hpo : oct ⟨(SlotP.lay (octs ts)).toArray⟩ = SlotP.lay (octs ts) := oct_mk _
    generalize (⟨(SlotP.lay (octs ts)).toArray⟩ : ByteArray) = pg at hly hpo
    have hne : ((cn : Int) != cn) = false := by simp
    have HEE := hide hee
    have HFIT := hide hfit
    have HPO := hide hpo
    clear hee hfit hpo
    go_wp2_with fail
    refine (same_any A A2 ts.length ts2.length c c2 ts ts2 _ _ _ hsl1 hsl2 hl1).mono ?_
    rw [HEE.out]
    rintro e w3 ⟨rfl, q, rfl⟩
    go_wp2_with fail
    refine (hly _ (hsl1.drewN q) HFIT.out).mono ?_
    rintro e w4 ⟨rfl, hb4⟩
    have hbb : Below w.heap.size w w4 := by
      have c2 := hb1.trans (hb2.mono hb1.size)
      exact (below_drewN c2 q).trans (hb4.mono c2.size)
    by_cases h0 : cn = 0
    · have hn0 : ((cn : Int) != 0) = false := by simp [h0]
      have hpt : (pg.toList == x.toList) = true := by
        rw [toList_cmp, HPO.out, HTS.out, (SlotP.lay_read _ (by rw [HCN.out]; exact h0)).2]; simp
      have H0 := hide h0
      clear h0
      go_wp2_with fail
      refine (awake19_any _).mono ?_
      rintro e w5 ⟨rfl, hb5⟩
      go_wp2_with fail
      go_ret
      exact ⟨rfl, hbb.trans (hb5.mono hbb.size)⟩
    · have hn0 : ((cn : Int) != 0) = true := by simp [h0]
      have H0 := hide h0
      clear h0
      go_wp2_with fail
      refine (awake19_any _).mono ?_
      rintro e w5 ⟨rfl, hb5⟩
      go_wp2_with fail
      go_ret
      exact ⟨rfl, hbb.trans (hb5.mono hbb.size)⟩

end Go.Proofs.Yteoiadfcchalfaa
