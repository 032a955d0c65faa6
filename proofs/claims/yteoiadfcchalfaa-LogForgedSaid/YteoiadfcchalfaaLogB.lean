/- The walk of layer 18's record. -/
import Derived.Test.YteoiadfcchalfaaLogA
namespace Go.Proofs.Yteoiadfcchalfaa
open Go.RowKit
open DiskP (Bytes Disk Wr Fate)
set_option linter.unusedVariables false

theorem or_nat (a b : Nat) (ha : a < 9223372036854775808) (hb : b < 9223372036854775808) : bits .or .i64 (a : Int) (b : Int) = ((a ||| b : Nat) : Int) := by
  have hx : a ||| b < 2 ^ 63 := Nat.or_lt_two_pow (by omega) (by omega)
  have ea : (BitVec.ofInt 64 (a : Int)).toNat = a := by rw [BitVec.ofInt_natCast, BitVec.toNat_ofNat]; exact Nat.mod_eq_of_lt (by omega)
  have eb : (BitVec.ofInt 64 (b : Int)).toNat = b := by rw [BitVec.ofInt_natCast, BitVec.toNat_ofNat]; exact Nat.mod_eq_of_lt (by omega)
  show IntKind.i64.wrap ((BitVec.ofInt 64 (a : Int) ||| BitVec.ofInt 64 (b : Int)).toNat : Int) = _
  rw [BitVec.toNat_or, ea, eb, IntKind.wrap_i64]
  omega
theorem or_two (x y : Nat) (hy : y < 256) : (x * 256) ||| y = 256 * x + y := by
  have := Nat.shiftLeft_add_eq_or_of_lt (b := y) (i := 8) (by omega) x
  rw [Nat.shiftLeft_eq] at this
  rw [← this]; omega
theorem octet_at (s : ByteArray) (i : Nat) (h : i < s.size) : (oct s).getD i 0 = s[i] := by
  rw [List.getD_eq_getElem?_getD, List.getElem?_eq_getElem (by rw [oct_length]; exact h)]
  rfl
/-- a record's length, as its first two octets say -/
def recLen (b : Bytes) : Nat := (b.getD 0 0).toNat * 256 + (b.getD 1 0).toNat
theorem recLen_lt (b : Bytes) : recLen b < 65536 := by
  have h1 : (b.getD 0 0).toNat < 256 := UInt8.toNat_lt _
  have h2 : (b.getD 1 0).toNat < 256 := UInt8.toNat_lt _
  unfold recLen; omega
theorem recLen_or (s : ByteArray) (hi : 0 < s.size) (hj : 1 < s.size) :
    bits .or .i64 (wrap64 (wrap64 (s[0].toNat : Int) * 256)) (wrap64 (s[1].toNat : Int)) = ((recLen (oct s) : Nat) : Int) := by
  have h1 : s[0].toNat < 256 := UInt8.toNat_lt _
  have h2 : s[1].toNat < 256 := UInt8.toNat_lt _
  have e1 : wrap64 (wrap64 (s[0].toNat : Int) * 256) = ((s[0].toNat * 256 : Nat) : Int) := by
    have e0 : wrap64 (s[0].toNat : Int) = (s[0].toNat : Int) := IntWalk.wrap64_in _ (by omega)
    rw [e0, IntWalk.wrap64_in _ (by omega)]; omega
  have e2 : wrap64 (s[1].toNat : Int) = ((s[1].toNat : Nat) : Int) := IntWalk.wrap64_in _ (by omega)
  rw [e1, e2, or_nat _ _ (by omega) (by omega), or_two _ _ h2, recLen, octet_at s 0 hi, octet_at s 1 hj]
  omega

theorem record_no {b : Bytes} {q : Nat} (h0 : 128 ≤ b.length) (h : LogP.secs (recLen b) = 0 ∨ b.length < (LogP.secs (recLen b) + 1) * 128) : LogP.recordB b q = none := by
  unfold LogP.recordB
  rw [if_neg (by omega)]
  exact if_pos h
/-- the octets of a record, if it is one -/
def recText (b : Bytes) : Bytes := (b.drop 10).take (min (recLen b) 117) ++ (b.drop 128).take (recLen b - min (recLen b) 117)
theorem record_go {b : Bytes} {q : Nat} (h0 : 128 ≤ b.length) (h : ¬ (LogP.secs (recLen b) = 0 ∨ b.length < (LogP.secs (recLen b) + 1) * 128)) :
    LogP.recordB b q = if LogP.firstB (recText b) q ++ LogP.restB (recText b) = b.take (LogP.secs (recLen b) * 128) then some (recText b) else none := by
  unfold LogP.recordB
  rw [if_neg (by omega)]
  exact if_neg h
theorem recText_len {b : Bytes} (h : ¬ (LogP.secs (recLen b) = 0 ∨ b.length < (LogP.secs (recLen b) + 1) * 128)) : (recText b).length = recLen b ∧ recLen b ≤ 4000 := by
  have h1 : recLen b ≤ 4000 := by
    rcases Nat.lt_or_ge 4000 (recLen b) with h2 | h2
    · exact absurd (.inl ((LogP.secs_zero _).2 h2)) h
    · exact h2
  have h2 : (LogP.secs (recLen b) + 1) * 128 ≤ b.length := by
    rcases Nat.lt_or_ge b.length ((LogP.secs (recLen b) + 1) * 128) with h3 | h3
    · exact absurd (.inr h3) h
    · exact h3
  refine ⟨?_, h1⟩
  rw [recText, List.length_append, List.length_take, List.length_take, List.length_drop, List.length_drop]
  unfold LogP.secs at h2
  rw [if_neg (by omega)] at h2
  split at h2 <;> omega

/-- what record answers -/
def RecR (b : Bytes) (q : Nat) (w : World) (r : Ending) (w' : World) : Prop := ∃ S, r = .returned (.tuple #[.string S, .bool (LogP.recordB b q).isSome]) ∧ (∀ t, LogP.recordB b q = some t → S = mkB t) ∧ Below w.heap.size w w'

set_option maxRecDepth 100000 in
set_option maxHeartbeats 1600000 in
theorem record_any (s : ByteArray) (q : Nat) (w : World) (hs : s.size ≤ 1000000) (hq : q ≤ 9223372036854775807) :
    Calls Try.prog 84 #[.string s, .int .i64 q] w fun r w' => RecR (oct s) q w r w' := by
  by_cases h128 : s.size < 128
  · have hn : LogP.recordB (oct s) q = none := LogP.record_short (by rw [oct_length]; exact h128)
    have HN := hide hn
    have h1 : (s.size : Int) < 128 := by omega
    clear hn
    go_enter Try.func84, Try.ntmps84
    go_wp2_with fail
    go_ret2
    exact ⟨⟨#[]⟩, by rw [HN.out]; rfl, fun t ht => (by rw [HN.out] at ht; cases ht), Below.refl _ _⟩
  · have h00 : 0 < s.size := by omega
    have h01 : 1 < s.size := by omega
    have h02 : (0 : Int) < s.size := by omega
    have h03 : (1 : Int) < s.size := by omega
    have hsz : (128 : Int) ≤ s.size := by omega
    have hrd := recLen_or s h00 h01
    have hlt := recLen_lt (oct s)
    obtain ⟨n, hn⟩ : ∃ n, n = recLen (oct s) := ⟨_, rfl⟩
    have hsec := fun w => sectors_any n w (by omega)
    have hno := record_no (b := oct s) (q := q) (by rw [oct_length]; omega)
    have hgo := record_go (b := oct s) (q := q) (by rw [oct_length]; omega)
    have htl := recText_len (b := oct s)
    have hsl := LogP.secs_le n
    rw [← hn] at hrd hno hgo htl hlt
    rw [oct_length] at hno hgo htl
    obtain ⟨sc, hsc⟩ : ∃ sc, sc = LogP.secs n := ⟨_, rfl⟩
    rw [← hsc] at hsec hno hgo htl hsl
    have HSEC := hide hsec
    have HN := hide hn
    have HSC := hide hsc
    clear hsec hn hsc
    by_cases hbad : sc = 0 ∨ s.size < (sc + 1) * 128
    · have HNO := hide (hno hbad)
      clear hno hgo htl
      have hfin : ∀ w', Below w.heap.size w w' → RecR (oct s) q w (.returned (.tuple #[.string ⟨#[]⟩, .bool false])) w' := fun w' hb => ⟨⟨#[]⟩, by rw [HNO.out]; rfl, fun t ht => (by rw [HNO.out] at ht; cases ht), hb⟩
      have HFIN := hide hfin
      clear hfin
      by_cases h0 : sc = 0
      · have g1 : ((sc : Int) == 0) = true := by rw [h0]; rfl
        clear hbad h0
        go_enter Try.func84, Try.ntmps84
        go_wp2_with fail
        go_quiet (fail)
        go_wp2_with fail
        refine (HSEC.out _).mono ?_
        rintro r w2 ⟨rfl, rfl⟩
        go_wp2_with fail
        go_ret2
        exact HFIN.out _ (below_drewN (Below.refl _ _) _)
      · have g1 : ((sc : Int) == 0) = false := by rw [beq_eq_false_iff_ne]; omega
        have g2 : (s.size : Int) < ((sc : Int) + 1) * 128 := by omega
        clear hbad h0
        go_enter Try.func84, Try.ntmps84
        go_wp2_with fail
        go_quiet (fail)
        go_wp2_with fail
        refine (HSEC.out _).mono ?_
        rintro r w2 ⟨rfl, rfl⟩
        go_wp2_with fail
        go_ret2
        exact HFIN.out _ (below_drewN (Below.refl _ _) _)
    · obtain ⟨htl1, htl2⟩ := htl hbad
      have hgo2 := hgo hbad
      have g1 : ((sc : Int) == 0) = false := by rw [beq_eq_false_iff_ne]; omega
      have g2 : ¬ (s.size : Int) < ((sc : Int) + 1) * 128 := by omega
      obtain ⟨cut, hcut⟩ : ∃ cut, cut = min n 117 := ⟨_, rfl⟩
      have hmin : min (n : Int) 117 = (cut : Int) := by omega
      obtain ⟨T, hT⟩ : ∃ T, T = mkB (recText (oct s)) := ⟨_, rfl⟩
      have hoT : oct T = recText (oct s) := by rw [hT, oct_mkB]
      have hTz : T.size = n := by rw [hT, mkB_size]; exact htl1
      have hTT : s.extract 10 (10 + cut) ++ s.extract 128 (128 + n - cut) = T := by
        refine oct_inj ?_
        have e : oct (s.extract 10 (10 + cut) ++ s.extract 128 (128 + n - cut)) = oct (s.extract 10 (10 + cut)) ++ oct (s.extract 128 (128 + n - cut)) := by simp [oct]
        rw [e, oct_extract, oct_extract, hoT, recText, ← HN.out, ← hcut]
        rw [show 10 + cut - 10 = cut by omega, show 128 + n - cut - 128 = n - cut by omega]
      have hls := fun w => lsectors_any T q w (by omega) hq
      rw [← hoT] at hgo2
      obtain ⟨F, hF⟩ : ∃ F, F = mkB (LogP.firstB (oct T) q) := ⟨_, rfl⟩
      obtain ⟨G, hG⟩ : ∃ G, G = mkB (LogP.restB (oct T)) := ⟨_, rfl⟩
      have hFz : F.size = 128 := by rw [hF, mkB_size, LogP.firstB_len]
      have hGz : G.size ≤ 10000 := by
        rw [hG, mkB_size, LogP.restB_len (by rw [oct_length]; omega)]
        have := LogP.secs_le (oct T).length
        omega
      have hoF : oct (F ++ G) = LogP.firstB (oct T) q ++ LogP.restB (oct T) := by
        have e : oct (F ++ G) = oct F ++ oct G := by simp [oct]
        rw [e, hF, hG, oct_mkB, oct_mkB]
      have hsc4 : sc * 128 ≤ s.size := by omega
      have hcmp : (((F ++ G).toList == (s.extract 0 (sc * 128)).toList) : Bool) = (LogP.recordB (oct s) q).isSome ∧ ∀ t, LogP.recordB (oct s) q = some t → T = mkB t := by
        rw [toList_cmp, hoF, oct_extract, List.drop_zero, Nat.sub_zero, hgo2]
        by_cases h : LogP.firstB (oct T) q ++ LogP.restB (oct T) = (oct s).take (sc * 128)
        · rw [if_pos h]
          exact ⟨by simp [h], fun t ht => by injection ht with ht; rw [← ht, mkB_oct]⟩
        · rw [if_neg h]
          exact ⟨by simp [h], fun t ht => by cases ht⟩
      obtain ⟨hcm1, hcm2⟩ := hcmp
      rw [← hF, ← hG] at hls
      have hfin : ∀ w', Below w.heap.size w w' → RecR (oct s) q w (.returned (.tuple #[.string T, .bool ((F ++ G).toList == (s.extract 0 (sc * 128)).toList)])) w' := fun w' hb => ⟨T, by rw [hcm1], hcm2, hb⟩
      have b1 : (10 : Int) + (cut : Int) ≤ s.size := by omega
      have b2 : (128 : Int) + (n : Int) - (cut : Int) ≤ s.size := by
        have h1 := HSC.out
        unfold LogP.secs at h1
        rw [if_neg (by omega)] at h1
        split at h1 <;> omega
      have b3 : (128 : Int) ≤ (128 : Int) + (n : Int) - (cut : Int) := by omega
      have HFIN := hide hfin
      have HLS := hide hls
      clear hfin hls hcm1 hcm2 hoF hgo2 hF hG hgo hno htl htl1 hoT hT hcut
      go_enter Try.func84, Try.ntmps84
      go_wp2_with fail
      go_quiet (fail)
      go_wp2_with fail
      refine (HSEC.out _).mono ?_
      rintro r w2 ⟨rfl, rfl⟩
      go_wp2_with fail
      have e1 : IntKind.i64.wrap ((10 : Int) + (cut : Int)) = (10 : Int) + (cut : Int) := IntWalk.i64_in _ (by omega)
      have e2 : IntKind.i64.wrap ((128 : Int) + (n : Int)) = (128 : Int) + (n : Int) := IntWalk.i64_in _ (by omega)
      have e3 : IntKind.i64.wrap ((128 : Int) + (n : Int) - (cut : Int)) = (128 : Int) + (n : Int) - (cut : Int) := IntWalk.i64_in _ (by omega)
      have e4 : ((10 : Int) + (cut : Int)).toNat = 10 + cut := by omega
      have e5 : ((128 : Int) + (n : Int) - (cut : Int)).toNat = 128 + n - cut := by omega
      have b4 : (10 : Int) ≤ (10 : Int) + (cut : Int) := by omega
      have b5 : (0 : Int) ≤ (10 : Int) + (cut : Int) := by omega
      have b6 : (0 : Int) ≤ (128 : Int) + (n : Int) - (cut : Int) := by omega
      go_quiet (fail)
      go_wp2_with fail
      clear e1 e2 e3 e4 e5
      refine (HLS.out _).mono ?_
      rintro r w3 ⟨rfl, hb3⟩
      have hbw3 := (below_drewN (Below.refl w.heap.size w) _).trans hb3
      go_wp2_with fail
      have c1 : ¬ 9223372036854775807 < F.size + G.size := by omega
      have c2 : (sc : Int) * 128 ≤ s.size := by omega
      have c3 : (0 : Int) ≤ (sc : Int) * 128 := by omega
      have e1 : IntKind.i64.wrap ((sc : Int) * 128) = (sc : Int) * 128 := IntWalk.i64_in _ (by omega)
      have e2 : ((sc : Int) * 128).toNat = sc * 128 := by omega
      go_quiet (fail)
      go_wp2_with fail
      go_ret2
      exact HFIN.out _ (below_drewN hbw3 _)
end Go.Proofs.Yteoiadfcchalfaa
