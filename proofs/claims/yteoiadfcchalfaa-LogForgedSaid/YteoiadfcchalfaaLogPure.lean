/- The plain mathematics of layer 18 (log): how many sectors a record has. No program in sight. -/
import Derived.Test.YteoiadfcchalfaaDiskLaw
namespace Go.Proofs.Yteoiadfcchalfaa.LogP
open DiskP (Bytes)

/-- how many sectors a record of n octets has -/
def secs (n : Nat) : Nat := if 4000 < n then 0 else if n ≤ 117 then 1 else 1 + (n - 117 + 127) / 128
theorem secs_zero (n : Nat) : secs n = 0 ↔ 4000 < n := by
  unfold secs
  split
  · simp_all
  · split <;> omega
theorem secs_mono {a b : Nat} (h : a ≤ b) (hb : b ≤ 4000) : secs a ≤ secs b := by
  unfold secs
  rw [if_neg (show ¬ 4000 < a by omega), if_neg (show ¬ 4000 < b by omega)]
  split <;> split <;> omega
theorem secs_step {a : Nat} (h1 : 117 ≤ a) (h2 : a ≤ 3800) : secs (a + 128) = secs a + 1 := by
  unfold secs
  rw [if_neg (show ¬ 4000 < a + 128 by omega), if_neg (show ¬ a + 128 ≤ 117 by omega), if_neg (show ¬ 4000 < a by omega)]
  split <;> omega
theorem secs_pos {n : Nat} (h : n ≤ 4000) : 1 ≤ secs n := by
  have h1 : ¬ secs n = 0 := fun e => by have := (secs_zero n).1 e; omega
  omega
theorem secs_le (n : Nat) : secs n ≤ 32 := by
  unfold secs
  split
  · omega
  · split <;> omega

/-- noughts behind octets, n in all -/
def padded (s : Bytes) (n : Nat) : Bytes := s ++ List.replicate (n - s.length) 0
theorem padded_len {s : Bytes} {n : Nat} (h : s.length ≤ n) : (padded s n).length = n := by
  simp [padded]; omega

/-- ahead of a record's octets: its length, and its number -/
def seqB (q : Nat) : Bytes := [UInt8.ofNat (q / 2 ^ 56), UInt8.ofNat (q / 2 ^ 48), UInt8.ofNat (q / 2 ^ 40), UInt8.ofNat (q / 2 ^ 32), UInt8.ofNat (q / 2 ^ 24), UInt8.ofNat (q / 2 ^ 16), UInt8.ofNat (q / 2 ^ 8), UInt8.ofNat q]
def headB (n q : Nat) : Bytes := [UInt8.ofNat (n / 256), UInt8.ofNat n] ++ seqB q
theorem headB_len (n q : Nat) : (headB n q).length = 10 := rfl
/-- the first sector of a record, and its others -/
def firstB (s : Bytes) (q : Nat) : Bytes := padded (headB s.length q ++ s.take 117) 127 ++ [1]
def restB (s : Bytes) : Bytes := padded (s.drop 117) ((secs s.length - 1) * 128)
theorem firstB_len (s : Bytes) (q : Nat) : (firstB s q).length = 128 := by
  rw [firstB, List.length_append, padded_len (by rw [List.length_append, headB_len, List.length_take]; omega)]
  rfl
theorem restB_len {s : Bytes} (h : s.length ≤ 4000) : (restB s).length = (secs s.length - 1) * 128 := by
  refine padded_len ?_
  rw [List.length_drop]
  unfold secs
  rw [if_neg (by omega)]
  split <;> omega
/-- the record of number q at the beginning of octets -/
def recordB (all : Bytes) (q : Nat) : Option Bytes :=
  if all.length < 128 then none
  else
    let n := (all.getD 0 0).toNat * 256 + (all.getD 1 0).toNat
    if secs n = 0 ∨ all.length < (secs n + 1) * 128 then none
    else
      let s := (all.drop 10).take (min n 117) ++ (all.drop 128).take (n - min n 117)
      if firstB s q ++ restB s = all.take (secs n * 128) then some s else none

theorem firstB_cut {s : Bytes} (q : Nat) (h : s.length ≤ 4000) : ((firstB s q).drop 10).take (min s.length 117) = s.take 117 := by
  unfold firstB padded
  rw [List.append_assoc, List.append_assoc, List.drop_append_of_le_length (by rw [headB_len]; omega), List.drop_of_length_le (by rw [headB_len]; omega), List.nil_append]
  rw [List.take_append_of_le_length (by rw [List.length_take]; omega), List.take_take]
  by_cases h1 : s.length ≤ 117
  · rw [List.take_of_length_le (by omega), List.take_of_length_le h1]
  · congr 1
    omega
end Go.Proofs.Yteoiadfcchalfaa.LogP
