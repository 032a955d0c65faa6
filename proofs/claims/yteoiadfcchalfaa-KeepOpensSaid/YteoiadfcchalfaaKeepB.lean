/- The walks of layer 21's numbers: number, count. (merged: KeepA KeepB) -/
import Derived.Test.YteoiadfcchalfaaDiskB
import Derived.Test.YteoiadfcchalfaaKeepLaw
import Derived.Test.YteoiadfcchalfaaLogB
import Derived.Deep.RegionHeld3
/-! The walks of layer 21's first functions: half, start, Size, and the document's Size; the cut and the octets of the statements. -/
namespace Go.Proofs.Yteoiadfcchalfaa
open Go.RowKit
open DiskP (Bytes Disk Wr Fate)
open KeepP (Cut Head okC okH)
set_option linter.unusedVariables false

/-- a cut, and a head, as values -/
abbrev ctv (c : Cut) : Value := .agg #[.int .i64 (c.log : Nat), .int .i64 (c.pages : Nat)]
abbrev hdv (h : Head) : Value := .agg #[.int .i64 (h.gen : Nat), .int .i64 (h.half : Nat), .int .i64 (h.seq : Nat), .int .i64 (h.pages : Nat)]

theorem Box.cell2 {w : World} {b : Nat} {T : TypeId} {v0 v1 : Value} (h : Box w b T #[v0, v1]) : w.cell? ⟨b, 0, none⟩ = some v0 ∧ w.cell? ⟨b, 1, none⟩ = some v1 :=
  ⟨h.cellAt rfl, h.cellAt rfl⟩

set_option maxRecDepth 100000 in
theorem half_any (c : Cut) (w : World) (hc : okC c) :
    Calls Try.prog 91 #[ctv c] w fun q w' => q = .returned (.int .i64 (KeepP.half c : Nat)) ∧ Below w.heap.size w w' := by
  obtain ⟨cl, cp⟩ := c
  obtain ⟨h1, h2, h3, h4⟩ := hc
  simp only at h1 h2 h3 h4
  unfold ctv KeepP.half
  simp only
  have a1 : (cl : Int) ≤ 400 := by omega
  have a2 : (cp : Int) ≤ 100 := by omega
  have e : ((cl + 8 * cp : Nat) : Int) = (cl : Int) + 8 * (cp : Int) := by omega
  have HE := hide e
  clear e h1 h2 h3 h4
  go_enter Try.func91, Try.ntmps91
  go_wp2_with fail
  go_ret
  exact ⟨ret_int HE.out.symm, (Below.refl _ _).alloc (Nat.le_refl _) _⟩

set_option maxRecDepth 100000 in
theorem start_any (c : Cut) (h : Nat) (w : World) (hc : okC c) (hh : h ≤ 1) :
    Calls Try.prog 101 #[ctv c, .int .i64 (h : Nat)] w fun q w' => q = .returned (.int .i64 (KeepP.start c h : Nat)) ∧ Below w.heap.size w w' := by
  have hhf := fun w1 => half_any c w1 hc
  have hle : KeepP.half c ≤ 1200 := by obtain ⟨h1, h2, h3, h4⟩ := hc; unfold KeepP.half; omega
  unfold KeepP.start
  obtain ⟨k, hk⟩ : ∃ k, k = KeepP.half c := ⟨_, rfl⟩
  rw [← hk] at hhf hle ⊢
  obtain ⟨cl, cp⟩ := c
  unfold ctv at *
  simp only at hhf ⊢
  have HH := hide hhf
  have hb1 : Below w.heap.size w (w.alloc (.cells #[.int .i64 (cl : Nat), .int .i64 (cp : Nat)] 85)) := (Below.refl _ _).alloc (Nat.le_refl _) _
  have hp : h * k ≤ 1 * k := Nat.mul_le_mul_right _ hh
  have hi : (h : Int) * (k : Int) = ((h * k : Nat) : Int) := (Int.natCast_mul h k).symm
  have w1 : IntKind.i64.wrap ((h : Int) * (k : Int)) = ((h * k : Nat) : Int) := by rw [hi]; exact IntWalk.i64_in _ (by omega)
  have w2 : IntKind.i64.wrap (2 + ((h * k : Nat) : Int)) = 2 + ((h * k : Nat) : Int) := IntWalk.i64_in _ (by omega)
  have e : ((2 + h * k : Nat) : Int) = 2 + ((h * k : Nat) : Int) := by omega
  have HE := hide e
  obtain ⟨p, hpp⟩ : ∃ p, p = h * k := ⟨_, rfl⟩
  rw [← hpp] at w1 w2 HE ⊢
  clear e hhf hk hp hi hpp
  go_enter Try.func101, Try.ntmps101
  go_wp2_with fail
  refine (HH.out _).mono ?_
  rintro q w1 ⟨rfl, hb2⟩
  have hbw := hb1.trans (hb2.mono hb1.size)
  clear hb1 hb2 HH
  go_wp2_with fail
  go_ret
  exact ⟨ret_int HE.out.symm, hbw⟩

/-- the size of whatever cut -/
def sizeI (l p : Int) : Int := if l < 2 ∨ 400 < l ∨ p < 1 ∨ 100 < p then 0 else 2 + 2 * l + 16 * p
theorem sizeI_ok {c : Cut} (hc : okC c) : sizeI (c.log : Nat) (c.pages : Nat) = (KeepP.size c : Nat) := by
  obtain ⟨h1, h2, h3, h4⟩ := hc
  unfold sizeI KeepP.size KeepP.half
  rw [if_neg (by omega)]
  omega

set_option maxRecDepth 100000 in
set_option maxHeartbeats 800000 in
theorem size_any (l p : Int) (w : World) :
    Calls Try.prog 63 #[.agg #[.int .i64 l, .int .i64 p]] w fun q w' => q = .returned (.int .i64 (sizeI l p)) ∧ Below w.heap.size w w' := by
  have hb1 : Below w.heap.size w (w.alloc (.cells #[.int .i64 l, .int .i64 p] 85)) := (Below.refl _ _).alloc (Nat.le_refl _) _
  have HB := hide hb1
  clear hb1
  obtain ⟨r, hr⟩ : ∃ r, r = sizeI l p := ⟨_, rfl⟩
  rw [← hr]
  unfold sizeI at hr
  by_cases h1 : l < 2
  · rw [if_pos (.inl h1)] at hr
    have HR := hide hr
    have d1 : decide (l < 2) = true := by simpa using h1
    clear hr h1
    go_enter Try.func63, Try.ntmps63
    go_wp2_with fail
    go_ret
    exact ⟨ret_int HR.out.symm, HB.out⟩
  have d1 : decide (l < 2) = false := by simpa using h1
  by_cases h2 : 400 < l
  · rw [if_pos (.inr (.inl h2))] at hr
    have HR := hide hr
    have d2 : decide (400 < l) = true := by simpa using h2
    clear hr h1 h2
    go_enter Try.func63, Try.ntmps63
    go_wp2_with fail
    go_ret
    exact ⟨ret_int HR.out.symm, HB.out⟩
  have d2 : decide (400 < l) = false := by simpa using h2
  by_cases h3 : p < 1
  · rw [if_pos (.inr (.inr (.inl h3)))] at hr
    have HR := hide hr
    have d3 : decide (p < 1) = true := by simpa using h3
    clear hr h1 h2 h3
    go_enter Try.func63, Try.ntmps63
    go_wp2_with fail
    go_ret
    exact ⟨ret_int HR.out.symm, HB.out⟩
  have d3 : decide (p < 1) = false := by simpa using h3
  by_cases h4 : 100 < p
  · rw [if_pos (.inr (.inr (.inr h4)))] at hr
    have HR := hide hr
    have d4 : decide (100 < p) = true := by simpa using h4
    clear hr h1 h2 h3 h4
    go_enter Try.func63, Try.ntmps63
    go_wp2_with fail
    go_ret
    exact ⟨ret_int HR.out.symm, HB.out⟩
  have d4 : decide (100 < p) = false := by simpa using h4
  obtain ⟨cl, hcl⟩ := Int.eq_ofNat_of_zero_le (show (0 : Int) ≤ l by omega)
  obtain ⟨cp, hcp⟩ := Int.eq_ofNat_of_zero_le (show (0 : Int) ≤ p by omega)
  subst hcl hcp
  have hr : r = 2 + 2 * ((KeepP.half ⟨cl, cp⟩ : Nat) : Int) := by
    rw [hr, if_neg (by omega)]; unfold KeepP.half; simp only; omega
  have hhf := fun w1 => half_any ⟨cl, cp⟩ w1 ⟨by show 2 ≤ cl; omega, by show cl ≤ 400; omega, by show 1 ≤ cp; omega, by show cp ≤ 100; omega⟩
  have hk : KeepP.half ⟨cl, cp⟩ ≤ 1200 := by unfold KeepP.half; simp only; omega
  obtain ⟨k, hkk⟩ : ∃ k, k = KeepP.half ⟨cl, cp⟩ := ⟨_, rfl⟩
  rw [← hkk] at hhf hk hr
  unfold ctv at hhf
  simp only at hhf
  have HH := hide hhf
  have HR := hide hr
  have a1 : (k : Int) ≤ 1200 := by omega
  clear hr hhf hkk hk h1 h2 h3 h4
  go_enter Try.func63, Try.ntmps63
  go_wp2_with fail
  refine (HH.out _).mono ?_
  rintro q w1 ⟨rfl, hb2⟩
  have hbw := HB.out.trans (hb2.mono HB.out.size)
  clear HB hb2 HH
  go_wp2_with fail
  go_ret
  exact ⟨ret_int HR.out.symm, hbw⟩

set_option maxRecDepth 100000 in
set_option maxHeartbeats 800000 in
theorem rsize_any (l p : Int) (w : World) :
    Calls Try.prog 64 #[.agg #[.int .i64 l, .int .i64 p]] w fun q w' => q = .returned (.int .i64 (sizeI l p)) ∧ Below w.heap.size w w' := by
  have hb1 : Below w.heap.size w (w.alloc (.cells #[.int .i64 l, .int .i64 p] 85)) := (Below.refl _ _).alloc (Nat.le_refl _) _
  have HB := hide hb1
  clear hb1
  obtain ⟨r, hr⟩ : ∃ r, r = sizeI l p := ⟨_, rfl⟩
  rw [← hr]
  unfold sizeI at hr
  by_cases h1 : l < 2
  · rw [if_pos (.inl h1)] at hr
    have HR := hide hr
    have d1 : decide (l < 2) = true := by simpa using h1
    clear hr h1
    go_enter Try.func64, Try.ntmps64
    go_wp2_with fail
    go_ret
    exact ⟨ret_int HR.out.symm, HB.out⟩
  have d1 : decide (l < 2) = false := by simpa using h1
  by_cases h2 : 400 < l
  · rw [if_pos (.inr (.inl h2))] at hr
    have HR := hide hr
    have d2 : decide (400 < l) = true := by simpa using h2
    clear hr h1 h2
    go_enter Try.func64, Try.ntmps64
    go_wp2_with fail
    go_ret
    exact ⟨ret_int HR.out.symm, HB.out⟩
  have d2 : decide (400 < l) = false := by simpa using h2
  by_cases h3 : p < 1
  · rw [if_pos (.inr (.inr (.inl h3)))] at hr
    have HR := hide hr
    have d3 : decide (p < 1) = true := by simpa using h3
    clear hr h1 h2 h3
    go_enter Try.func64, Try.ntmps64
    go_wp2_with fail
    go_ret
    exact ⟨ret_int HR.out.symm, HB.out⟩
  have d3 : decide (p < 1) = false := by simpa using h3
  by_cases h4 : 100 < p
  · rw [if_pos (.inr (.inr (.inr h4)))] at hr
    have HR := hide hr
    have d4 : decide (100 < p) = true := by simpa using h4
    clear hr h1 h2 h3 h4
    go_enter Try.func64, Try.ntmps64
    go_wp2_with fail
    go_ret
    exact ⟨ret_int HR.out.symm, HB.out⟩
  have d4 : decide (100 < p) = false := by simpa using h4
  rw [if_neg (by omega)] at hr
  have HR := hide hr
  have a1 : (2 : Int) ≤ l := by omega
  have a2 : l ≤ 400 := by omega
  have a3 : (1 : Int) ≤ p := by omega
  have a4 : p ≤ 100 := by omega
  clear hr h1 h2 h3 h4
  go_enter Try.func64, Try.ntmps64
  go_wp2_with fail
  go_ret
  exact ⟨ret_int HR.out.symm, HB.out⟩

/-- the cut of the statements -/
def cutN (n : Nat) : Cut := ⟨8 + n % 6, 1 + n / 6 % 4⟩
theorem cutN_ok (n : Nat) : okC (cutN n) := by unfold cutN; exact ⟨by show 2 ≤ 8 + n % 6; omega, by show 8 + n % 6 ≤ 400; omega, by show 1 ≤ 1 + n / 6 % 4; omega, by show 1 + n / 6 % 4 ≤ 100; omega⟩

/-- octets of which no more is looked at than may be -/
def few21 (s : ByteArray) : ByteArray := if 4100 < s.size then s.extract 0 4100 else s
theorem few21_size (s : ByteArray) : (few21 s).size ≤ 4100 := by
  unfold few21
  split
  · rw [← oct_length, oct_extract]; simp; omega
  · omega
set_option maxRecDepth 100000 in
theorem few21_any (s : ByteArray) (w : World) (hs : s.size ≤ 9223372036854775807) : Calls Try.prog 51 #[.string s] w fun e w' => e = .returned (.string (few21 s)) ∧ w = w' := by
  obtain ⟨R, hR⟩ : ∃ R, R = few21 s := ⟨_, rfl⟩
  rw [← hR]
  unfold few21 at hR
  by_cases h1 : 4100 < s.size
  · rw [if_pos h1] at hR
    have HR := hide hR
    have b1 : (4100 : Int) < (s.size : Int) := by omega
    have b3 : (4100 : Int) ≤ (s.size : Int) := by omega
    clear hR h1
    go_enter Try.func51, Try.ntmps51
    go_wp2_with fail
    go_ret
    exact ⟨by rw [HR.out]; rfl, rfl⟩
  · rw [if_neg h1] at hR
    have HR := hide hR
    have b1 : ¬ (4100 : Int) < (s.size : Int) := by omega
    clear hR h1
    go_enter Try.func51, Try.ntmps51
    go_wp2_with fail
    go_ret
    exact ⟨by rw [HR.out]; rfl, rfl⟩
end Go.Proofs.Yteoiadfcchalfaa

/-! The walks of layer 21's numbers: number, count. -/
namespace Go.Proofs.Yteoiadfcchalfaa
open Go.RowKit
open DiskP (Bytes Disk Wr Fate)
open KeepP (Cut Head okC okH numB countB)
set_option linter.unusedVariables false

theorem numB_snoc (n k j : Nat) (h : j < k) : bytesV ((numB n k).take j) ++ [.int .u8 ((n : Int) / 2 ^ (8 * (k - 1 - j)) % 256)] = bytesV ((numB n k).take (j + 1)) := by
  have h2 : j < (numB n k).length := by rw [KeepP.numB_len]; exact h
  have h1 : (numB n k)[j] = UInt8.ofNat (n / 256 ^ (k - 1 - j)) := by simp [numB]
  rw [List.take_succ_eq_append_getElem h2, bytesV_append, h1]
  congr 1
  have e : (256 : Nat) ^ (k - 1 - j) = 2 ^ (8 * (k - 1 - j)) := by rw [Nat.pow_mul]
  rw [e]
  simp [bytesV]

set_option maxRecDepth 100000 in
set_option maxHeartbeats 800000 in
theorem number_any (n k : Nat) (w : World) (hn : n ≤ 9223372036854775807) (hk : k ≤ 8) :
    Calls Try.prog 112 #[.int .i64 n, .int .i64 k] w fun q w' => q = .returned (.string (mkB (numB n k))) ∧ Below w.heap.size w w' := by
  have ho0 : w.ownsRow w.heap.size 5 1 (.slice none 0 0) 0 (bytesV ((numB n k).take 0)) := ⟨rfl, .inl ⟨rfl, rfl⟩⟩
  go_enter Try.func112, Try.ntmps112
  go_wp2_with fail
  go_loopw [5, 6] (fun v iv wr => ∃ j : Nat, j ≤ k ∧ iv = .int .i64 ((k : Int) - 1 - (j : Int)) ∧ wr.ownsRow w.heap.size 5 1 v j (bytesV ((numB n k).take j)) ∧ Below w.heap.size w wr) (fun _ iv _ => (intOf iv + 1).toNat)
  case atStart => exact ⟨0, by omega, by simp, ho0, Below.refl _ _⟩
  case round =>
    clear ho0
    obtain ⟨j, hj, rfl, hown, hb⟩ := hrel
    by_cases hlt : j < k
    · obtain ⟨m, hm⟩ : ∃ m, m = k - 1 - j := ⟨_, rfl⟩
      have hi : (k : Int) - 1 - (j : Int) = (m : Int) := by omega
      have HSN := hide (numB_snoc n k j hlt)
      rw [← hm] at HSN
      rw [hi]
      have hm8 : (m : Int) ≤ 7 := by omega
      have hj2 : j ≤ 1000000000000 := by omega
      have hbs := hb.size
      have HI := hide hi
      have HM := hide hm
      clear hi hm
      go_wp2_with (at_builtin; refine app_byte rfl _ _ rfl w.heap.size _ _ _ hown rfl _ rfl rfl hj2 hbs ?_; intro v2 w2 hA)
      have hb2 := hA.below hown hb (Nat.le_refl _) hbs
      have ho2 := hA.own
      rw [HSN.out] at ho2
      go_roundw
      case rel => exact ⟨j + 1, by omega, by rw [Int.natCast_add, ← Int.sub_sub, HI.out]; rfl, ho2, hb2⟩
      case measure => simp [intOf]
    · have hjk : j = k := by omega
      subst hjk
      have hi : (j : Int) - 1 - (j : Int) = -1 := by omega
      rw [hi]
      rw [List.take_of_length_le (Nat.le_of_eq (KeepP.numB_len _ _))] at hown
      obtain ⟨A6, c6, rfl⟩ := own_shape hown
      have hsl := Sl.of_own hown
      have hcv := conv_str (P := Try.prog) (c := c6) hsl 62 9 5 Try.underlying62 Try.underlying5 Try.underlying9
      clear hown hsl hlt hi
      go_wp2_with fail
      go_ret
      exact ⟨rfl, hb⟩

theorem u64_or_nat (a b : Nat) (ha : a < 18446744073709551616) (hb : b < 18446744073709551616) : bits .or .u64 (a : Int) (b : Int) = ((a ||| b : Nat) : Int) := by
  have hx : a ||| b < 2 ^ 64 := Nat.or_lt_two_pow (by omega) (by omega)
  have ea : (BitVec.ofInt 64 (a : Int)).toNat = a := by rw [BitVec.ofInt_natCast, BitVec.toNat_ofNat]; exact Nat.mod_eq_of_lt (by omega)
  have eb : (BitVec.ofInt 64 (b : Int)).toNat = b := by rw [BitVec.ofInt_natCast, BitVec.toNat_ofNat]; exact Nat.mod_eq_of_lt (by omega)
  show IntKind.u64.wrap ((BitVec.ofInt 64 (a : Int) ||| BitVec.ofInt 64 (b : Int)).toNat : Int) = _
  rw [BitVec.toNat_or, ea, eb]
  show (((a ||| b : Nat) : Int)) % 18446744073709551616 = _
  omega

set_option maxRecDepth 100000 in
set_option maxHeartbeats 800000 in
theorem count_any (s : ByteArray) (w : World) (hs : s.size ≤ 8) :
    Calls Try.prog 113 #[.string s] w fun q w' => q = .returned (.int .u64 (countB (oct s) : Nat)) ∧ w = w' := by
  go_enter Try.func113, Try.ntmps113
  go_wp2_with fail
  go_loop [3, 7] (fun v iv => ∃ j : Nat, j ≤ s.size ∧ iv = .int .i64 j ∧ v = .int .u64 (countB ((oct s).take j) : Nat)) (fun _ iv => s.size - (intOf iv).toNat)
  case atStart => exact ⟨0, by omega, rfl, rfl⟩
  case round =>
    obtain ⟨j, hj, rfl, rfl⟩ := hrel
    by_cases hlt : j < s.size
    · have hsn : countB ((oct s).take (j + 1)) = countB ((oct s).take j) * 256 + s[j].toNat := by
        rw [List.take_succ_eq_append_getElem (by rw [oct_length]; exact hlt), KeepP.count_snoc]
        rfl
      have hlc : countB ((oct s).take j) < 72057594037927936 := Nat.lt_of_lt_of_le (KeepP.count_lt _) (Nat.le_trans (Nat.pow_le_pow_right (by decide) (show ((oct s).take j).length ≤ 7 by rw [List.length_take]; omega)) (by decide))
      have hb : s[j].toNat < 256 := UInt8.toNat_lt _
      obtain ⟨c, hc⟩ : ∃ c, c = countB ((oct s).take j) := ⟨_, rfl⟩
      rw [← hc] at hsn hlc ⊢
      have HS := hide hsn
      clear hsn hc
      have hor : bits .or .u64 ((c : Int) * 256) (s[j].toNat : Int) = ((c * 256 + s[j].toNat : Nat) : Int) := by
        have h2 : s[j].toNat < 256 := UInt8.toNat_lt _
        rw [show (c : Int) * 256 = ((c * 256 : Nat) : Int) by omega, u64_or_nat _ _ (by omega) (by omega), or_two _ _ h2]
        omega
      have HOR := hide hor
      clear hor
      go_wp2_with fail
      go_round
      case rel => exact ⟨j + 1, by omega, by go_num, by rw [HS.out, HOR.out]⟩
      case measure => simp [intOf]; omega
    · have hjs : j = s.size := by omega
      subst hjs
      have e : countB ((oct s).take s.size) = countB (oct s) := by rw [List.take_of_length_le (by rw [oct_length]; omega)]
      rw [e]
      have hc := hide (KeepP.count_lt (oct s))
      clear e hlt
      go_wp2_with fail
      go_ret
      exact ⟨rfl, rfl⟩

/-- octets one behind the other -/
theorem mkB_app (a b : Bytes) : mkB a ++ mkB b = mkB (a ++ b) := mkB_append a b

set_option maxRecDepth 100000 in
set_option maxHeartbeats 1600000 in
theorem sector_any (h : Head) (w : World) (h1 : h.gen ≤ 9223372036854775807) (h2 : h.half ≤ 9223372036854775807) (h3 : h.seq ≤ 9223372036854775807) (h4 : h.pages ≤ 9223372036854775807) :
    Calls Try.prog 104 #[hdv h] w fun q w' => q = .returned (.string (mkB (KeepP.sectorB h))) ∧ Below w.heap.size w w' := by
  have n1 : ∀ w1, Calls Try.prog 112 #[.int .i64 (h.gen : Nat), .int .i64 8] w1 fun q w' => q = .returned (.string (mkB (numB h.gen 8))) ∧ Below w1.heap.size w1 w' := fun w1 => number_any h.gen 8 w1 h1 (by decide)
  have n2 : ∀ w1, Calls Try.prog 112 #[.int .i64 (h.half : Nat), .int .i64 1] w1 fun q w' => q = .returned (.string (mkB (numB h.half 1))) ∧ Below w1.heap.size w1 w' := fun w1 => number_any h.half 1 w1 h2 (by decide)
  have n3 : ∀ w1, Calls Try.prog 112 #[.int .i64 (h.seq : Nat), .int .i64 8] w1 fun q w' => q = .returned (.string (mkB (numB h.seq 8))) ∧ Below w1.heap.size w1 w' := fun w1 => number_any h.seq 8 w1 h3 (by decide)
  have n4 : ∀ w1, Calls Try.prog 112 #[.int .i64 (h.pages : Nat), .int .i64 2] w1 fun q w' => q = .returned (.string (mkB (numB h.pages 2))) ∧ Below w1.heap.size w1 w' := fun w1 => number_any h.pages 2 w1 h4 (by decide)
  obtain ⟨a, ha⟩ : ∃ a, a = mkB (numB h.gen 8) := ⟨_, rfl⟩
  obtain ⟨b, hb⟩ : ∃ b, b = mkB (numB h.half 1) := ⟨_, rfl⟩
  obtain ⟨c, hc⟩ : ∃ c, c = mkB (numB h.seq 8) := ⟨_, rfl⟩
  obtain ⟨d, hd⟩ : ∃ d, d = mkB (numB h.pages 2) := ⟨_, rfl⟩
  obtain ⟨z, hz⟩ : ∃ z, z = mkB (DiskP.noughts 108) := ⟨_, rfl⟩
  have sa : a.size = 8 := by rw [ha, mkB_size, KeepP.numB_len]
  have sb : b.size = 1 := by rw [hb, mkB_size, KeepP.numB_len]
  have sc : c.size = 8 := by rw [hc, mkB_size, KeepP.numB_len]
  have sd : d.size = 2 := by rw [hd, mkB_size, KeepP.numB_len]
  have sz : z.size = 108 := by rw [hz, mkB_size]; simp [DiskP.noughts]
  obtain ⟨R, hR⟩ : ∃ R, R = mkB (KeepP.sectorB h) := ⟨_, rfl⟩
  have e : a ++ b ++ c ++ d ++ z ++ ⟨#[1]⟩ = R := by
    rw [ha, hb, hc, hd, hz, hR, show (⟨#[1]⟩ : ByteArray) = mkB [1] from rfl, mkB_app, mkB_app, mkB_app, mkB_app, mkB_app, KeepP.sectorB]
  rw [← ha] at n1
  rw [← hb] at n2
  rw [← hc] at n3
  rw [← hd] at n4
  rw [← hR]
  have hnz := fun w1 => noughts_any 108 w1 (by omega) (by omega)
  rw [show (108 : Int).toNat = 108 from rfl, ← hz] at hnz
  obtain ⟨g, hf, q, p⟩ := h
  unfold hdv
  simp only at n1 n2 n3 n4 ⊢
  have N1 := hide n1
  have N2 := hide n2
  have N3 := hide n3
  have N4 := hide n4
  have NZ := hide hnz
  have HE := hide e
  have kB := Box.new w 128 #[.int .i64 (g : Nat), .int .i64 (hf : Nat), .int .i64 (q : Nat), .int .i64 (p : Nat)]
  have hb1 : Below w.heap.size w (w.alloc (.cells #[.int .i64 (g : Nat), .int .i64 (hf : Nat), .int .i64 (q : Nat), .int .i64 (p : Nat)] 128)) := (Below.refl _ _).alloc (Nat.le_refl _) _
  obtain ⟨w1, hw1⟩ : ∃ x, x = w.alloc (.cells #[.int .i64 (g : Nat), .int .i64 (hf : Nat), .int .i64 (q : Nat), .int .i64 (p : Nat)] 128) := ⟨_, rfl⟩
  rw [← hw1] at hb1 kB
  have HW := hide hw1
  clear n1 n2 n3 n4 hnz e ha hb hc hd hz hR hw1 h1 h2 h3 h4
  have b1 : ¬ 9223372036854775807 < a.size + b.size := by omega
  have b2 : ¬ 9223372036854775807 < a.size + b.size + c.size := by omega
  have b3 : ¬ 9223372036854775807 < a.size + b.size + c.size + d.size := by omega
  go_enter Try.func104, Try.ntmps104
  go_wp2_with fail
  have hw1 := HW.out
  clear HW
  subst hw1
  have S0 : (w.alloc (.cells #[.int .i64 (g : Nat), .int .i64 (hf : Nat), .int .i64 (q : Nat), .int .i64 (p : Nat)] 128)).cell? ⟨w.heap.size, 0, none⟩ = some (.int .i64 (g : Nat)) ∧ (w.alloc (.cells #[.int .i64 (g : Nat), .int .i64 (hf : Nat), .int .i64 (q : Nat), .int .i64 (p : Nat)] 128)).cell? ⟨w.heap.size, 1, none⟩ = some (.int .i64 (hf : Nat)) ∧
      (w.alloc (.cells #[.int .i64 (g : Nat), .int .i64 (hf : Nat), .int .i64 (q : Nat), .int .i64 (p : Nat)] 128)).cell? ⟨w.heap.size, 2, none⟩ = some (.int .i64 (q : Nat)) ∧ (w.alloc (.cells #[.int .i64 (g : Nat), .int .i64 (hf : Nat), .int .i64 (q : Nat), .int .i64 (p : Nat)] 128)).cell? ⟨w.heap.size, 3, none⟩ = some (.int .i64 (p : Nat)) := kB.cell4
  go_region_held3 (fun w' => w'.cell? ⟨w.heap.size, 0, none⟩ = some (.int .i64 (g : Nat)) ∧ w'.cell? ⟨w.heap.size, 1, none⟩ = some (.int .i64 (hf : Nat)) ∧ w'.cell? ⟨w.heap.size, 2, none⟩ = some (.int .i64 (q : Nat)) ∧ w'.cell? ⟨w.heap.size, 3, none⟩ = some (.int .i64 (p : Nat)))
    (first | exact S0 | exact (kB.drew.belowS hba).cell4 | exact ((kB.drew.belowS hba).belowS hbb).cell4 | exact (((kB.drew.belowS hba).belowS hbb).belowS hbc).cell4 | exact ((((kB.drew.belowS hba).belowS hbb).belowS hbc).belowS hbd).cell4)
    (first
      | ((with_reducible refine (N1.out _).mono ?_); rintro r wa ⟨rfl, hba⟩)
      | ((with_reducible refine (N2.out _).mono ?_); rintro r wb ⟨rfl, hbb⟩)
      | ((with_reducible refine (N3.out _).mono ?_); rintro r wc ⟨rfl, hbc⟩)
      | ((with_reducible refine (N4.out _).mono ?_); rintro r wd ⟨rfl, hbd⟩))
  have he := HE.out
  have hz1 : (a ++ b ++ c ++ d).size = 19 := by simp only [ByteArray.size_append]; omega
  have hbw := ((((hb1.drew).trans (hba.mono hb1.size)).trans (hbb.mono (Nat.le_trans hb1.size hba.size))).trans (hbc.mono (Nat.le_trans hb1.size (Nat.le_trans hba.size hbb.size)))).trans (hbd.mono (Nat.le_trans hb1.size (Nat.le_trans hba.size (Nat.le_trans hbb.size hbc.size))))
  obtain ⟨S1, hS1⟩ : ∃ S1, S1 = a ++ b ++ c ++ d := ⟨_, rfl⟩
  rw [← hS1] at he hz1 ⊢
  have HE2 := hide he
  have b4 : ¬ 9223372036854775807 < S1.size + z.size := by omega
  have b5 : ¬ 9223372036854775807 < S1.size + z.size + 1 := by omega
  clear HE he hS1 S0 kB hb1 hba hbb hbc hbd b1 b2 b3 N1 N2 N3 N4 sa sb sc sd
  go_wp2_with fail
  refine (NZ.out _).mono ?_
  rintro r we ⟨rfl, hbe⟩
  have hbw2 := hbw.trans (hbe.mono hbw.size)
  go_wp2_with fail
  go_ret
  exact ⟨ret_str HE2.out, hbw2⟩
end Go.Proofs.Yteoiadfcchalfaa
