/- The walks of layer 21's heads: read, begin. -/
import Derived.Test.YtojincohnjophaaGreatDoorDiskB
import Derived.Test.YtojincohnjophaaGreatDoorKeepLaw
import Derived.Test.YtojincohnjophaaGreatDoorLogB
import Derived.Deep.RegionHeld3
/-! The walks of layer 21's numbers: number, count. (merged: KeepA KeepB) -/
/-! The walks of layer 21's first functions: half, start, Size, and the document's Size; the cut and the octets of the statements. -/
namespace Go.Proofs.YtojincohnjophaaGreatDoor
open Go.RowKit
open DiskP (Bytes Disk Wr Fate)
open KeepP (Cut Head okC okH)
set_option linter.unusedVariables false

/-- a cut, and a head, as values -/
abbrev ctv (c : Cut) : Value := .agg #[.int .i64 (c.log : Nat), .int .i64 (c.pages : Nat)]
abbrev hdv (h : Head) : Value := .agg #[.int .i64 (h.gen : Nat), .int .i64 (h.half : Nat), .int .i64 (h.seq : Nat), .int .i64 (h.pages : Nat)]

theorem Box.cell2 {w : World} {b : Nat} {T : TypeId} {v0 v1 : Value} (h : Box w b T #[v0, v1]) : w.cell? ⟨b, 0, none⟩ = some v0 ∧ w.cell? ⟨b, 1, none⟩ = some v1 :=
  ⟨h.cellAt rfl, h.cellAt rfl⟩

set_option maxRecDepth 100000 in
theorem half_any (c : Cut) (w : World) (hc : okC c) :
    Calls Tryz.prog 55 #[ctv c] w fun q w' => q = .returned (.int .i64 (KeepP.half c : Nat)) ∧ Below w.heap.size w w' := by
  obtain ⟨cl, cp⟩ := c
  obtain ⟨h1, h2, h3, h4⟩ := hc
  simp only at h1 h2 h3 h4
  unfold ctv KeepP.half
  simp only
  have a1 : (cl : Int) ≤ 400 := by omega
  have a2 : (cp : Int) ≤ 100 := by omega
  have e : ((cl + 8 * cp : Nat) : Int) = (cl : Int) + 8 * (cp : Int) := by omega
  have HE := hide e
  clear e h1 h2 h3 h4
  go_enter Tryz.func55, Tryz.ntmps55
  go_wp2_with fail
  go_ret
  exact ⟨ret_int HE.out.symm, (Below.refl _ _).alloc (Nat.le_refl _) _⟩

set_option maxRecDepth 100000 in
theorem start_any (c : Cut) (h : Nat) (w : World) (hc : okC c) (hh : h ≤ 1) :
    Calls Tryz.prog 57 #[ctv c, .int .i64 (h : Nat)] w fun q w' => q = .returned (.int .i64 (KeepP.start c h : Nat)) ∧ Below w.heap.size w w' := by
  have hhf := fun w1 => half_any c w1 hc
  have hle : KeepP.half c ≤ 1200 := by obtain ⟨h1, h2, h3, h4⟩ := hc; unfold KeepP.half; omega
  unfold KeepP.start
  obtain ⟨k, hk⟩ : ∃ k, k = KeepP.half c := ⟨_, rfl⟩
  rw [← hk] at hhf hle ⊢
  obtain ⟨cl, cp⟩ := c
  unfold ctv at *
  simp only at hhf ⊢
  have HH := hide hhf
  have hb1 : Below w.heap.size w (w.alloc (.cells #[.int .i64 (cl : Nat), .int .i64 (cp : Nat)] 46)) := (Below.refl _ _).alloc (Nat.le_refl _) _
  have hp : h * k ≤ 1 * k := Nat.mul_le_mul_right _ hh
  have hi : (h : Int) * (k : Int) = ((h * k : Nat) : Int) := (Int.natCast_mul h k).symm
  have w1 : IntKind.i64.wrap ((h : Int) * (k : Int)) = ((h * k : Nat) : Int) := by rw [hi]; exact IntWalk.i64_in _ (by omega)
  have w2 : IntKind.i64.wrap (2 + ((h * k : Nat) : Int)) = 2 + ((h * k : Nat) : Int) := IntWalk.i64_in _ (by omega)
  have e : ((2 + h * k : Nat) : Int) = 2 + ((h * k : Nat) : Int) := by omega
  have HE := hide e
  obtain ⟨p, hpp⟩ : ∃ p, p = h * k := ⟨_, rfl⟩
  rw [← hpp] at w1 w2 HE ⊢
  clear e hhf hk hp hi hpp
  go_enter Tryz.func57, Tryz.ntmps57
  go_wp2_with fail
  refine (HH.out _).mono ?_
  rintro q w1 ⟨rfl, hb2⟩
  have hbw := hb1.trans (hb2.mono hb1.size)
  clear hb1 hb2 HH
  go_wp2_with fail
  go_ret
  exact ⟨ret_int HE.out.symm, hbw⟩

/-- the size of whatever cut -/
def sizeI (l p : Int) : Int := if l < 2 ∨ 400 < l ∨ p < 1 ∨ 100 < p then 0 else 2 + 2 * l + 16 * p
theorem sizeI_ok {c : Cut} (hc : okC c) : sizeI (c.log : Nat) (c.pages : Nat) = (KeepP.size c : Nat) := by
  obtain ⟨h1, h2, h3, h4⟩ := hc
  unfold sizeI KeepP.size KeepP.half
  rw [if_neg (by omega)]
  omega

set_option maxRecDepth 100000 in
set_option maxHeartbeats 800000 in
theorem size_any (l p : Int) (w : World) :
    Calls Tryz.prog 27 #[.agg #[.int .i64 l, .int .i64 p]] w fun q w' => q = .returned (.int .i64 (sizeI l p)) ∧ Below w.heap.size w w' := by
  have hb1 : Below w.heap.size w (w.alloc (.cells #[.int .i64 l, .int .i64 p] 46)) := (Below.refl _ _).alloc (Nat.le_refl _) _
  have HB := hide hb1
  clear hb1
  obtain ⟨r, hr⟩ : ∃ r, r = sizeI l p := ⟨_, rfl⟩
  rw [← hr]
  unfold sizeI at hr
  by_cases h1 : l < 2
  · rw [if_pos (.inl h1)] at hr
    have HR := hide hr
    have d1 : decide (l < 2) = true := by simpa using h1
    clear hr h1
    go_enter Tryz.func27, Tryz.ntmps27
    go_wp2_with fail
    go_ret
    exact ⟨ret_int HR.out.symm, HB.out⟩
  have d1 : decide (l < 2) = false := by simpa using h1
  by_cases h2 : 400 < l
  · rw [if_pos (.inr (.inl h2))] at hr
    have HR := hide hr
    have d2 : decide (400 < l) = true := by simpa using h2
    clear hr h1 h2
    go_enter Tryz.func27, Tryz.ntmps27
    go_wp2_with fail
    go_ret
    exact ⟨ret_int HR.out.symm, HB.out⟩
  have d2 : decide (400 < l) = false := by simpa using h2
  by_cases h3 : p < 1
  · rw [if_pos (.inr (.inr (.inl h3)))] at hr
    have HR := hide hr
    have d3 : decide (p < 1) = true := by simpa using h3
    clear hr h1 h2 h3
    go_enter Tryz.func27, Tryz.ntmps27
    go_wp2_with fail
    go_ret
    exact ⟨ret_int HR.out.symm, HB.out⟩
  have d3 : decide (p < 1) = false := by simpa using h3
  by_cases h4 : 100 < p
  · rw [if_pos (.inr (.inr (.inr h4)))] at hr
    have HR := hide hr
    have d4 : decide (100 < p) = true := by simpa using h4
    clear hr h1 h2 h3 h4
    go_enter Tryz.func27, Tryz.ntmps27
    go_wp2_with fail
    go_ret
    exact ⟨ret_int HR.out.symm, HB.out⟩
  have d4 : decide (100 < p) = false := by simpa using h4
  obtain ⟨cl, hcl⟩ := Int.eq_ofNat_of_zero_le (show (0 : Int) ≤ l by omega)
  obtain ⟨cp, hcp⟩ := Int.eq_ofNat_of_zero_le (show (0 : Int) ≤ p by omega)
  subst hcl hcp
  have hr : r = 2 + 2 * ((KeepP.half ⟨cl, cp⟩ : Nat) : Int) := by
    rw [hr, if_neg (by omega)]; unfold KeepP.half; simp only; omega
  have hhf := fun w1 => half_any ⟨cl, cp⟩ w1 ⟨by show 2 ≤ cl; omega, by show cl ≤ 400; omega, by show 1 ≤ cp; omega, by show cp ≤ 100; omega⟩
  have hk : KeepP.half ⟨cl, cp⟩ ≤ 1200 := by unfold KeepP.half; simp only; omega
  obtain ⟨k, hkk⟩ : ∃ k, k = KeepP.half ⟨cl, cp⟩ := ⟨_, rfl⟩
  rw [← hkk] at hhf hk hr
  unfold ctv at hhf
  simp only at hhf
  have HH := hide hhf
  have HR := hide hr
  have a1 : (k : Int) ≤ 1200 := by omega
  clear hr hhf hkk hk h1 h2 h3 h4
  go_enter Tryz.func27, Tryz.ntmps27
  go_wp2_with fail
  refine (HH.out _).mono ?_
  rintro q w1 ⟨rfl, hb2⟩
  have hbw := HB.out.trans (hb2.mono HB.out.size)
  clear HB hb2 HH
  go_wp2_with fail
  go_ret
  exact ⟨ret_int HR.out.symm, hbw⟩

end Go.Proofs.YtojincohnjophaaGreatDoor

/-! The walks of layer 21's numbers: number, count. -/
namespace Go.Proofs.YtojincohnjophaaGreatDoor
open Go.RowKit
open DiskP (Bytes Disk Wr Fate)
open KeepP (Cut Head okC okH numB countB)
set_option linter.unusedVariables false

theorem numB_snoc (n k j : Nat) (h : j < k) : bytesV ((numB n k).take j) ++ [.int .u8 ((n : Int) / 2 ^ (8 * (k - 1 - j)) % 256)] = bytesV ((numB n k).take (j + 1)) := by
  have h2 : j < (numB n k).length := by rw [KeepP.numB_len]; exact h
  have h1 : (numB n k)[j] = UInt8.ofNat (n / 256 ^ (k - 1 - j)) := by simp [numB]
  rw [List.take_succ_eq_append_getElem h2, bytesV_append, h1]
  congr 1
  have e : (256 : Nat) ^ (k - 1 - j) = 2 ^ (8 * (k - 1 - j)) := by rw [Nat.pow_mul]
  rw [e]
  simp [bytesV]

set_option maxRecDepth 100000 in
set_option maxHeartbeats 800000 in
theorem number_any (n k : Nat) (w : World) (hn : n ≤ 9223372036854775807) (hk : k ≤ 8) :
    Calls Tryz.prog 97 #[.int .i64 n, .int .i64 k] w fun q w' => q = .returned (.string (mkB (numB n k))) ∧ Below w.heap.size w w' := by
  have ho0 : w.ownsRow w.heap.size 5 1 (.slice none 0 0) 0 (bytesV ((numB n k).take 0)) := ⟨rfl, .inl ⟨rfl, rfl⟩⟩
  go_enter Tryz.func97, Tryz.ntmps97
  go_wp2_with fail
  go_loopw [5, 6] (fun v iv wr => ∃ j : Nat, j ≤ k ∧ iv = .int .i64 ((k : Int) - 1 - (j : Int)) ∧ wr.ownsRow w.heap.size 5 1 v j (bytesV ((numB n k).take j)) ∧ Below w.heap.size w wr) (fun _ iv _ => (intOf iv + 1).toNat)
  case atStart => exact ⟨0, by omega, by simp, ho0, Below.refl _ _⟩
  case round =>
    clear ho0
    obtain ⟨j, hj, rfl, hown, hb⟩ := hrel
    by_cases hlt : j < k
    · obtain ⟨m, hm⟩ : ∃ m, m = k - 1 - j := ⟨_, rfl⟩
      have hi : (k : Int) - 1 - (j : Int) = (m : Int) := by omega
      have HSN := hide (numB_snoc n k j hlt)
      rw [← hm] at HSN
      rw [hi]
      have hm8 : (m : Int) ≤ 7 := by omega
      have hj2 : j ≤ 1000000000000 := by omega
      have hbs := hb.size
      have HI := hide hi
      have HM := hide hm
      clear hi hm
      go_wp2_with (at_builtin; refine app_byte rfl _ _ rfl w.heap.size _ _ _ hown rfl _ rfl rfl hj2 hbs ?_; intro v2 w2 hA)
      have hb2 := hA.below hown hb (Nat.le_refl _) hbs
      have ho2 := hA.own
      rw [HSN.out] at ho2
      go_roundw
      case rel => exact ⟨j + 1, by omega, by rw [Int.natCast_add, ← Int.sub_sub, HI.out]; rfl, ho2, hb2⟩
      case measure => simp [intOf]
    · have hjk : j = k := by omega
      subst hjk
      have hi : (j : Int) - 1 - (j : Int) = -1 := by omega
      rw [hi]
      rw [List.take_of_length_le (Nat.le_of_eq (KeepP.numB_len _ _))] at hown
      obtain ⟨A6, c6, rfl⟩ := own_shape hown
      have hsl := Sl.of_own hown
      have hcv := conv_str (P := Tryz.prog) (c := c6) hsl 33 9 5 Tryz.underlying33 Tryz.underlying5 Tryz.underlying9
      clear hown hsl hlt hi
      go_wp2_with fail
      go_ret
      exact ⟨rfl, hb⟩

theorem u64_or_nat (a b : Nat) (ha : a < 18446744073709551616) (hb : b < 18446744073709551616) : bits .or .u64 (a : Int) (b : Int) = ((a ||| b : Nat) : Int) := by
  have hx : a ||| b < 2 ^ 64 := Nat.or_lt_two_pow (by omega) (by omega)
  have ea : (BitVec.ofInt 64 (a : Int)).toNat = a := by rw [BitVec.ofInt_natCast, BitVec.toNat_ofNat]; exact Nat.mod_eq_of_lt (by omega)
  have eb : (BitVec.ofInt 64 (b : Int)).toNat = b := by rw [BitVec.ofInt_natCast, BitVec.toNat_ofNat]; exact Nat.mod_eq_of_lt (by omega)
  show IntKind.u64.wrap ((BitVec.ofInt 64 (a : Int) ||| BitVec.ofInt 64 (b : Int)).toNat : Int) = _
  rw [BitVec.toNat_or, ea, eb]
  show (((a ||| b : Nat) : Int)) % 18446744073709551616 = _
  omega

set_option maxRecDepth 100000 in
set_option maxHeartbeats 800000 in
theorem count_any (s : ByteArray) (w : World) (hs : s.size ≤ 8) :
    Calls Tryz.prog 100 #[.string s] w fun q w' => q = .returned (.int .u64 (countB (oct s) : Nat)) ∧ w = w' := by
  go_enter Tryz.func100, Tryz.ntmps100
  go_wp2_with fail
  go_loop [3, 7] (fun v iv => ∃ j : Nat, j ≤ s.size ∧ iv = .int .i64 j ∧ v = .int .u64 (countB ((oct s).take j) : Nat)) (fun _ iv => s.size - (intOf iv).toNat)
  case atStart => exact ⟨0, by omega, rfl, rfl⟩
  case round =>
    obtain ⟨j, hj, rfl, rfl⟩ := hrel
    by_cases hlt : j < s.size
    · have hsn : countB ((oct s).take (j + 1)) = countB ((oct s).take j) * 256 + s[j].toNat := by
        rw [List.take_succ_eq_append_getElem (by rw [oct_length]; exact hlt), KeepP.count_snoc]
        rfl
      have hlc : countB ((oct s).take j) < 72057594037927936 := Nat.lt_of_lt_of_le (KeepP.count_lt _) (Nat.le_trans (Nat.pow_le_pow_right (by decide) (show ((oct s).take j).length ≤ 7 by rw [List.length_take]; omega)) (by decide))
      have hb : s[j].toNat < 256 := UInt8.toNat_lt _
      obtain ⟨c, hc⟩ : ∃ c, c = countB ((oct s).take j) := ⟨_, rfl⟩
      rw [← hc] at hsn hlc ⊢
      have HS := hide hsn
      clear hsn hc
      have hor : bits .or .u64 ((c : Int) * 256) (s[j].toNat : Int) = ((c * 256 + s[j].toNat : Nat) : Int) := by
        have h2 : s[j].toNat < 256 := UInt8.toNat_lt _
        rw [show (c : Int) * 256 = ((c * 256 : Nat) : Int) by omega, u64_or_nat _ _ (by omega) (by omega), or_two _ _ h2]
        omega
      have HOR := hide hor
      clear hor
      go_wp2_with fail
      go_round
      case rel => exact ⟨j + 1, by omega, by go_num, by rw [HS.out, HOR.out]⟩
      case measure => simp [intOf]; omega
    · have hjs : j = s.size := by omega
      subst hjs
      have e : countB ((oct s).take s.size) = countB (oct s) := by rw [List.take_of_length_le (by rw [oct_length]; omega)]
      rw [e]
      have hc := hide (KeepP.count_lt (oct s))
      clear e hlt
      go_wp2_with fail
      go_ret
      exact ⟨rfl, rfl⟩

/-- octets one behind the other -/
theorem mkB_app (a b : Bytes) : mkB a ++ mkB b = mkB (a ++ b) := mkB_append a b

set_option maxRecDepth 100000 in
set_option maxHeartbeats 1600000 in
theorem sector_any (h : Head) (w : World) (h1 : h.gen ≤ 9223372036854775807) (h2 : h.half ≤ 9223372036854775807) (h3 : h.seq ≤ 9223372036854775807) (h4 : h.pages ≤ 9223372036854775807) :
    Calls Tryz.prog 62 #[hdv h] w fun q w' => q = .returned (.string (mkB (KeepP.sectorB h))) ∧ Below w.heap.size w w' := by
  have n1 : ∀ w1, Calls Tryz.prog 97 #[.int .i64 (h.gen : Nat), .int .i64 8] w1 fun q w' => q = .returned (.string (mkB (numB h.gen 8))) ∧ Below w1.heap.size w1 w' := fun w1 => number_any h.gen 8 w1 h1 (by decide)
  have n2 : ∀ w1, Calls Tryz.prog 97 #[.int .i64 (h.half : Nat), .int .i64 1] w1 fun q w' => q = .returned (.string (mkB (numB h.half 1))) ∧ Below w1.heap.size w1 w' := fun w1 => number_any h.half 1 w1 h2 (by decide)
  have n3 : ∀ w1, Calls Tryz.prog 97 #[.int .i64 (h.seq : Nat), .int .i64 8] w1 fun q w' => q = .returned (.string (mkB (numB h.seq 8))) ∧ Below w1.heap.size w1 w' := fun w1 => number_any h.seq 8 w1 h3 (by decide)
  have n4 : ∀ w1, Calls Tryz.prog 97 #[.int .i64 (h.pages : Nat), .int .i64 2] w1 fun q w' => q = .returned (.string (mkB (numB h.pages 2))) ∧ Below w1.heap.size w1 w' := fun w1 => number_any h.pages 2 w1 h4 (by decide)
  obtain ⟨a, ha⟩ : ∃ a, a = mkB (numB h.gen 8) := ⟨_, rfl⟩
  obtain ⟨b, hb⟩ : ∃ b, b = mkB (numB h.half 1) := ⟨_, rfl⟩
  obtain ⟨c, hc⟩ : ∃ c, c = mkB (numB h.seq 8) := ⟨_, rfl⟩
  obtain ⟨d, hd⟩ : ∃ d, d = mkB (numB h.pages 2) := ⟨_, rfl⟩
  obtain ⟨z, hz⟩ : ∃ z, z = mkB (DiskP.noughts 108) := ⟨_, rfl⟩
  have sa : a.size = 8 := by rw [ha, mkB_size, KeepP.numB_len]
  have sb : b.size = 1 := by rw [hb, mkB_size, KeepP.numB_len]
  have sc : c.size = 8 := by rw [hc, mkB_size, KeepP.numB_len]
  have sd : d.size = 2 := by rw [hd, mkB_size, KeepP.numB_len]
  have sz : z.size = 108 := by rw [hz, mkB_size]; simp [DiskP.noughts]
  obtain ⟨R, hR⟩ : ∃ R, R = mkB (KeepP.sectorB h) := ⟨_, rfl⟩
  have e : a ++ b ++ c ++ d ++ z ++ ⟨#[1]⟩ = R := by
    rw [ha, hb, hc, hd, hz, hR, show (⟨#[1]⟩ : ByteArray) = mkB [1] from rfl, mkB_app, mkB_app, mkB_app, mkB_app, mkB_app, KeepP.sectorB]
  rw [← ha] at n1
  rw [← hb] at n2
  rw [← hc] at n3
  rw [← hd] at n4
  rw [← hR]
  have hnz := fun w1 => noughts_any 108 w1 (by omega) (by omega)
  rw [show (108 : Int).toNat = 108 from rfl, ← hz] at hnz
  obtain ⟨g, hf, q, p⟩ := h
  unfold hdv
  simp only at n1 n2 n3 n4 ⊢
  have N1 := hide n1
  have N2 := hide n2
  have N3 := hide n3
  have N4 := hide n4
  have NZ := hide hnz
  have HE := hide e
  have kB := Box.new w 77 #[.int .i64 (g : Nat), .int .i64 (hf : Nat), .int .i64 (q : Nat), .int .i64 (p : Nat)]
  have hb1 : Below w.heap.size w (w.alloc (.cells #[.int .i64 (g : Nat), .int .i64 (hf : Nat), .int .i64 (q : Nat), .int .i64 (p : Nat)] 77)) := (Below.refl _ _).alloc (Nat.le_refl _) _
  obtain ⟨w1, hw1⟩ : ∃ x, x = w.alloc (.cells #[.int .i64 (g : Nat), .int .i64 (hf : Nat), .int .i64 (q : Nat), .int .i64 (p : Nat)] 77) := ⟨_, rfl⟩
  rw [← hw1] at hb1 kB
  have HW := hide hw1
  clear n1 n2 n3 n4 hnz e ha hb hc hd hz hR hw1 h1 h2 h3 h4
  have b1 : ¬ 9223372036854775807 < a.size + b.size := by omega
  have b2 : ¬ 9223372036854775807 < a.size + b.size + c.size := by omega
  have b3 : ¬ 9223372036854775807 < a.size + b.size + c.size + d.size := by omega
  go_enter Tryz.func62, Tryz.ntmps62
  go_wp2_with fail
  have hw1 := HW.out
  clear HW
  subst hw1
  have S0 : (w.alloc (.cells #[.int .i64 (g : Nat), .int .i64 (hf : Nat), .int .i64 (q : Nat), .int .i64 (p : Nat)] 77)).cell? ⟨w.heap.size, 0, none⟩ = some (.int .i64 (g : Nat)) ∧ (w.alloc (.cells #[.int .i64 (g : Nat), .int .i64 (hf : Nat), .int .i64 (q : Nat), .int .i64 (p : Nat)] 77)).cell? ⟨w.heap.size, 1, none⟩ = some (.int .i64 (hf : Nat)) ∧
      (w.alloc (.cells #[.int .i64 (g : Nat), .int .i64 (hf : Nat), .int .i64 (q : Nat), .int .i64 (p : Nat)] 77)).cell? ⟨w.heap.size, 2, none⟩ = some (.int .i64 (q : Nat)) ∧ (w.alloc (.cells #[.int .i64 (g : Nat), .int .i64 (hf : Nat), .int .i64 (q : Nat), .int .i64 (p : Nat)] 77)).cell? ⟨w.heap.size, 3, none⟩ = some (.int .i64 (p : Nat)) := kB.cell4
  go_region_held3 (fun w' => w'.cell? ⟨w.heap.size, 0, none⟩ = some (.int .i64 (g : Nat)) ∧ w'.cell? ⟨w.heap.size, 1, none⟩ = some (.int .i64 (hf : Nat)) ∧ w'.cell? ⟨w.heap.size, 2, none⟩ = some (.int .i64 (q : Nat)) ∧ w'.cell? ⟨w.heap.size, 3, none⟩ = some (.int .i64 (p : Nat)))
    (first | exact S0 | exact (kB.drew.belowS hba).cell4 | exact ((kB.drew.belowS hba).belowS hbb).cell4 | exact (((kB.drew.belowS hba).belowS hbb).belowS hbc).cell4 | exact ((((kB.drew.belowS hba).belowS hbb).belowS hbc).belowS hbd).cell4)
    (first
      | ((with_reducible refine (N1.out _).mono ?_); rintro r wa ⟨rfl, hba⟩)
      | ((with_reducible refine (N2.out _).mono ?_); rintro r wb ⟨rfl, hbb⟩)
      | ((with_reducible refine (N3.out _).mono ?_); rintro r wc ⟨rfl, hbc⟩)
      | ((with_reducible refine (N4.out _).mono ?_); rintro r wd ⟨rfl, hbd⟩))
  have he := HE.out
  have hz1 : (a ++ b ++ c ++ d).size = 19 := by simp only [ByteArray.size_append]; omega
  have hbw := ((((hb1.drew).trans (hba.mono hb1.size)).trans (hbb.mono (Nat.le_trans hb1.size hba.size))).trans (hbc.mono (Nat.le_trans hb1.size (Nat.le_trans hba.size hbb.size)))).trans (hbd.mono (Nat.le_trans hb1.size (Nat.le_trans hba.size (Nat.le_trans hbb.size hbc.size))))
  obtain ⟨S1, hS1⟩ : ∃ S1, S1 = a ++ b ++ c ++ d := ⟨_, rfl⟩
  rw [← hS1] at he hz1 ⊢
  have HE2 := hide he
  have b4 : ¬ 9223372036854775807 < S1.size + z.size := by omega
  have b5 : ¬ 9223372036854775807 < S1.size + z.size + 1 := by omega
  clear HE he hS1 S0 kB hb1 hba hbb hbc hbd b1 b2 b3 N1 N2 N3 N4 sa sb sc sd
  go_wp2_with fail
  refine (NZ.out _).mono ?_
  rintro r we ⟨rfl, hbe⟩
  have hbw2 := hbw.trans (hbe.mono hbw.size)
  go_wp2_with fail
  go_ret
  exact ⟨ret_str HE2.out, hbw2⟩
end Go.Proofs.YtojincohnjophaaGreatDoor

/-! The walks of layer 21's heads: read, begin. -/
namespace Go.Proofs.YtojincohnjophaaGreatDoor
open Go.RowKit
open DiskP (Bytes Disk Wr Fate)
open KeepP (Cut Head okC okH numB countB readH zeroH)
set_option linter.unusedVariables false

/-- a head that was read, as a value -/
def rdv : Option Head → Value
  | some h => .tuple #[hdv h, .bool true]
  | none => .tuple #[hdv zeroH, .bool false]
abbrev rawH (s : Bytes) : Head := ⟨countB (s.take 8), (s.getD 8 0).toNat, countB ((s.drop 9).take 8), countB ((s.drop 17).take 2)⟩
theorem readH_raw (s : Bytes) (p : Nat) : readH s p = if 1 ≤ (rawH s).gen ∧ (rawH s).gen ≤ LogP.maxSeq ∧ 1 ≤ (rawH s).seq ∧ (rawH s).seq ≤ LogP.maxSeq ∧ (rawH s).half ≤ 1 ∧ (rawH s).gen % 2 = p ∧ KeepP.sectorB (rawH s) = s then some (rawH s) else none := rfl

theorem count_same (s : ByteArray) (w : World) (hs : s.size ≤ 8) : Calls Tryz.prog 100 #[.string s] w fun q w' => q = .returned (.int .u64 (countB (oct s) : Nat)) ∧ w' = w :=
  (count_any s w hs).mono fun _ _ h => ⟨h.1, h.2.symm⟩

set_option maxRecDepth 100000 in
set_option maxHeartbeats 3200000 in
theorem readh_any (s : ByteArray) (p : Nat) (w : World) (hs : s.size = 128) (hp : p ≤ 1) :
    Calls Tryz.prog 69 #[.string s, .int .i64 p] w fun q w' => q = .returned (rdv (readH (oct s) p)) ∧ Below w.heap.size w w' := by
  have kA := Box.new w 77 #[.int .i64 0, .int .i64 0, .int .i64 0, .int .i64 0]
  have hbA : Below w.heap.size w (w.alloc (.cells #[.int .i64 0, .int .i64 0, .int .i64 0, .int .i64 0] 77)) := (Below.refl _ _).alloc (Nat.le_refl _) _
  have o1 : oct (s.extract 0 8) = (oct s).take 8 := by rw [oct_extract]; simp
  have o2 : oct (s.extract 9 17) = ((oct s).drop 9).take 8 := by rw [oct_extract]
  have o3 : oct (s.extract 17 19) = ((oct s).drop 17).take 2 := by rw [oct_extract]
  have c1 := fun w1 => count_same (s.extract 0 8) w1 (by rw [← oct_length, o1, List.length_take]; omega)
  have c2 := fun w1 => count_same (s.extract 9 17) w1 (by rw [← oct_length, o2, List.length_take]; omega)
  have c3 := fun w1 => count_same (s.extract 17 19) w1 (by rw [← oct_length, o3, List.length_take]; omega)
  rw [o1] at c1
  rw [o2] at c2
  rw [o3] at c3
  have l1 := KeepP.count_lt ((oct s).take 8)
  have l2 := KeepP.count_lt (((oct s).drop 9).take 8)
  have l3 := KeepP.count_lt (((oct s).drop 17).take 2)
  have hb8 : s[8].toNat < 256 := UInt8.toNat_lt _
  have ol := oct_length s
  rw [show ((oct s).take 8).length = 8 by rw [List.length_take]; omega] at l1
  rw [show (((oct s).drop 9).take 8).length = 8 by rw [List.length_take, List.length_drop]; omega] at l2
  rw [show (((oct s).drop 17).take 2).length = 2 by rw [List.length_take, List.length_drop]; omega] at l3
  have hr : rawH (oct s) = ⟨countB ((oct s).take 8), s[8].toNat, countB (((oct s).drop 9).take 8), countB (((oct s).drop 17).take 2)⟩ := by
    unfold rawH
    congr 2
    rw [List.getD_eq_getElem?_getD, List.getElem?_eq_getElem (by omega)]
    rfl
  obtain ⟨R, hR⟩ : ∃ R, R = readH (oct s) p := ⟨_, rfl⟩
  rw [← hR]
  rw [readH_raw, hr] at hR
  obtain ⟨g, hg⟩ : ∃ g, g = countB ((oct s).take 8) := ⟨_, rfl⟩
  obtain ⟨q, hq⟩ : ∃ q, q = countB (((oct s).drop 9).take 8) := ⟨_, rfl⟩
  obtain ⟨pg, hpg⟩ : ∃ pg, pg = countB (((oct s).drop 17).take 2) := ⟨_, rfl⟩
  rw [← hg] at l1 c1 hR
  rw [← hq] at l2 c2 hR
  rw [← hpg] at l3 c3 hR
  obtain ⟨hv, hhv⟩ : ∃ hv, hv = s[8].toNat := ⟨_, rfl⟩
  rw [← hhv] at hb8 hR
  have hidx : (s[8].toNat : Int) = (hv : Int) := by rw [hhv]
  simp only at hR
  have HC1 := hide c1
  have HC2 := hide c2
  have HC3 := hide c3
  have HR := hide hR
  have HBA := hide hbA
  have HI := hide hidx
  have HS := hide hs
  have b1 : (19 : Int) ≤ (s.size : Int) := by omega
  have b2 : (8 : Int) < (s.size : Int) := by omega
  clear o1 o2 o3 c1 c2 c3 hr hg hq hpg hR hhv hbA ol
  go_enter Tryz.func69, Tryz.ntmps69
  go_wp2_with fail
  go_quiet (first
      | ((go_at_call 100; with_reducible exact Calls.quiet_of_same (HC1.out _)))
      | ((go_at_call 100; with_reducible exact Calls.quiet_of_same (HC2.out _)))
      | ((go_at_call 100; with_reducible exact Calls.quiet_of_same (HC3.out _))))
  have hbq := below_drewN HBA.out nq
  have kAq : Box _ _ _ _ := kA.at (w' := (w.alloc (.cells #[.int .i64 0, .int .i64 0, .int .i64 0, .int .i64 0] 77)).drewN nq) rfl
  clear HC1 HC2 HC3 kA HBA
  obtain ⟨wq, hwq⟩ : ∃ x, x = (w.alloc (.cells #[.int .i64 0, .int .i64 0, .int .i64 0, .int .i64 0] 77)).drewN nq := ⟨_, rfl⟩
  rw [← hwq] at hbq kAq ⊢
  clear hwq
  obtain ⟨p0, p1, p2, p3⟩ := kAq.cell4
  have f0 := kAq.frozen 0
  have f1 := kAq.frozen 1
  have f2 := kAq.frozen 2
  have f3 := kAq.frozen 3
  by_cases hbad : g = 0 ∨ 4611686018427387903 < g ∨ q = 0 ∨ 4611686018427387903 < q ∨ 1 < hv
  · have hnone : R = none := by
      rw [HR.out, if_neg]
      intro h
      unfold LogP.maxSeq at h
      omega
    subst hnone
    have kA2 := kAq.set4 (u0 := .int .i64 0) (u1 := .int .i64 0) (u2 := .int .i64 0) (u3 := .int .i64 0)
    have hbF := below_set4 (u0 := .int .i64 0) (u1 := .int .i64 0) (u2 := .int .i64 0) (u3 := .int .i64 0) hbq (Nat.le_refl _)
    obtain ⟨s0, s1, s2, s3⟩ := kA2.cell4
    have HBF := hide hbF
    clear HR hbq kAq kA2 hbF HI HS hidx hs b1 b2
    rcases Nat.eq_zero_or_pos g with hg0 | hg0
    · subst hg0
      clear hbad
      go_wp2_with fail
      exact bodyPost_ret (v := .tuple #[.agg #[.int .i64 0, .int .i64 0, .int .i64 0, .int .i64 0], .bool false]) (by simp [results, Tryz.results69, go_sem, s0, s1, s2, s3]) rfl ⟨rfl, HBF.out⟩
    have xg1 : decide (g = 0) = false := by simp; omega
    have xg1' : ¬ (g : Int) < 1 := by omega
    by_cases hg2 : 4611686018427387903 < g
    · have xg2 : decide ((4611686018427387903 : Int) < (g : Int)) = true := by simp; omega
      have xg2' : (4611686018427387903 : Int) < (g : Int) := by omega
      clear hbad
      go_wp2_with fail
      exact bodyPost_ret (v := .tuple #[.agg #[.int .i64 0, .int .i64 0, .int .i64 0, .int .i64 0], .bool false]) (by simp [results, Tryz.results69, go_sem, s0, s1, s2, s3]) rfl ⟨rfl, HBF.out⟩
    have xg2 : decide ((4611686018427387903 : Int) < (g : Int)) = false := by simp; omega
    have xg2' : ¬ (4611686018427387903 : Int) < (g : Int) := by omega
    rcases Nat.eq_zero_or_pos q with hq0 | hq0
    · subst hq0
      clear hbad
      go_wp2_with fail
      exact bodyPost_ret (v := .tuple #[.agg #[.int .i64 0, .int .i64 0, .int .i64 0, .int .i64 0], .bool false]) (by simp [results, Tryz.results69, go_sem, s0, s1, s2, s3]) rfl ⟨rfl, HBF.out⟩
    have xq1 : decide (q = 0) = false := by simp; omega
    have xq1' : ¬ (q : Int) < 1 := by omega
    by_cases hq2 : 4611686018427387903 < q
    · have xq2 : decide ((4611686018427387903 : Int) < (q : Int)) = true := by simp; omega
      have xq2' : (4611686018427387903 : Int) < (q : Int) := by omega
      clear hbad
      go_wp2_with fail
      exact bodyPost_ret (v := .tuple #[.agg #[.int .i64 0, .int .i64 0, .int .i64 0, .int .i64 0], .bool false]) (by simp [results, Tryz.results69, go_sem, s0, s1, s2, s3]) rfl ⟨rfl, HBF.out⟩
    have xq2 : decide ((4611686018427387903 : Int) < (q : Int)) = false := by simp; omega
    have xq2' : ¬ (4611686018427387903 : Int) < (q : Int) := by omega
    have xh : decide ((1 : Int) < (hv : Int)) = true := by simp; omega
    have xh' : (1 : Int) < (hv : Int) := by omega
    clear hbad
    go_wp2_with fail
    exact bodyPost_ret (v := .tuple #[.agg #[.int .i64 0, .int .i64 0, .int .i64 0, .int .i64 0], .bool false]) (by simp [results, Tryz.results69, go_sem, s0, s1, s2, s3]) rfl ⟨rfl, HBF.out⟩
  · have hg : 1 ≤ g ∧ g ≤ 4611686018427387903 ∧ 1 ≤ q ∧ q ≤ 4611686018427387903 ∧ hv ≤ 1 := by omega
    have xg1 : decide (g = 0) = false := by simp; omega
    have xg1' : ¬ (g : Int) < 1 := by omega
    have xg2 : decide ((4611686018427387903 : Int) < (g : Int)) = false := by simp; omega
    have xg2' : ¬ (4611686018427387903 : Int) < (g : Int) := by omega
    have xq1 : decide (q = 0) = false := by simp; omega
    have xq1' : ¬ (q : Int) < 1 := by omega
    have xq2 : decide ((4611686018427387903 : Int) < (q : Int)) = false := by simp; omega
    have xq2' : ¬ (4611686018427387903 : Int) < (q : Int) := by omega
    have xh : decide ((1 : Int) < (hv : Int)) = false := by simp; omega
    have xh' : ¬ (1 : Int) < (hv : Int) := by omega
    have hsec := fun w1 => sector_any ⟨g, hv, q, pg⟩ w1 (by show g ≤ 9223372036854775807; omega) (by show hv ≤ 9223372036854775807; omega) (by show q ≤ 9223372036854775807; omega) (by show pg ≤ 9223372036854775807; omega)
    obtain ⟨ss, hss⟩ : ∃ ss, ss = mkB (KeepP.sectorB ⟨g, hv, q, pg⟩) := ⟨_, rfl⟩
    rw [← hss] at hsec
    have HSEC := hide hsec
    have HSS := hide hss
    obtain ⟨g2, hg2⟩ : ∃ g2, g2 = g % 2 := ⟨_, rfl⟩
    have t1 : (g : Int).tmod 2 = (g2 : Int) := by rw [Int.tmod_eq_emod_of_nonneg (by omega), hg2]; rfl
    have HG := hide hg
    have HG2 := hide hg2
    have hpg : (pg : Int) ≤ 65535 := by omega
    have hg8 : (g : Int) ≤ 4611686018427387903 := by omega
    have hq8 : (q : Int) ≤ 4611686018427387903 := by omega
    have hg82 : g2 ≤ 1 := by omega
    clear hbad hsec hss hg hg2 HI HS hidx hs b1 b2
    have k10 := Box.new wq 77 #[.int .i64 (g : Nat), .int .i64 (hv : Nat), .int .i64 (q : Nat), .int .i64 (pg : Nat)]
    have kA3 := kAq.up (.cells #[.int .i64 (g : Nat), .int .i64 (hv : Nat), .int .i64 (q : Nat), .int .i64 (pg : Nat)] 77)
    have hlA := kAq.lt
    have hbq3 := hbq.alloc hbq.size (.cells #[.int .i64 (g : Nat), .int .i64 (hv : Nat), .int .i64 (q : Nat), .int .i64 (pg : Nat)] 77)
    obtain ⟨w3, hw3⟩ : ∃ x, x = wq.alloc (.cells #[.int .i64 (g : Nat), .int .i64 (hv : Nat), .int .i64 (q : Nat), .int .i64 (pg : Nat)] 77) := ⟨_, rfl⟩
    rw [← hw3] at k10 kA3 hbq3
    have HW3 := hide hw3
    obtain ⟨bq, hbq⟩ : ∃ bq, bq = wq.heap.size := ⟨_, rfl⟩
    have HBQ := hide hbq
    clear hw3 hbq
    rw [← HBQ.out] at k10 hlA
    go_upto_region 5 with (fail)
    rw [← HW3.out, ← HBQ.out]
    clear HW3 HBQ p0 p1 p2 p3 f0 f1 f2 f3
    by_cases hgp : g2 = p
    · have x1 : ((g2 : Int) != (p : Int)) = false := by rw [bne_eq_false_iff_eq]; omega
      obtain ⟨q0, q1, q2, q3⟩ := k10.cell4
      go_wp2_with fail
      refine (HSEC.out _).mono ?_
      rintro r w4 ⟨rfl, hb4⟩
      have k14 := k10.belowS hb4
      have kA4 := kA3.belowS hb4
      have hbq4 := hbq3.trans (hb4.mono hbq3.size)
      clear q0 q1 q2 q3 HSEC k10 kA3 hbq3 hb4
      obtain ⟨q0, q1, q2, q3⟩ := k14.cell4
      obtain ⟨p0, p1, p2, p3⟩ := kA4.cell4
      have f0 := kA4.frozen 0
      have f1 := kA4.frozen 1
      have f2 := kA4.frozen 2
      have f3 := kA4.frozen 3
      by_cases hse : ss = s
      · have hsome : R = some ⟨g, hv, q, pg⟩ := by
          have := HG.out
          rw [HR.out, if_pos]
          refine ⟨this.1, by unfold LogP.maxSeq; omega, this.2.2.1, by unfold LogP.maxSeq; omega, this.2.2.2.2, by rw [← HG2.out]; exact hgp, ?_⟩
          rw [← hse, HSS.out, oct_mkB]
        subst hsome
        have kA5 := kA4.set4 (u0 := .int .i64 (g : Nat)) (u1 := .int .i64 (hv : Nat)) (u2 := .int .i64 (q : Nat)) (u3 := .int .i64 (pg : Nat))
        have hbF := below_set4 (u0 := .int .i64 (g : Nat)) (u1 := .int .i64 (hv : Nat)) (u2 := .int .i64 (q : Nat)) (u3 := .int .i64 (pg : Nat)) hbq4 (Nat.le_refl _)
        obtain ⟨s0, s1, s2, s3⟩ := kA5.cell4
        have HBF := hide hbF
        clear HR HSS kA4 kA5 hbF hbq4 hgp k14
        subst hse
        have x5 : (ss.toList != ss.toList) = false := by simp
        go_wp2_with fail
        exact bodyPost_ret (v := .tuple #[.agg #[.int .i64 (g : Nat), .int .i64 (hv : Nat), .int .i64 (q : Nat), .int .i64 (pg : Nat)], .bool true]) (by simp [results, Tryz.results69, go_sem, s0, s1, s2, s3]) rfl ⟨rfl, HBF.out⟩
      · have hnone : R = none := by
          rw [HR.out, if_neg]
          intro h
          have := h.2.2.2.2.2.2
          exact hse (by rw [HSS.out, this, mkB_oct])
        subst hnone
        have x5 : (ss.toList != s.toList) = true := by
          rw [bne, toList_cmp]
          simp only [Bool.not_eq_true', decide_eq_false_iff_not]
          exact fun h => hse (oct_inj h)
        have x6 : (ss.toList == s.toList) = false := by
          rw [toList_cmp]
          simp only [decide_eq_false_iff_not]
          exact fun h => hse (oct_inj h)
        have x7 : decide (ss = s) = false := by simpa using hse
        have kA5 := kA4.set4 (u0 := .int .i64 0) (u1 := .int .i64 0) (u2 := .int .i64 0) (u3 := .int .i64 0)
        have hbF := below_set4 (u0 := .int .i64 0) (u1 := .int .i64 0) (u2 := .int .i64 0) (u3 := .int .i64 0) hbq4 (Nat.le_refl _)
        obtain ⟨s0, s1, s2, s3⟩ := kA5.cell4
        have HBF := hide hbF
        clear HR HSS kA4 kA5 hbF hbq4 hgp k14 hse
        go_wp2_with fail
        exact bodyPost_ret (v := .tuple #[.agg #[.int .i64 0, .int .i64 0, .int .i64 0, .int .i64 0], .bool false]) (by simp [results, Tryz.results69, go_sem, s0, s1, s2, s3]) rfl ⟨rfl, HBF.out⟩
    · have hnone : R = none := by
        rw [HR.out, if_neg]
        intro h
        have := HG2.out
        exact hgp (this.trans h.2.2.2.2.2.1)
      subst hnone
      have x1 : ((g2 : Int) != (p : Int)) = true := by rw [bne_iff_ne]; omega
      have x2 : decide ((g2 : Int) = (p : Int)) = false := by simp; omega
      have x3 : decide (g2 = p) = false := by simpa using hgp
      obtain ⟨p0, p1, p2, p3⟩ := kA3.cell4
      have f0 := kA3.frozen 0
      have f1 := kA3.frozen 1
      have f2 := kA3.frozen 2
      have f3 := kA3.frozen 3
      have kA4 := kA3.set4 (u0 := .int .i64 0) (u1 := .int .i64 0) (u2 := .int .i64 0) (u3 := .int .i64 0)
      have hbF := below_set4 (u0 := .int .i64 0) (u1 := .int .i64 0) (u2 := .int .i64 0) (u3 := .int .i64 0) hbq3 (Nat.le_refl _)
      obtain ⟨s0, s1, s2, s3⟩ := kA4.cell4
      have HBF := hide hbF
      obtain ⟨q0, q1, q2, q3⟩ := k10.cell4
      clear HR kA3 kA4 hbF hbq3 hgp k10
      go_wp2_with fail
      exact bodyPost_ret (v := .tuple #[.agg #[.int .i64 0, .int .i64 0, .int .i64 0, .int .i64 0], .bool false]) (by simp [results, Tryz.results69, go_sem, s0, s1, s2, s3]) rfl ⟨rfl, HBF.out⟩
end Go.Proofs.YtojincohnjophaaGreatDoor
