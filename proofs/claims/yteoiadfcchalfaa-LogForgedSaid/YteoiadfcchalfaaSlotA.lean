/- The walks of layer 19's first functions: used, Fits. -/
import Derived.Test.YteoiadfcchalfaaBase
import Derived.Test.YteoiadfcchalfaaSlotPure
namespace Go.Proofs.Yteoiadfcchalfaa
open Go.RowKit
set_option linter.unusedVariables false

def octs (ss : List ByteArray) : List (List UInt8) := ss.map oct
theorem octs_append (a b : List ByteArray) : octs (a ++ b) = octs a ++ octs b := by simp [octs]
theorem octs_length (a : List ByteArray) : (octs a).length = a.length := by simp [octs]
theorem octs_nil : octs [] = [] := rfl
theorem octs_cons (s : ByteArray) (l : List ByteArray) : octs (s :: l) = oct s :: octs l := rfl


theorem sumLen_take_succ (ss : List ByteArray) (k : Nat) (s : ByteArray) (h : ss[k]? = some s) :
    SlotP.sumLen (octs (ss.take (k + 1))) = SlotP.sumLen (octs (ss.take k)) + s.size := by
  have h1 : k < ss.length := (List.getElem?_eq_some_iff.1 h).1
  have h2 : ss[k] = s := (List.getElem?_eq_some_iff.1 h).2
  rw [List.take_succ_eq_append_getElem h1, octs_append, SlotP.sumLen_append, h2, octs_cons, octs_nil, SlotP.sumLen_cons, SlotP.sumLen_nil, oct_length]
  rfl

theorem sumLen_take_le (ss : List ByteArray) (k : Nat) : SlotP.sumLen (octs (ss.take k)) ≤ SlotP.sumLen (octs ss) := by
  have : octs ss = octs (ss.take k) ++ octs (ss.drop k) := by rw [← octs_append, List.take_append_drop]
  rw [this, SlotP.sumLen_append]; omega

set_option maxHeartbeats 400000 in
theorem used_any (A : Option Addr) (n c : Nat) (ss : List ByteArray) (V : Nat → Prop) (w : World) (h : Sl w V 1 A n (strs ss)) (hn : n ≤ 100000) (hs : SlotP.sumLen (octs ss) ≤ 1000000000) :
    Calls Try.prog 67 #[.slice A n c] w fun e w' => e = .returned (.int .i64 (SlotP.used (octs ss) : Nat)) ∧ w = w' := by
  have hlen : ss.length = n := h.len
  have HL := hide hlen
  clear hlen
  go_enter Try.func67, Try.ntmps67
  go_wp2
  go_loop [3, 12] (fun v i => ∃ k : Nat, k ≤ n ∧ i = .int .i64 k ∧ v = .int .i64 ((2 + 2 * n + SlotP.sumLen (octs (ss.take k)) : Nat) : Int)) (fun _ i => n - (intOf i).toNat)
  case atStart => exact ⟨0, Nat.zero_le _, rfl, by simp [octs_nil, SlotP.sumLen_nil]⟩
  case round =>
    obtain ⟨k, hk, rfl, rfl⟩ := hrel
    by_cases hlt : k < n
    · obtain ⟨a, s, hA, hsk, hc⟩ := h.str hlt
      subst hA
      have h1 := sumLen_take_succ ss k s hsk
      have h2 := sumLen_take_le ss (k + 1)
      have hsz : (SlotP.sumLen (octs (ss.take k)) : Int) + s.size ≤ 1000000000 := by omega
      have H1 := hide h1
      clear h1 h2 hsk h
      go_wp2
      go_round
      case rel => exact ⟨k + 1, by omega, by go_num, by rw [H1.out]; go_num⟩
      case measure => simp [intOf]; omega
    · have hkn : k = n := by omega
      subst hkn
      go_wp2
      go_ret
      refine ⟨ret_int ?_, rfl⟩
      have e : ss.take k = ss := List.take_of_length_le (by have := HL.out; omega)
      have := HL.out
      rw [e]
      simp only [SlotP.used, octs_length]
      omega

def AllLe (ss : List ByteArray) (k : Nat) : Prop := ∀ s ∈ ss.take k, s.size ≤ 1000
theorem allLe_zero (ss : List ByteArray) : AllLe ss 0 := by intro s hs; simp at hs
theorem allLe_succ {ss : List ByteArray} {k : Nat} {s : ByteArray} (h : AllLe ss k) (hs : ss[k]? = some s) (hl : (s.size : Int) ≤ 1000) : AllLe ss (k + 1) := by
  have h1 : k < ss.length := (List.getElem?_eq_some_iff.1 hs).1
  have h2 : ss[k] = s := (List.getElem?_eq_some_iff.1 hs).2
  intro x hx
  rw [List.take_succ_eq_append_getElem h1, h2] at hx
  rcases List.mem_append.1 hx with hx | hx
  · exact h x hx
  · simp at hx; subst hx; omega
theorem mem_octs {ss : List ByteArray} {c : List UInt8} : c ∈ octs ss ↔ ∃ s ∈ ss, oct s = c := by simp [octs]
theorem fits_far (ss : List ByteArray) (h : 40 < ss.length) : SlotP.fits (octs ss) = false := by
  rw [Bool.eq_false_iff]; intro hf
  have := ((SlotP.fits_iff _).1 hf).1
  rw [octs_length] at this; omega
theorem fits_long (ss : List ByteArray) (k : Nat) (s : ByteArray) (hs : ss[k]? = some s) (h : 1000 < (s.size : Int)) : SlotP.fits (octs ss) = false := by
  rw [Bool.eq_false_iff]; intro hf
  have := ((SlotP.fits_iff _).1 hf).2.1 (oct s) (mem_octs.2 ⟨s, List.mem_of_getElem? hs, rfl⟩)
  rw [oct_length] at this; omega
theorem sumLen_le (ss : List ByteArray) (b : Nat) (h : ∀ s ∈ ss, s.size ≤ b) : SlotP.sumLen (octs ss) ≤ b * ss.length := by
  induction ss with
  | nil => simp [octs_nil, SlotP.sumLen_nil]
  | cons s ss ih =>
    have := ih (fun x hx => h x (by simp [hx]))
    have h2 := h s (by simp)
    rw [octs_cons, SlotP.sumLen_cons, oct_length, List.length_cons, Nat.mul_add]
    omega
theorem fits_used (ss : List ByteArray) (h40 : ss.length ≤ 40) (h : AllLe ss ss.length) : SlotP.fits (octs ss) = decide (((SlotP.used (octs ss) : Nat) : Int) ≤ 1024) := by
  rw [Bool.eq_iff_iff, SlotP.fits_iff, octs_length]
  simp only [decide_eq_true_eq]
  constructor
  · rintro ⟨_, _, c⟩; omega
  · intro c
    refine ⟨h40, ?_, by omega⟩
    intro c hc
    obtain ⟨s, hs, rfl⟩ := mem_octs.1 hc
    rw [oct_length]
    exact h s (by rw [List.take_length]; exact hs)

set_option maxHeartbeats 400000 in
theorem fits_any (A : Option Addr) (n c : Nat) (ss : List ByteArray) (V : Nat → Prop) (w : World) (h : Sl w V 1 A n (strs ss)) (hn : n ≤ 9223372036854775807) :
    Calls Try.prog 25 #[.slice A n c] w fun e w' => e = .returned (.bool (SlotP.fits (octs ss))) ∧ w = w' := by
  have hlen : ss.length = n := h.len
  by_cases h40 : 40 < n
  · have hf := fits_far ss (by omega)
    have HF := hide hf
    clear hf hlen
    go_enter Try.func25, Try.ntmps25
    go_wp2
    go_ret
    exact ⟨by rw [HF.out]; rfl, rfl⟩
  have HL := hide hlen
  clear hlen
  go_enter Try.func25, Try.ntmps25
  go_wp2
  go_loop [10] (fun i => ∃ k : Nat, k ≤ n ∧ i = .int .i64 k ∧ AllLe ss k) (fun i => n - (intOf i).toNat)
  case atStart => exact ⟨0, Nat.zero_le _, rfl, allLe_zero ss⟩
  case round =>
    obtain ⟨k, hk, rfl, hall⟩ := hrel
    by_cases hlt : k < n
    · obtain ⟨a, s, hA, hsk, hc⟩ := h.str hlt
      subst hA
      have HS := hide hsk
      clear hsk h
      by_cases hl : 1000 < (s.size : Int)
      · go_wp2
        go_ret
        exact ⟨by rw [fits_long ss k s HS.out hl]; rfl, rfl⟩
      · go_wp2
        go_round
        case rel => exact ⟨k + 1, by omega, by go_num, allLe_succ hall HS.out (by omega)⟩
        case measure => simp [intOf]; omega
    · have hkn : k = n := by omega
      subst hkn
      have hsum : SlotP.sumLen (octs ss) ≤ 1000 * ss.length := sumLen_le ss 1000 (fun s hs => hall s (by rw [List.take_of_length_le (by have := HL.out; omega)]; exact hs))
      rw [HL.out] at hsum
      go_wp2_with (go_at_call 67; refine (used_any A k c ss V _ h (by omega) (by omega)).mono ?_; rintro e w' ⟨rfl, rfl⟩)
      go_ret
      have hlen := HL.out
      refine ⟨ret_bool ?_, rfl⟩
      rw [fits_used ss (by omega) (by rw [hlen]; exact hall)]

end Go.Proofs.Yteoiadfcchalfaa
