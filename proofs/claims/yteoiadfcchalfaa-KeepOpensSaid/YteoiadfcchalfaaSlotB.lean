/- The walks of layer 19: Free; the reference's Fits; Same. (merged: SlotA SlotB) -/
import Derived.Test.YteoiadfcchalfaaBase
import Derived.Test.YteoiadfcchalfaaKeepLaw
/-! The walks of layer 19's first functions: used, Fits. -/
namespace Go.Proofs.Yteoiadfcchalfaa
open Go.RowKit
set_option linter.unusedVariables false

def octs (ss : List ByteArray) : List (List UInt8) := ss.map oct
theorem octs_append (a b : List ByteArray) : octs (a ++ b) = octs a ++ octs b := by simp [octs]
theorem octs_length (a : List ByteArray) : (octs a).length = a.length := by simp [octs]
theorem octs_nil : octs [] = [] := rfl
theorem octs_cons (s : ByteArray) (l : List ByteArray) : octs (s :: l) = oct s :: octs l := rfl


theorem sumLen_take_succ (ss : List ByteArray) (k : Nat) (s : ByteArray) (h : ss[k]? = some s) :
    SlotP.sumLen (octs (ss.take (k + 1))) = SlotP.sumLen (octs (ss.take k)) + s.size := by
  have h1 : k < ss.length := (List.getElem?_eq_some_iff.1 h).1
  have h2 : ss[k] = s := (List.getElem?_eq_some_iff.1 h).2
  rw [List.take_succ_eq_append_getElem h1, octs_append, SlotP.sumLen_append, h2, octs_cons, octs_nil, SlotP.sumLen_cons, SlotP.sumLen_nil, oct_length]
  rfl

theorem sumLen_take_le (ss : List ByteArray) (k : Nat) : SlotP.sumLen (octs (ss.take k)) ≤ SlotP.sumLen (octs ss) := by
  have : octs ss = octs (ss.take k) ++ octs (ss.drop k) := by rw [← octs_append, List.take_append_drop]
  rw [this, SlotP.sumLen_append]; omega

set_option maxHeartbeats 400000 in
theorem used_any (A : Option Addr) (n c : Nat) (ss : List ByteArray) (V : Nat → Prop) (w : World) (h : Sl w V 1 A n (strs ss)) (hn : n ≤ 100000) (hs : SlotP.sumLen (octs ss) ≤ 1000000000) :
    Calls Try.prog 67 #[.slice A n c] w fun e w' => e = .returned (.int .i64 (SlotP.used (octs ss) : Nat)) ∧ w = w' := by
  have hlen : ss.length = n := h.len
  have HL := hide hlen
  clear hlen
  go_enter Try.func67, Try.ntmps67
  go_wp2
  go_loop [3, 12] (fun v i => ∃ k : Nat, k ≤ n ∧ i = .int .i64 k ∧ v = .int .i64 ((2 + 2 * n + SlotP.sumLen (octs (ss.take k)) : Nat) : Int)) (fun _ i => n - (intOf i).toNat)
  case atStart => exact ⟨0, Nat.zero_le _, rfl, by simp [octs_nil, SlotP.sumLen_nil]⟩
  case round =>
    obtain ⟨k, hk, rfl, rfl⟩ := hrel
    by_cases hlt : k < n
    · obtain ⟨a, s, hA, hsk, hc⟩ := h.str hlt
      subst hA
      have h1 := sumLen_take_succ ss k s hsk
      have h2 := sumLen_take_le ss (k + 1)
      have hsz : (SlotP.sumLen (octs (ss.take k)) : Int) + s.size ≤ 1000000000 := by omega
      have H1 := hide h1
      clear h1 h2 hsk h
      go_wp2
      go_round
      case rel => exact ⟨k + 1, by omega, by go_num, by rw [H1.out]; go_num⟩
      case measure => simp [intOf]; omega
    · have hkn : k = n := by omega
      subst hkn
      go_wp2
      go_ret
      refine ⟨ret_int ?_, rfl⟩
      have e : ss.take k = ss := List.take_of_length_le (by have := HL.out; omega)
      have := HL.out
      rw [e]
      simp only [SlotP.used, octs_length]
      omega

def AllLe (ss : List ByteArray) (k : Nat) : Prop := ∀ s ∈ ss.take k, s.size ≤ 1000
theorem allLe_zero (ss : List ByteArray) : AllLe ss 0 := by intro s hs; simp at hs
theorem allLe_succ {ss : List ByteArray} {k : Nat} {s : ByteArray} (h : AllLe ss k) (hs : ss[k]? = some s) (hl : (s.size : Int) ≤ 1000) : AllLe ss (k + 1) := by
  have h1 : k < ss.length := (List.getElem?_eq_some_iff.1 hs).1
  have h2 : ss[k] = s := (List.getElem?_eq_some_iff.1 hs).2
  intro x hx
  rw [List.take_succ_eq_append_getElem h1, h2] at hx
  rcases List.mem_append.1 hx with hx | hx
  · exact h x hx
  · simp at hx; subst hx; omega
theorem mem_octs {ss : List ByteArray} {c : List UInt8} : c ∈ octs ss ↔ ∃ s ∈ ss, oct s = c := by simp [octs]
theorem fits_far (ss : List ByteArray) (h : 40 < ss.length) : SlotP.fits (octs ss) = false := by
  rw [Bool.eq_false_iff]; intro hf
  have := ((SlotP.fits_iff _).1 hf).1
  rw [octs_length] at this; omega
theorem fits_long (ss : List ByteArray) (k : Nat) (s : ByteArray) (hs : ss[k]? = some s) (h : 1000 < (s.size : Int)) : SlotP.fits (octs ss) = false := by
  rw [Bool.eq_false_iff]; intro hf
  have := ((SlotP.fits_iff _).1 hf).2.1 (oct s) (mem_octs.2 ⟨s, List.mem_of_getElem? hs, rfl⟩)
  rw [oct_length] at this; omega
theorem sumLen_le (ss : List ByteArray) (b : Nat) (h : ∀ s ∈ ss, s.size ≤ b) : SlotP.sumLen (octs ss) ≤ b * ss.length := by
  induction ss with
  | nil => simp [octs_nil, SlotP.sumLen_nil]
  | cons s ss ih =>
    have := ih (fun x hx => h x (by simp [hx]))
    have h2 := h s (by simp)
    rw [octs_cons, SlotP.sumLen_cons, oct_length, List.length_cons, Nat.mul_add]
    omega
theorem fits_used (ss : List ByteArray) (h40 : ss.length ≤ 40) (h : AllLe ss ss.length) : SlotP.fits (octs ss) = decide (((SlotP.used (octs ss) : Nat) : Int) ≤ 1024) := by
  rw [Bool.eq_iff_iff, SlotP.fits_iff, octs_length]
  simp only [decide_eq_true_eq]
  constructor
  · rintro ⟨_, _, c⟩; omega
  · intro c
    refine ⟨h40, ?_, by omega⟩
    intro c hc
    obtain ⟨s, hs, rfl⟩ := mem_octs.1 hc
    rw [oct_length]
    exact h s (by rw [List.take_length]; exact hs)

set_option maxHeartbeats 400000 in
theorem fits_any (A : Option Addr) (n c : Nat) (ss : List ByteArray) (V : Nat → Prop) (w : World) (h : Sl w V 1 A n (strs ss)) (hn : n ≤ 9223372036854775807) :
    Calls Try.prog 25 #[.slice A n c] w fun e w' => e = .returned (.bool (SlotP.fits (octs ss))) ∧ w = w' := by
  have hlen : ss.length = n := h.len
  by_cases h40 : 40 < n
  · have hf := fits_far ss (by omega)
    have HF := hide hf
    clear hf hlen
    go_enter Try.func25, Try.ntmps25
    go_wp2
    go_ret
    exact ⟨by rw [HF.out]; rfl, rfl⟩
  have HL := hide hlen
  clear hlen
  go_enter Try.func25, Try.ntmps25
  go_wp2
  go_loop [10] (fun i => ∃ k : Nat, k ≤ n ∧ i = .int .i64 k ∧ AllLe ss k) (fun i => n - (intOf i).toNat)
  case atStart => exact ⟨0, Nat.zero_le _, rfl, allLe_zero ss⟩
  case round =>
    obtain ⟨k, hk, rfl, hall⟩ := hrel
    by_cases hlt : k < n
    · obtain ⟨a, s, hA, hsk, hc⟩ := h.str hlt
      subst hA
      have HS := hide hsk
      clear hsk h
      by_cases hl : 1000 < (s.size : Int)
      · go_wp2
        go_ret
        exact ⟨by rw [fits_long ss k s HS.out hl]; rfl, rfl⟩
      · go_wp2
        go_round
        case rel => exact ⟨k + 1, by omega, by go_num, allLe_succ hall HS.out (by omega)⟩
        case measure => simp [intOf]; omega
    · have hkn : k = n := by omega
      subst hkn
      have hsum : SlotP.sumLen (octs ss) ≤ 1000 * ss.length := sumLen_le ss 1000 (fun s hs => hall s (by rw [List.take_of_length_le (by have := HL.out; omega)]; exact hs))
      rw [HL.out] at hsum
      go_wp2_with (go_at_call 67; refine (used_any A k c ss V _ h (by omega) (by omega)).mono ?_; rintro e w' ⟨rfl, rfl⟩)
      go_ret
      have hlen := HL.out
      refine ⟨ret_bool ?_, rfl⟩
      rw [fits_used ss (by omega) (by rw [hlen]; exact hall)]

end Go.Proofs.Yteoiadfcchalfaa

/-! The walks of layer 19: Free; the reference's Fits; Same. -/
namespace Go.Proofs.Yteoiadfcchalfaa
open Go.RowKit
set_option linter.unusedVariables false

theorem free_no {l : List (List UInt8)} (h : SlotP.fits l = false) : SlotP.free l = -1 := by simp [SlotP.free, h]
theorem free_full {l : List (List UInt8)} (h : SlotP.fits l = true) (h2 : l.length = 40) : SlotP.free l = 0 := by simp [SlotP.free, h, h2]
theorem free_room {l : List (List UInt8)} (h : SlotP.fits l = true) (h2 : l.length ≠ 40) : SlotP.free l = max 0 (min 1000 (1022 - (SlotP.used l : Int))) := by simp [SlotP.free, h, h2]

set_option maxHeartbeats 400000 in
theorem free_any (A : Option Addr) (n c : Nat) (ss : List ByteArray) (V : Nat → Prop) (w : World) (h : Sl w V 1 A n (strs ss)) (hn : n ≤ 9223372036854775807) :
    Calls Try.prog 29 #[.slice A n c] w fun e w' => e = .returned (.int .i64 (SlotP.free (octs ss))) ∧ w = w' := by
  have hlen : ss.length = n := h.len
  have hfa := fits_any A n c ss V w h hn
  cases hf : SlotP.fits (octs ss) with
  | false =>
    have hv := free_no hf
    have HF := hide hf
    have HV := hide hv
    clear hf hv hlen
    rw [HF.out] at hfa
    go_enter Try.func29, Try.ntmps29
    go_wp2_with (go_at_call 25; refine hfa.mono ?_; rintro e w' ⟨rfl, rfl⟩)
    go_ret
    exact ⟨by rw [HV.out]; rfl, rfl⟩
  | true =>
    have h3 := (SlotP.fits_iff _).1 hf
    rw [octs_length] at h3
    by_cases h40 : n = 40
    · have hv := free_full hf (by rw [octs_length]; omega)
      have HF := hide hf
      have HV := hide hv
      clear hf hv hlen h3
      rw [HF.out] at hfa
      have h40' : ((n : Int) == 40) = true := by simp [h40]
      have H40 := hide h40
      clear h40
      go_enter Try.func29, Try.ntmps29
      go_wp2_with (go_at_call 25; refine hfa.mono ?_; rintro e w' ⟨rfl, rfl⟩)
      go_ret
      exact ⟨by rw [HV.out]; rfl, rfl⟩
    · have hv := free_room hf (by rw [octs_length]; omega)
      obtain ⟨h31, _, h33⟩ := h3
      have hua := used_any A n c ss V w h (by omega) (by simp only [SlotP.used] at h33; omega)
      have hu : (SlotP.used (octs ss) : Int) ≤ 1024 := by omega
      have HF := hide hf
      have HV := hide hv
      clear hf hv hlen h33
      rw [HF.out] at hfa
      have h40' : ((n : Int) == 40) = false := by simp; omega
      clear h40
      go_enter Try.func29, Try.ntmps29
      go_wp2_with (first | (go_at_call 25; refine hfa.mono ?_; rintro e w' ⟨rfl, rfl⟩) | (go_at_call 67; refine hua.mono ?_; rintro e w' ⟨rfl, rfl⟩))
      all_goals go_ret
      all_goals refine ⟨ret_int ?_, rfl⟩
      all_goals rw [HV.out]
      all_goals omega


/-! ### Same -/
theorem same_len {a b : List ByteArray} (h : a.length ≠ b.length) : decide (octs a = octs b) = false := by
  simp only [decide_eq_false_iff_not]
  intro e
  exact h (by rw [← octs_length a, e, octs_length])
theorem octs_inj {a b : List ByteArray} (h : octs a = octs b) : a = b := by
  induction a generalizing b with
  | nil => cases b with
    | nil => rfl
    | cons y b => simp [octs] at h
  | cons x a ih => cases b with
    | nil => simp [octs] at h
    | cons y b =>
      rw [octs_cons, octs_cons] at h
      injection h with h1 h2
      rw [oct_inj h1, ih h2]
theorem same_at {a b : List ByteArray} {k : Nat} {s t : ByteArray} (ha : a[k]? = some s) (hb : b[k]? = some t) (h : oct s ≠ oct t) : decide (octs a = octs b) = false := by
  simp only [decide_eq_false_iff_not]
  intro e
  rw [octs_inj e, hb] at ha
  injection ha with ha
  exact h (by rw [ha])
def SameTo (a b : List ByteArray) (k : Nat) : Prop := ∀ j, j < k → a[j]? = b[j]?
theorem sameTo_zero (a b : List ByteArray) : SameTo a b 0 := fun j h => absurd h (by omega)
theorem sameTo_succ {a b : List ByteArray} {k : Nat} {s t : ByteArray} (h : SameTo a b k) (ha : a[k]? = some s) (hb : b[k]? = some t) (e : oct s = oct t) : SameTo a b (k + 1) := by
  intro j hj
  rcases Nat.lt_or_ge j k with h1 | h1
  · exact h j h1
  · obtain rfl : j = k := by omega
    rw [ha, hb, oct_inj e]
theorem sameTo_all {a b : List ByteArray} {k : Nat} (h : SameTo a b k) (ha : a.length = k) (hb : b.length = k) : a = b := by
  refine List.ext_getElem? fun j => ?_
  rcases Nat.lt_or_ge j k with h1 | h1
  · exact h j h1
  · rw [List.getElem?_eq_none (by omega), List.getElem?_eq_none (by omega)]

set_option maxHeartbeats 800000 in
theorem same_any (A B : Option Addr) (n m c d : Nat) (ss ts : List ByteArray) (V U : Nat → Prop) (w : World) (h : Sl w V 1 A n (strs ss)) (g : Sl w U 1 B m (strs ts)) (hn : n ≤ 9223372036854775807) :
    Calls Try.prog 21 #[.slice A n c, .slice B m d] w fun e w' => e = .returned (.bool (decide (octs ss = octs ts))) ∧ ∃ q, w' = w.drewN q := by
  have hl := h.len
  have gl := g.len
  by_cases hnm : n = m
  · subst hnm
    have HL := hide hl
    have GL := hide gl
    clear hl gl
    have hne : ((n : Int) != n) = false := by simp
    go_enter Try.func21, Try.ntmps21
    go_wp2
    go_loopw [5] (fun i wr => ∃ k : Nat, k ≤ n ∧ i = .int .i64 k ∧ SameTo ss ts k ∧ ∃ q, wr = w.drewN q) (fun i _ => n - (intOf i).toNat)
    case atStart => exact ⟨0, Nat.zero_le _, rfl, sameTo_zero _ _, 0, rfl⟩
    case round =>
      obtain ⟨k, hk, rfl, hs, q, rfl⟩ := hrel
      by_cases hlt : k < n
      · obtain ⟨a, s, hA, hsk, hc⟩ := h.str hlt
        obtain ⟨b, t, hB, htk, hd⟩ := g.str hlt
        subst hA
        subst hB
        have HS := hide hsk
        have HT := hide htk
        clear hsk htk h g
        have hi0 : (0 : Int) ≤ (k : Int) := by omega
        have hi1 : (k : Int) < (n : Int) := by omega
        go_wp2
        go_quiet (fail)
        go_wp2
        · have hne' : (!s.toList == t.toList) = true := by assumption
          have hne2 : oct s ≠ oct t := by
            intro e
            have e2 : s.toList = t.toList := by rw [ByteArray.toList_eq, ByteArray.toList_eq]; exact e
            rw [e2] at hne'; simp at hne'
          go_ret
          exact ⟨by rw [same_at HS.out HT.out hne2]; rfl, drewN_some⟩
        · have he : (!s.toList == t.toList) = false := by assumption
          have he2 : oct s = oct t := by
            have e2 : s.toList = t.toList := by simpa using he
            rw [ByteArray.toList_eq, ByteArray.toList_eq] at e2; exact e2
          go_roundw
          case rel => exact ⟨k + 1, by omega, by go_num, sameTo_succ hs HS.out HT.out he2, _, rfl⟩
          case measure => simp [intOf]; omega
      · have hkn : k = n := by omega
        subst hkn
        have e : ss = ts := sameTo_all hs HL.out GL.out
        have E := hide e
        clear e
        go_wp2
        go_ret
        exact ⟨ret_bool (by rw [E.out]; simp), _, rfl⟩
  · have hne : ((n : Int) != m) = true := by simp; omega
    have hf := same_len (a := ss) (b := ts) (by omega)
    have HF := hide hf
    clear hf hl gl hnm
    go_enter Try.func21, Try.ntmps21
    go_wp2
    go_ret
    exact ⟨by rw [HF.out]; rfl, 0, rfl⟩

/-! ### The reference's Fits -/
set_option maxHeartbeats 800000 in
theorem rfits_any (A : Option Addr) (n c : Nat) (ss : List ByteArray) (V : Nat → Prop) (w : World) (h : Sl w V 1 A n (strs ss)) (hn : n ≤ 100000) :
    Calls Try.prog 27 #[.slice A n c] w fun e w' => e = .returned (.bool (SlotP.fits (octs ss))) ∧ w = w' := by
  have hlen : ss.length = n := h.len
  have HL := hide hlen
  clear hlen
  go_enter Try.func27, Try.ntmps27
  go_wp2
  go_loop [3, 4] (fun v i => ∃ k : Nat, k ≤ n ∧ i = .int .i64 k ∧ AllLe ss k ∧ v = .int .i64 ((2 + 2 * k + SlotP.sumLen (octs (ss.take k)) : Nat) : Int)) (fun _ i => n - (intOf i).toNat)
  case atStart => exact ⟨0, Nat.zero_le _, rfl, allLe_zero ss, by simp [octs_nil, SlotP.sumLen_nil]⟩
  case round =>
    obtain ⟨k, hk, rfl, hall, rfl⟩ := hrel
    have hsum := sumLen_le (ss.take k) 1000 hall
    have htk : (ss.take k).length ≤ k := List.length_take_le _ _
    have hsb : (SlotP.sumLen (octs (ss.take k)) : Int) ≤ 100000000 := by omega
    clear hsum htk
    by_cases hlt : k < n
    · obtain ⟨a, s, hA, hsk, hc⟩ := h.str hlt
      subst hA
      have h1 := sumLen_take_succ ss k s hsk
      have H1 := hide h1
      have HS := hide hsk
      clear hsk h h1
      by_cases hl : 1000 < (s.size : Int)
      · go_wp2
        go_ret
        exact ⟨by rw [fits_long ss k s HS.out hl]; rfl, rfl⟩
      · go_wp2
        go_round
        case rel => exact ⟨k + 1, by omega, by go_num, allLe_succ hall HS.out (by omega), by rw [H1.out]; go_num⟩
        case measure => simp [intOf]; omega
    · have hkn : k = n := by omega
      subst hkn
      have e : ss.take k = ss := List.take_of_length_le (by have := HL.out; omega)
      have E := hide e
      clear e
      by_cases h40 : 40 < k
      · have hf := fits_far ss (by have := HL.out; omega)
        have HF := hide hf
        clear hf
        have hd : decide ((k : Int) ≤ 40) = false := by simp; omega
        go_wp2
        go_ret
        exact ⟨by rw [HF.out]; rfl, rfl⟩
      · have hf := fits_used ss (by have := HL.out; omega) (by rw [HL.out]; exact hall)
        have HF := hide hf
        clear hf
        have hd : decide ((k : Int) ≤ 40) = true := by simp; omega
        go_wp2
        go_ret
        have hlen := HL.out
        refine ⟨ret_bool ?_, rfl⟩
        rw [HF.out, E.out]
        simp only [SlotP.used, octs_length, hlen]
        congr 1

/-! ### many, few -/
theorem bytesV_replicate (c : UInt8) (n : Nat) : bytesV (List.replicate n c) = List.replicate n (.int .u8 (c.toNat : Int)) := by simp [bytesV]

set_option maxHeartbeats 800000 in
theorem many_any (c : UInt8) (n : Nat) (w : World) (hn : n ≤ 100000) :
    Calls Try.prog 28 #[.int .u8 (c.toNat : Int), .int .i64 n] w fun e w' => e = .returned (.string ⟨(List.replicate n c).toArray⟩) ∧ Below w.heap.size w w' := by
  obtain ⟨i0, hi, hz0, hz1, hz2⟩ := info_parts Try.info5
  go_enter Try.func28, Try.ntmps28
  go_wp2_with (at_make; refine wpList_make_full _ rfl _ _ 62 rfl w.heap.size 5 i0 (.int .u8 0) 1 Try.underlying62 hi hz0 hz1 .i64 .i64 n n n rfl rfl rfl rfl (by rw [hz2]; omega) (by simp only [maxLen]; omega) (Nat.le_refl _) ?_; intro w1 hown hgrow)
  have hb1 : Below w.heap.size w w1 := (Below.refl _ _).grown hgrow (Nat.le_refl _) (by simp)
  have hx : w1.ownsRow w.heap.size 5 1 (.slice (some ⟨w.heap.size, 0, none⟩) n n) n (bytesV (List.replicate 0 c ++ List.replicate (n - 0) 0)) := by
    have e : bytesV (List.replicate 0 c ++ List.replicate (n - 0) 0) = (madeCells (Value.int .u8 0).cells (n * 1)).toList := by
      rw [show (Value.int .u8 0).cells = #[Value.int .u8 0] from rfl, toList_madeCells_one]
      simp [bytesV]
    rw [e]; exact hown
  clear hown
  go_loopw [6] (fun i wr => ∃ k : Nat, k ≤ n ∧ i = .int .i64 k ∧ wr.ownsRow w.heap.size 5 1 (.slice (some ⟨w.heap.size, 0, none⟩) n n) n (bytesV (List.replicate k c ++ List.replicate (n - k) 0)) ∧ Below w.heap.size w wr) (fun i _ => n - (intOf i).toNat)
  case atStart => exact ⟨0, Nat.zero_le _, rfl, hx, hb1⟩
  case round =>
    clear hx hb1 hgrow
    obtain ⟨k, hk, rfl, hown, hb⟩ := hrel
    by_cases hlt : k < n
    · have hc : ∃ u, wr.cell? ⟨w.heap.size, k, none⟩ = some u := by
        rw [hown.cellAt k (by omega)]
        exact ⟨_, List.getElem?_eq_getElem (by rw [bytesV_length]; simp; omega)⟩
      obtain ⟨u, hc⟩ := hc
      have hf := hown.frozenAt k
      have hst := hown.stored k (.int .u8 (c.toNat : Int))
      have e : (bytesV (List.replicate k c ++ List.replicate (n - k) 0)).set k (.int .u8 (c.toNat : Int)) = bytesV (List.replicate (k + 1) c ++ List.replicate (n - (k + 1)) 0) := by
        rw [bytesV_append, bytesV_append, bytesV_replicate, bytesV_replicate, bytesV_replicate, bytesV_replicate, List.set_append, if_neg (by simp)]
        rw [show n - k = (n - (k + 1)) + 1 by omega, List.replicate_succ, List.length_replicate, Nat.sub_self, List.set_cons_zero, List.replicate_succ' (n := k), List.append_assoc]
        rfl
      rw [e] at hst
      have HST := hide hst
      clear hst e hown
      go_wp2
      go_roundw
      case rel => exact ⟨k + 1, by omega, by go_num, HST.out.1, hb.setCell (Nat.le_refl _) _⟩
      case measure => simp [intOf]; omega
    · have hkn : k = n := by omega
      subst hkn
      have hsl := Sl.of_own hown
      rw [Nat.sub_self, List.replicate_zero, List.append_nil] at hsl
      have hcv := conv_str (P := Try.prog) (c := k) hsl 62 9 5 Try.underlying62 Try.underlying5 Try.underlying9
      clear hown hsl
      go_wp2
      go_ret
      exact ⟨rfl, hb⟩

/-- what few makes of a string: no more than 1001 octets -/
def short (s : ByteArray) : ByteArray := if (1001 : Int) < (s.size : Int) then s.extract 0 1001 else s
theorem short_size (s : ByteArray) : (short s).size ≤ 1001 := by
  unfold short
  split
  · rw [← oct_length, oct_extract]; simp; omega
  · omega
def fewTo (ss : List ByteArray) (k : Nat) : List ByteArray := (ss.take k).map short
def fewP (ss : List ByteArray) : List ByteArray := fewTo ss 45
theorem fewP_length (ss : List ByteArray) : (fewP ss).length ≤ 45 := by simp [fewP, fewTo]; omega
theorem fewP_size (ss : List ByteArray) : ∀ s ∈ fewP ss, s.size ≤ 1001 := by
  intro s hs
  simp only [fewP, fewTo, List.mem_map] at hs
  obtain ⟨x, _, rfl⟩ := hs
  exact short_size x
theorem fewTo_succ {ss : List ByteArray} {k : Nat} {s : ByteArray} (h : ss[k]? = some s) : fewTo ss k ++ [short s] = fewTo ss (k + 1) := by
  have h1 : k < ss.length := (List.getElem?_eq_some_iff.1 h).1
  have h2 : ss[k] = s := (List.getElem?_eq_some_iff.1 h).2
  simp only [fewTo]
  rw [List.take_succ_eq_append_getElem h1, h2]; simp
theorem fewTo_all {ss : List ByteArray} {k : Nat} (h : k = 45 ∨ ss.length = k) (hk : k ≤ 45) (hl : k ≤ ss.length) : fewTo ss k = fewP ss ∧ (fewP ss).length = k := by
  have e : ss.take k = ss.take 45 := by
    rcases h with rfl | h
    · rfl
    · rw [List.take_of_length_le (by omega), List.take_of_length_le (by omega)]
  refine ⟨by simp only [fewP, fewTo, e], ?_⟩
  simp only [fewP, fewTo, ← e]
  simp; omega

set_option maxRecDepth 100000 in
set_option maxHeartbeats 800000 in
theorem few_any (A : Option Addr) (n c : Nat) (ss : List ByteArray) (V : Nat → Prop) (w : World) (h : Sl w V 1 A n (strs ss)) (hn : n ≤ 9223372036854775807) :
    Calls Try.prog 24 #[.slice A n c] w fun e w' => ∃ v, e = .returned v ∧ w'.ownsRow w.heap.size 9 1 v (fewP ss).length (strs (fewP ss)) ∧ Below w.heap.size w w' := by
  have hlen : ss.length = n := h.len
  have HL := hide hlen
  clear hlen
  go_enter Try.func24, Try.ntmps24
  go_wp2
  go_loopw [3, 4] (fun v i wr => ∃ k : Nat, k ≤ n ∧ k ≤ 45 ∧ i = .int .i64 k ∧ wr.ownsRow w.heap.size 9 1 v k (strs (fewTo ss k)) ∧ Below w.heap.size w wr) (fun _ i _ => n - (intOf i).toNat)
  case atStart => exact ⟨0, Nat.zero_le _, by omega, rfl, World.ownsRow_nil w _ _ _, Below.refl _ _⟩
  case round =>
    obtain ⟨k, hk, hk45, rfl, hown, hb⟩ := hrel
    by_cases hlt : k < n ∧ k < 45
    · obtain ⟨hlt, hlt45⟩ := hlt
      obtain ⟨a, s, hA, hsk, hc⟩ := (h.below hb).str hlt
      subst hA
      have e := fewTo_succ hsk
      clear hsk h
      by_cases hl : (1001 : Int) < (s.size : Int)
      · rw [show short s = s.extract 0 1001 from if_pos hl] at e
        have E := hide e
        clear e
        go_wp2_with (at_builtin; refine wp_app_str rfl _ _ rfl w.heap.size _ _ _ hown rfl (s.extract 0 1001) rfl (by omega) hb.size ?_; intro v' w1 hA)
        rw [E.out] at hA
        have hb1 := hA.below hown hb (Nat.le_refl _) hb.size
        go_wp2
        go_roundw
        case rel => exact ⟨k + 1, by omega, by omega, by go_num, hA.own, hb1⟩
        case measure => simp [intOf]; omega
      · rw [show short s = s from if_neg hl] at e
        have E := hide e
        clear e
        go_wp2_with (at_builtin; refine wp_app_str rfl _ _ rfl w.heap.size _ _ _ hown rfl s rfl (by omega) hb.size ?_; intro v' w1 hA)
        rw [E.out] at hA
        have hb1 := hA.below hown hb (Nat.le_refl _) hb.size
        go_wp2
        go_roundw
        case rel => exact ⟨k + 1, by omega, by omega, by go_num, hA.own, hb1⟩
        case measure => simp [intOf]; omega
    · have hd := fewTo_all (ss := ss) (k := k) (by have := HL.out; omega) hk45 (by have := HL.out; omega)
      have HD := hide hd
      clear hd
      have hend : (n : Int) ≤ k ∨ (45 : Int) ≤ k := by omega
      go_wp2
      all_goals go_ret
      all_goals exact ⟨_, rfl, by rw [HD.out.2, ← HD.out.1]; exact hown, hb⟩

end Go.Proofs.Yteoiadfcchalfaa
