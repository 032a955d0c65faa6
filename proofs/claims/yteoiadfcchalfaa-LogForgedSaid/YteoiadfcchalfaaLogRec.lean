/- Plain laws of layer 18 (log), part 1: a record that was laid is read as it was, by its own number alone; what has another last octet is none. No program in sight. -/
import Derived.Test.YteoiadfcchalfaaLogPure
namespace Go.Proofs.Yteoiadfcchalfaa.LogP
open DiskP (Bytes)

theorem firstB_head (s : Bytes) (q : Nat) : firstB s q = headB s.length q ++ (s.take 117 ++ List.replicate (127 - (10 + (s.take 117).length)) 0 ++ [1]) := by
  unfold firstB padded
  rw [List.length_append, headB_len]
  simp only [List.append_assoc]
theorem firstB_at0 (s more : Bytes) (q : Nat) (h : s.length ≤ 4000) : ((firstB s q ++ more).getD 0 0).toNat * 256 + ((firstB s q ++ more).getD 1 0).toNat = s.length := by
  rw [firstB_head, headB]
  simp only [List.append_assoc, List.cons_append, List.getD_cons_zero, List.getD_cons_succ, UInt8.toNat_ofNat']
  omega
theorem firstB_last (s more : Bytes) (q : Nat) : (firstB s q ++ more).getD 127 0 = 1 := by
  have h : (padded (headB s.length q ++ s.take 117) 127).length = 127 := padded_len (by rw [List.length_append, headB_len, List.length_take]; omega)
  rw [firstB, List.append_assoc, List.getD_eq_getElem?_getD, List.getElem?_append_right (by omega), h]
  rfl
theorem firstB_seq (s more : Bytes) (q : Nat) : ((firstB s q ++ more).drop 2).take 8 = seqB q := by
  rw [firstB_head, headB]
  rfl
theorem seqB_inj {p q : Nat} (hp : p < 18446744073709551616) (hq : q < 18446744073709551616) (h : seqB p = seqB q) : p = q := by
  simp only [seqB, List.cons.injEq, and_true] at h
  obtain ⟨h0, h1, h2, h3, h4, h5, h6, h7⟩ := h
  have e0 := congrArg UInt8.toNat h0
  have e1 := congrArg UInt8.toNat h1
  have e2 := congrArg UInt8.toNat h2
  have e3 := congrArg UInt8.toNat h3
  have e4 := congrArg UInt8.toNat h4
  have e5 := congrArg UInt8.toNat h5
  have e6 := congrArg UInt8.toNat h6
  have e7 := congrArg UInt8.toNat h7
  simp only [UInt8.toNat_ofNat'] at *
  omega

theorem rest_none {s : Bytes} (h : s.length ≤ 117) : restB s = [] := by
  have h1 : secs s.length = 1 := by unfold secs; rw [if_neg (by omega), if_pos h]
  rw [restB, h1, List.drop_of_length_le h]
  rfl
theorem rest_cut {s more : Bytes} (h : s.length ≤ 4000) : (restB s ++ more).take (s.length - min s.length 117) = s.drop 117 := by
  have h1 := restB_len h
  have h2 : s.length - min s.length 117 ≤ (restB s).length := by
    rw [h1]
    unfold secs
    rw [if_neg (by omega)]
    split <;> omega
  rw [List.take_append_of_le_length h2, restB, padded, List.take_append_of_le_length (by rw [List.length_drop]; omega), List.take_of_length_le (by rw [List.length_drop]; omega)]

/-- what was laid is read -/
theorem record_lay {s more : Bytes} (q : Nat) (h : s.length ≤ 4000) (hm : 128 ≤ more.length) : recordB (firstB s q ++ (restB s ++ more)) q = some s := by
  have hf := firstB_len s q
  have hr := restB_len h
  have hp := secs_pos h
  have hl : (firstB s q ++ (restB s ++ more)).length = 128 + ((secs s.length - 1) * 128 + more.length) := by rw [List.length_append, List.length_append, hf, hr]
  have hmul : (secs s.length + 1) * 128 ≤ (firstB s q ++ (restB s ++ more)).length := by rw [hl]; omega
  unfold recordB
  rw [if_neg (by omega)]
  simp only [firstB_at0 s _ q h]
  rw [if_neg (by omega)]
  have hcut : ((firstB s q ++ (restB s ++ more)).drop 10).take (min s.length 117) ++ ((firstB s q ++ (restB s ++ more)).drop 128).take (s.length - min s.length 117) = s := by
    rw [List.drop_append_of_le_length (by omega), List.take_append_of_le_length (by rw [List.length_drop]; omega), firstB_cut q h]
    rw [show (128 : Nat) = (firstB s q).length from hf.symm, List.drop_left, rest_cut h, List.take_append_drop]
  rw [hcut, if_pos]
  rw [← List.append_assoc, List.take_left' (by rw [List.length_append, hf, hr]; omega)]

/-- what is read was laid -/
theorem record_is {all s : Bytes} {q : Nat} (h : recordB all q = some s) : s.length ≤ 4000 ∧ (secs s.length + 1) * 128 ≤ all.length ∧ ∃ more, all = firstB s q ++ (restB s ++ more) := by
  unfold recordB at h
  split at h
  · cases h
  · rename_i h1
    simp only at h
    split at h
    · cases h
    · rename_i h2
      split at h
      · rename_i h3
        injection h with h
        have hn : secs ((all.getD 0 0).toNat * 256 + (all.getD 1 0).toNat) ≠ 0 := fun e => h2 (.inl e)
        have hn4 : ¬ 4000 < (all.getD 0 0).toNat * 256 + (all.getD 1 0).toNat := fun e => hn ((secs_zero _).2 e)
        have hlen : s.length = (all.getD 0 0).toNat * 256 + (all.getD 1 0).toNat := by
          rw [← h, List.length_append, List.length_take, List.length_take, List.length_drop, List.length_drop]
          have h4 : (secs ((all.getD 0 0).toNat * 256 + (all.getD 1 0).toNat) + 1) * 128 ≤ all.length := by
            rcases Nat.lt_or_ge all.length ((secs ((all.getD 0 0).toNat * 256 + (all.getD 1 0).toNat) + 1) * 128) with h5 | h5
            · exact absurd (.inr h5) h2
            · exact h5
          revert h4
          generalize (all.getD 0 0).toNat * 256 + (all.getD 1 0).toNat = n at hn4
          intro h4
          unfold secs at h4
          rw [if_neg hn4] at h4
          split at h4 <;> omega
        rw [h] at h3
        rw [← hlen] at h2 h3 hn4
        refine ⟨by omega, ?_, all.drop (secs s.length * 128), ?_⟩
        · rcases Nat.lt_or_ge all.length ((secs s.length + 1) * 128) with h5 | h5
          · exact absurd (.inr h5) h2
          · exact h5
        · rw [← List.append_assoc, h3, List.take_append_drop]
      · cases h
theorem record_last {all : Bytes} {q : Nat} (h : all.getD 127 0 ≠ 1) : recordB all q = none := by
  cases e : recordB all q with
  | none => rfl
  | some s =>
    obtain ⟨_, _, more, rfl⟩ := record_is e
    exact absurd (firstB_last s _ q) h
theorem record_other {s more : Bytes} {p q : Nat} (hp : p < 18446744073709551616) (hq : q < 18446744073709551616) (h : p ≠ q) : recordB (firstB s p ++ more) q = none := by
  cases e : recordB (firstB s p ++ more) q with
  | none => rfl
  | some t =>
    obtain ⟨_, _, more', h2⟩ := record_is e
    refine absurd (seqB_inj hp hq ?_) h
    rw [← firstB_seq s more p, h2, firstB_seq]
theorem record_short {all : Bytes} {q : Nat} (h : all.length < 128) : recordB all q = none := by
  rw [recordB, if_pos h]

/-! ### What lies in sectors -/

/-- sectors of octets, k in all -/
def chunks (s : Bytes) (k : Nat) : List Bytes := (List.range k).map (DiskP.sect s)
theorem chunks_len (s : Bytes) (k : Nat) : (chunks s k).length = k := by simp [chunks]
theorem chunks_get (s : Bytes) (k j : Nat) (h : j < k) : (chunks s k)[j]? = some (DiskP.sect s j) := by
  simp [chunks, h]
theorem chunks_size {s : Bytes} {k : Nat} (h : s.length = 128 * k) : ∀ c ∈ chunks s k, c.length = 128 := by
  intro c hc
  simp only [chunks, List.mem_map, List.mem_range] at hc
  obtain ⟨j, hj, rfl⟩ := hc
  exact DiskP.sect_len h hj
theorem chunks_succ (s : Bytes) (k : Nat) : chunks s (k + 1) = s.take 128 :: chunks (s.drop 128) k := by
  unfold chunks
  rw [List.range_succ_eq_map, List.map_cons, List.map_map]
  refine congr (congrArg List.cons ?_) (List.map_congr_left fun j _ => ?_)
  · simp [DiskP.sect]
  · simp only [Function.comp, DiskP.sect, List.drop_drop]
    congr 2
    omega
theorem chunks_flatten (k : Nat) : ∀ s : Bytes, s.length = 128 * k → (chunks s k).flatten = s := by
  induction k with
  | zero => intro s h; have : s = [] := List.eq_nil_of_length_eq_zero (by omega); subst this; rfl
  | succ k ih =>
    intro s h
    rw [chunks_succ, List.flatten_cons, ih _ (by rw [List.length_drop]; omega), List.take_append_drop]
theorem chunks_append (k m : Nat) : ∀ a b : Bytes, a.length = 128 * k → chunks (a ++ b) (k + m) = chunks a k ++ chunks b m := by
  induction k with
  | zero => intro a b h; have : a = [] := List.eq_nil_of_length_eq_zero (by omega); subst this; simp [chunks]
  | succ k ih =>
    intro a b h
    rw [show k + 1 + m = (k + m) + 1 by omega, chunks_succ, chunks_succ, List.take_append_of_le_length (by omega), List.drop_append_of_le_length (by omega), ih _ _ (by rw [List.length_drop]; omega)]
    rfl
theorem chunks_one {s : Bytes} (h : s.length = 128) : chunks s 1 = [s] := by
  rw [chunks_succ, List.take_of_length_le (by omega)]
  rfl

/-- a record's sectors -/
def recS (s : Bytes) (q : Nat) : List Bytes := firstB s q :: chunks (restB s) (secs s.length - 1)
theorem recS_len {s : Bytes} (q : Nat) (h : s.length ≤ 4000) : (recS s q).length = secs s.length := by
  have := secs_pos h
  rw [recS, List.length_cons, chunks_len]
  omega
theorem recS_flatten {s : Bytes} (q : Nat) (h : s.length ≤ 4000) : (recS s q).flatten = firstB s q ++ restB s := by
  rw [recS, List.flatten_cons, chunks_flatten _ _ (by rw [restB_len h, Nat.mul_comm])]
def sum (l : List Bytes) : Nat := (l.map fun s => secs s.length).sum
theorem sum_nil : sum [] = 0 := rfl
theorem sum_cons (s : Bytes) (l : List Bytes) : sum (s :: l) = secs s.length + sum l := by simp [sum]
theorem sum_append (a b : List Bytes) : sum (a ++ b) = sum a + sum b := by simp [sum]
/-- records one behind the other -/
def layS : Nat → List Bytes → List Bytes
  | _, [] => []
  | q, s :: l => recS s q ++ layS (q + 1) l
def Rec (l : List Bytes) : Prop := ∀ s ∈ l, s.length ≤ 4000
theorem layS_len (l : List Bytes) : ∀ q, Rec l → (layS q l).length = sum l := by
  induction l with
  | nil => intro _ _; rfl
  | cons s l ih =>
    intro q h
    rw [layS, List.length_append, recS_len q (h s (by simp)), ih _ (fun t ht => h t (by simp [ht])), sum_cons]
theorem layS_append (a b : List Bytes) : ∀ q, layS q (a ++ b) = layS q a ++ layS (q + a.length) b := by
  induction a with
  | nil => intro q; rfl
  | cons s a ih =>
    intro q
    rw [List.cons_append, layS, layS, ih, List.append_assoc]
    congr 3
    rw [List.length_cons]
    omega

/-- the sectors l stand at place p -/
def At (S : List Bytes) (p : Nat) (l : List Bytes) : Prop := ∀ j, j < l.length → S[p + j]? = l[j]?
theorem At.nil {S : List Bytes} {p : Nat} : At S p [] := fun j h => by cases h
theorem at_append {S : List Bytes} {p : Nat} {a b : List Bytes} : At S p (a ++ b) ↔ At S p a ∧ At S (p + a.length) b := by
  constructor
  · intro h
    refine ⟨fun j hj => ?_, fun j hj => ?_⟩
    · rw [h j (by rw [List.length_append]; omega), List.getElem?_append_left hj]
    · have := h (a.length + j) (by rw [List.length_append]; omega)
      rw [List.getElem?_append_right (by omega), Nat.add_sub_cancel_left] at this
      rw [← this, Nat.add_assoc]
  · rintro ⟨h1, h2⟩ j hj
    rw [List.length_append] at hj
    by_cases hlt : j < a.length
    · rw [List.getElem?_append_left hlt]; exact h1 j hlt
    · rw [List.getElem?_append_right (by omega), ← h2 (j - a.length) (by omega)]
      congr 1
      omega
theorem At.agree {S T : List Bytes} {p : Nat} {l : List Bytes} (h : At S p l) (ha : ∀ j, p ≤ j → j < p + l.length → T[j]? = S[j]?) : At T p l :=
  fun j hj => by rw [ha _ (by omega) (by omega)]; exact h j hj
theorem At.is {S : List Bytes} {p m : Nat} {l : List Bytes} (h : At S p l) (hm : l.length ≤ m) : (S.drop p).take m = l ++ (S.drop (p + l.length)).take (m - l.length) := by
  have h1 : (S.drop p).take l.length = l := by
    refine List.ext_getElem? fun j => ?_
    by_cases hj : j < l.length
    · rw [List.getElem?_take_of_lt hj, List.getElem?_drop]; exact h j hj
    · rw [List.getElem?_eq_none (by rw [List.length_take]; omega), List.getElem?_eq_none (by omega)]
  have h2 : (S.drop p).take m = (S.drop p).take l.length ++ ((S.drop p).drop l.length).take (m - l.length) := by
    rw [← List.take_add]
    congr 1
    omega
  rw [h2, h1, List.drop_drop]
theorem at_one {S : List Bytes} {p : Nat} {c : Bytes} (h : S[p]? = some c) : At S p [c] := by
  intro j hj
  have : j = 0 := by simp at hj; omega
  subst this
  simpa using h

def Sized (S : List Bytes) : Prop := ∀ s ∈ S, s.length = 128
theorem Sized.flatten_len {S : List Bytes} (h : Sized S) : S.flatten.length = 128 * S.length := by
  induction S with
  | nil => rfl
  | cons s S ih =>
    rw [List.flatten_cons, List.length_append, h s (by simp), ih fun t ht => h t (by simp [ht]), List.length_cons]
    omega
theorem Sized.drop_flatten (k : Nat) : ∀ {S : List Bytes}, Sized S → S.flatten.drop (128 * k) = (S.drop k).flatten := by
  induction k with
  | zero => intro S _; rfl
  | succ k ih =>
    intro S h
    cases S with
    | nil => simp
    | cons s S =>
      have h1 := h s (by simp)
      rw [List.flatten_cons, show 128 * (k + 1) = s.length + 128 * k by omega, ← List.drop_drop, List.drop_left, ih fun t ht => h t (by simp [ht]), List.drop_succ_cons]
theorem Sized.drop {S : List Bytes} (h : Sized S) (k : Nat) : Sized (S.drop k) := fun s hs => h s (List.mem_of_mem_drop hs)
theorem Sized.take {S : List Bytes} (h : Sized S) (k : Nat) : Sized (S.take k) := fun s hs => h s (List.mem_of_mem_take hs)

end Go.Proofs.Yteoiadfcchalfaa.LogP
