/- Plain laws of layer 17 (disk): what writes, barriers and crashes keep. No program in sight. -/
import Derived.Test.YteoiadfcchalfaaDiskPure
namespace Go.Proofs.Yteoiadfcchalfaa.DiskP

/-- a living disk without a budget -/
structure Good (n : Nat) (d : Disk) : Prop where
  may : may d = true
  len : d.S.length = n
  left : d.left = -1
  dead : d.dead = false

theorem Good.alive {n : Nat} {d : Disk} (h : Good n d) : alive d = true := by simp [DiskP.alive, h.dead, h.left]
theorem Good.spent {n : Nat} {d : Disk} (h : Good n d) : spent d = d := by simp [DiskP.spent, h.dead, h.left]

theorem doneGo_len (ws : List Wr) : ∀ l : List Bytes, (doneGo l ws).length = l.length := by
  induction ws with
  | nil => exact fun _ => rfl
  | cons w ws ih => intro l; rw [doneGo, List.foldl_cons, ← doneGo, ih, List.length_set]
theorem doneGo_size (ws : List Wr) (hw : ∀ w ∈ ws, w.s.length = 128) : ∀ l : List Bytes, (∀ s ∈ l, s.length = 128) → ∀ s ∈ doneGo l ws, s.length = 128 := by
  induction ws with
  | nil => exact fun _ h => h
  | cons w ws ih =>
    intro l hl
    rw [doneGo, List.foldl_cons, ← doneGo]
    refine ih (fun v hv => hw v (by simp [hv])) _ fun s hs => ?_
    rcases List.mem_or_eq_of_mem_set hs with h | h
    · exact hl s h
    · rw [h]; exact hw w (by simp)

theorem Good.barrier {n : Nat} {d : Disk} (h : Good n d) : barrier d = ({ d with S := done d, W := [] }, 0) := by
  rw [DiskP.barrier, h.may, h.alive, h.spent]; rfl
theorem Good.behind {n : Nat} {d : Disk} (h : Good n d) : Good n { d with S := done d, W := [] } := by
  have hm := (may_iff d).1 h.may
  refine ⟨(may_iff _).2 ⟨?_, ?_, hm.2.2.1, ?_, by simp⟩, ?_, h.left, h.dead⟩
  · show 1 ≤ (done d).length; rw [done, doneGo_len]; exact hm.1
  · show (done d).length ≤ 4000; rw [done, doneGo_len]; exact hm.2.1
  · exact doneGo_size d.W (fun w hw => (hm.2.2.2.2 w hw).2.2) d.S hm.2.2.2.1
  · show (done d).length = n; rw [done, doneGo_len]; exact h.len

theorem crashGo_len (f : Fate) (ws : List Wr) : ∀ (i : Nat) (l : List Bytes), (crashGo f i ws l).length = l.length := by
  induction ws with
  | nil => exact fun _ _ => rfl
  | cons w ws ih => intro i l; rw [crashGo, ih, List.length_set]
theorem crash_quiet {d : Disk} (f : Fate) (h : may d = true) (hW : d.W = []) : crash d f = ⟨d.S, [], -1, false⟩ := by
  rw [crash, h, hW]; rfl

/-- what a crash leaves: each octet is what it was, or what a write that waited said -/
theorem crashGo_from (f : Fate) (ws : List Wr) : ∀ (i : Nat) (l : List Bytes), (∀ w ∈ ws, 0 ≤ w.at_ ∧ w.at_ < l.length ∧ w.s.length = 128) → (∀ s ∈ l, s.length = 128) →
    (∀ s ∈ crashGo f i ws l, s.length = 128) ∧
    ∀ (j k : Nat) (b : UInt8), ((crashGo f i ws l).getD j [])[k]? = some b → (l.getD j [])[k]? = some b ∨ ∃ w ∈ ws, w.at_ = (j : Int) ∧ w.s[k]? = some b := by
  induction ws with
  | nil => exact fun i l _ hl => ⟨hl, fun j k b h => .inl h⟩
  | cons w ws ih =>
    intro i l hw hl
    obtain ⟨h0, h1, h2⟩ := hw w (by simp)
    have hat : w.at_.toNat < l.length := by omega
    have hold : (l.getD w.at_.toNat []).length = 128 := by
      rw [List.getD_eq_getElem?_getD, List.getElem?_eq_getElem hat]
      exact hl _ (List.getElem_mem hat)
    have hk : kept f i ≤ 128 := by
      unfold kept
      split
      · omega
      · split <;> omega
    have hlen : (w.s.take (kept f i) ++ (l.getD w.at_.toNat []).drop (kept f i)).length = 128 := by
      rw [List.length_append, List.length_take, List.length_drop, hold, h2]
      omega
    obtain ⟨q1, q2⟩ := ih (i + 1) (l.set w.at_.toNat (w.s.take (kept f i) ++ (l.getD w.at_.toNat []).drop (kept f i)))
      (fun v hv => by rw [List.length_set]; exact hw v (by simp [hv]))
      (fun s hs => by
        rcases List.mem_or_eq_of_mem_set hs with h | h
        · exact hl s h
        · rw [h]; exact hlen)
    refine ⟨q1, fun j k b hb => ?_⟩
    rcases q2 j k b hb with h | ⟨v, hv, e1, e2⟩
    · by_cases e : j = w.at_.toNat
      · subst e
        rw [List.getD_eq_getElem?_getD, List.getElem?_set_self hat, Option.getD_some] at h
        by_cases hkk : k < kept f i
        · rw [List.getElem?_append_left (by rw [List.length_take]; omega), List.getElem?_take_of_lt hkk] at h
          exact .inr ⟨w, by simp, by omega, h⟩
        · rw [List.getElem?_append_right (by rw [List.length_take]; omega), List.getElem?_drop, List.length_take] at h
          refine .inl ?_
          rw [← h]
          congr 1
          omega
      · rw [List.getD_eq_getElem?_getD, List.getElem?_set_ne (fun h => e h.symm), ← List.getD_eq_getElem?_getD] at h
        exact .inl h
    · exact .inr ⟨v, by simp [hv], e1, e2⟩

theorem sect_len {s : Bytes} {k m : Nat} (hs : s.length = 128 * m) (hk : k < m) : (sect s k).length = 128 := by
  rw [sect, List.length_take, List.length_drop, hs]
  omega
theorem Good.add {n : Nat} {d : Disk} (h : Good n d) {w : Wr} (h0 : 0 ≤ w.at_) (h1 : w.at_ < (n : Int)) (h2 : w.s.length = 128) : Good n { d with W := d.W ++ [w] } := by
  have hm := (may_iff d).1 h.may
  refine ⟨(may_iff _).2 ⟨hm.1, hm.2.1, hm.2.2.1, hm.2.2.2.1, fun v hv => ?_⟩, h.len, h.left, h.dead⟩
  have hv' : v ∈ d.W ∨ v = w := by simpa using hv
  rcases hv' with hv' | hv'
  · exact hm.2.2.2.2 v hv'
  · subst hv'; exact ⟨h0, by show v.at_ < (d.S.length : Int); rw [h.len]; exact h1, h2⟩
theorem putGo_good {n m : Nat} {s : Bytes} {i : Int} (hs : s.length = 128 * m) (h0 : 0 ≤ i) (h1 : i + m ≤ n) : ∀ (k j : Nat) (d : Disk), j + k = m → Good n d → (putGo s i k j d).2 = 0 ∧ Good n (putGo s i k j d).1 ∧ (putGo s i k j d).1.S = d.S := by
  intro k
  induction k with
  | zero => exact fun j d _ h => ⟨rfl, h, rfl⟩
  | succ k ih =>
    intro j d hj h
    rw [putGo, h.alive, if_neg (by simp), h.spent]
    have h2 := h.add (w := ⟨i + j, sect s j⟩) (by show 0 ≤ i + (j : Int); omega) (by show i + (j : Int) < (n : Int); omega) (sect_len hs (by omega))
    obtain ⟨q1, q2, q3⟩ := ih (j + 1) _ (by omega) h2
    exact ⟨q1, q2, q3⟩
/-- a put on a good disk is done or refused; what it leaves is good, with the same sectors -/
theorem Good.put {n : Nat} {d : Disk} (h : Good n d) (i : Int) (s : Bytes) (he : (put d i s).2 = 0) : Good n (put d i s).1 ∧ (put d i s).1.S = d.S := by
  unfold DiskP.put at he ⊢
  split at he
  · simp at he
  · rename_i h1
    rw [if_neg h1]
    split at he
    · simp at he
    · rename_i h2
      rw [if_neg h2]
      have hs : s.length = 128 * (s.length / 128) := by
        have : ¬ (s.length % 128 != 0) = true := fun h => h1 (by simp [h])
        simp at this
        omega
      have ht : there d i ((s.length / 128 : Nat) : Int) = true := by simpa using h2
      simp only [there, Bool.and_eq_true, decide_eq_true_eq] at ht
      obtain ⟨⟨⟨t1, t2⟩, t3⟩, t4⟩ := ht
      rw [h.len] at t4
      obtain ⟨_, q2, q3⟩ := putGo_good hs t1 (by omega) (s.length / 128) 0 d (by omega) h
      exact ⟨q2, q3⟩
theorem good_new {n : Nat} (h1 : 1 ≤ n) (h2 : n ≤ 4000) : Good n (new n) :=
  ⟨(may_iff _).2 ⟨by simpa [new] using h1, by simpa [new] using h2, by simp [new], by
    intro s hs
    simp only [new, List.mem_replicate] at hs
    rw [hs.2]; simp [noughts], by simp [new]⟩, by simp [new], rfl, rfl⟩

/-- a disk on a budget of n, of which k are spent -/
structure Bud (n k : Nat) (d : Disk) : Prop where
  may : may d = true
  len : d.S.length = 4
  le : k ≤ n
  left : d.left = (n : Int) - k
  dead : d.dead = true → k = n
theorem Bud.alive {n k : Nat} {d : Disk} (h : Bud n k d) (hk : k < n) : DiskP.alive d = true := by
  have h1 : d.dead = false := by
    cases e : d.dead with
    | false => rfl
    | true => have := h.dead e; omega
  have h2 : ¬ d.left = 0 := by have := h.left; omega
  simp [DiskP.alive, h1, h2]
theorem Bud.over {n : Nat} {d : Disk} (h : Bud n n d) : DiskP.alive d = false := by
  have h2 : d.left = 0 := by have := h.left; omega
  simp [DiskP.alive, h2]
theorem Bud.spent {n k : Nat} {d : Disk} (h : Bud n k d) (hk : k < n) : DiskP.spent d = { d with left := d.left - 1 } := by
  have h1 : d.dead = false := by
    cases e : d.dead with
    | false => rfl
    | true => have := h.dead e; omega
  have h2 : ¬ d.left = 0 := by have := h.left; omega
  have h3 : 0 < d.left := by have := h.left; omega
  simp [DiskP.spent, h1, h2, h3]
theorem Bud.spent_over {n : Nat} {d : Disk} (h : Bud n n d) : DiskP.spent d = { d with dead := true } := by
  have h2 : d.left = 0 := by have := h.left; omega
  simp [DiskP.spent, h2]
theorem Bud.barrier {n k : Nat} {d : Disk} (h : Bud n k d) (hk : k < n) : (DiskP.barrier d).2 = 0 ∧ Bud n (k + 1) (DiskP.barrier d).1 := by
  have hm := (may_iff d).1 h.may
  rw [DiskP.barrier, h.may, h.alive hk, h.spent hk]
  refine ⟨rfl, (may_iff _).2 ⟨?_, ?_, ?_, ?_, by simp⟩, ?_, by omega, ?_, ?_⟩
  · show 1 ≤ (done d).length; rw [done, doneGo_len]; exact hm.1
  · show (done d).length ≤ 4000; rw [done, doneGo_len]; exact hm.2.1
  · show -1 ≤ d.left - 1; have := h.left; omega
  · exact doneGo_size d.W (fun w hw => (hm.2.2.2.2 w hw).2.2) d.S hm.2.2.2.1
  · show (done d).length = 4; rw [done, doneGo_len]; exact h.len
  · show d.left - 1 = (n : Int) - (k + 1 : Nat); have := h.left; omega
  · intro e
    have := h.dead e
    omega
theorem Bud.dies {n : Nat} {d : Disk} (h : Bud n n d) : Bud n n { d with dead := true } :=
  ⟨by have hm := (may_iff d).1 h.may; exact (may_iff _).2 ⟨hm.1, hm.2.1, hm.2.2.1, hm.2.2.2.1, hm.2.2.2.2⟩, h.len, Nat.le_refl _, h.left, fun _ => rfl⟩
theorem Bud.barrier_over {n : Nat} {d : Disk} (h : Bud n n d) : DiskP.barrier d = ({ d with dead := true }, 14) := by
  rw [DiskP.barrier, h.may, h.over, h.spent_over]; rfl
theorem Bud.put {n k : Nat} {d : Disk} (h : Bud n k d) (hk : k < n) {i : Int} (h0 : 0 ≤ i) (h1 : i < 4) {s : Bytes} (hs : s.length = 128) : (DiskP.put d i s).2 = 0 ∧ Bud n (k + 1) (DiskP.put d i s).1 := by
  have hm := (may_iff d).1 h.may
  have ht : there d i ((128 / 128 : Nat) : Int) = true := by
    simp only [there, Bool.and_eq_true, decide_eq_true_eq]
    rw [h.len]
    omega
  rw [DiskP.put, h.may, hs, ht]
  simp only [Bool.true_eq_false, if_false, Bool.false_or, decide_false]
  rw [if_neg (by decide)]
  show (putGo s i 1 0 d).2 = 0 ∧ Bud n (k + 1) (putGo s i 1 0 d).1
  rw [putGo, h.alive hk, if_neg (by simp), h.spent hk, putGo]
  refine ⟨rfl, (may_iff _).2 ⟨hm.1, hm.2.1, ?_, hm.2.2.2.1, fun v hv => ?_⟩, h.len, by omega, ?_, ?_⟩
  · show -1 ≤ d.left - 1; have := h.left; omega
  · have hv' : v ∈ d.W ∨ v = ⟨i + (0 : Nat), sect s 0⟩ := by simpa using hv
    rcases hv' with hv' | hv'
    · exact hm.2.2.2.2 v hv'
    · subst hv'
      refine ⟨by show 0 ≤ i + ((0 : Nat) : Int); omega, by show i + ((0 : Nat) : Int) < (d.S.length : Int); rw [h.len]; omega, sect_len (m := 1) (by omega) (by omega)⟩
  · show d.left - 1 = (n : Int) - (k + 1 : Nat); have := h.left; omega
  · intro e
    have := h.dead e
    omega
theorem Bud.put_over {n : Nat} {d : Disk} (h : Bud n n d) {i : Int} (h0 : 0 ≤ i) (h1 : i < 4) {s : Bytes} (hs : s.length = 128) : DiskP.put d i s = ({ d with dead := true }, 14) := by
  have ht : there d i ((128 / 128 : Nat) : Int) = true := by
    simp only [there, Bool.and_eq_true, decide_eq_true_eq]
    rw [h.len]
    omega
  rw [DiskP.put, h.may, hs, ht]
  simp only [Bool.true_eq_false, if_false, Bool.false_or, decide_false]
  rw [if_neg (by decide)]
  show putGo s i 1 0 d = _
  rw [putGo, h.over, if_pos rfl, h.spent_over]
end Go.Proofs.Yteoiadfcchalfaa.DiskP
