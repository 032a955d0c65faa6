/- Plain laws of layers 17 and 18: what writes, barriers and crashes make of a living disk whose budget may run out; what an append makes of the records that a log has. No program in sight. -/
import Derived.Test.YteoiadfcchalfaaLogScan
namespace Go.Proofs.Yteoiadfcchalfaa.LogP
open DiskP (Bytes Disk Wr Fate noughts)

/-- a living disk of n sectors, on whatever budget -/
structure Live (n : Nat) (d : Disk) : Prop where
  may : DiskP.may d = true
  len : d.S.length = n
  dead : d.dead = false
theorem Live.sized {n : Nat} {d : Disk} (h : Live n d) : Sized d.S := ((DiskP.may_iff d).1 h.may).2.2.2.1
theorem may_mk {S : List Bytes} {W : List Wr} {lf : Int} {b : Bool} (h1 : 1 ≤ S.length) (h2 : S.length ≤ 4000) (h3 : -1 ≤ lf) (h4 : Sized S) (h5 : ∀ w ∈ W, 0 ≤ w.at_ ∧ w.at_ < S.length ∧ w.s.length = 128) : DiskP.may ⟨S, W, lf, b⟩ = true :=
  (DiskP.may_iff _).2 ⟨h1, h2, h3, h4, h5⟩

def writes : Nat → List Bytes → List Wr
  | _, [] => []
  | i, c :: l => ⟨i, c⟩ :: writes (i + 1) l
theorem writes_append (a b : List Bytes) : ∀ i, writes i (a ++ b) = writes i a ++ writes (i + a.length) b := by
  induction a with
  | nil => intro i; rfl
  | cons c a ih =>
    intro i
    rw [List.cons_append, writes, writes, ih, List.cons_append, List.length_cons, show i + 1 + a.length = i + (a.length + 1) by omega]
theorem writes_mem (l : List Bytes) : ∀ {i : Nat} {w : Wr}, w ∈ writes i l → (i : Int) ≤ w.at_ ∧ w.at_ < ((i + l.length : Nat) : Int) ∧ w.s ∈ l := by
  induction l with
  | nil => intro i w h; cases h
  | cons c l ih =>
    intro i w h
    rw [writes, List.mem_cons] at h
    rw [List.length_cons]
    rcases h with rfl | h
    · exact ⟨Int.le_refl _, by show (i : Int) < _; omega, by simp⟩
    · obtain ⟨h1, h2, h3⟩ := ih h
      exact ⟨by omega, by omega, by simp [h3]⟩
theorem doneGo_append (a b : List Wr) (S : List Bytes) : DiskP.doneGo S (a ++ b) = DiskP.doneGo (DiskP.doneGo S a) b := by
  simp [DiskP.doneGo, List.foldl_append]
theorem doneGo_writes (l : List Bytes) : ∀ (i : Nat) (S : List Bytes), i + l.length ≤ S.length → ∀ p, (DiskP.doneGo S (writes i l))[p]? = if i ≤ p ∧ p < i + l.length then l[p - i]? else S[p]? := by
  induction l with
  | nil => intro i S _ p; rw [if_neg (by simp), writes]; rfl
  | cons c l ih =>
    intro i S h p
    rw [List.length_cons] at h
    rw [writes, show (⟨(i : Int), c⟩ : Wr) :: writes (i + 1) l = [⟨(i : Int), c⟩] ++ writes (i + 1) l from rfl, doneGo_append]
    have e : DiskP.doneGo S [⟨(i : Int), c⟩] = S.set i c := by simp [DiskP.doneGo]
    rw [e, ih _ _ (by rw [List.length_set]; omega), List.length_cons]
    by_cases h1 : i + 1 ≤ p ∧ p < i + 1 + l.length
    · rw [if_pos h1, if_pos (by omega), show p - i = (p - (i + 1)) + 1 by omega, List.getElem?_cons_succ]
    · rw [if_neg h1]
      by_cases h2 : p = i
      · subst h2
        rw [if_pos (by omega), Nat.sub_self, List.getElem?_cons_zero, List.getElem?_set_self (by omega)]
      · rw [if_neg (by omega), List.getElem?_set_ne (fun e => h2 e.symm)]

theorem alive_of {d : Disk} (h : d.dead = false) (hl : d.left ≠ 0) : DiskP.alive d = true := by simp [DiskP.alive, h, hl]
theorem putGo_cases {n m : Nat} {s : Bytes} {i : Nat} (hs : s.length = 128 * m) (hi : i + m ≤ n) : ∀ (k j : Nat) (d : Disk), j + k = m → Live n d →
    (∃ lf, DiskP.putGo s i k j d = (⟨d.S, d.W ++ writes (i + j) ((List.range' j k).map (DiskP.sect s)), lf, false⟩, 0) ∧ -1 ≤ lf ∧ (d.left = -1 → lf = -1)) ∨
    (d.left ≠ -1 ∧ ∃ ws tl lf, DiskP.putGo s i k j d = (⟨d.S, d.W ++ ws, lf, true⟩, 14) ∧ -1 ≤ lf ∧ ws ++ tl = writes (i + j) ((List.range' j k).map (DiskP.sect s))) := by
  intro k
  induction k with
  | zero =>
    intro j d _ h
    have hm := (DiskP.may_iff d).1 h.may
    refine .inl ⟨d.left, ?_, hm.2.2.1, id⟩
    rw [DiskP.putGo]
    simp only [List.range'_zero, List.map_nil, writes, List.append_nil]
    rw [← h.dead]
  | succ k ih =>
    intro j d hj h
    have hm := (DiskP.may_iff d).1 h.may
    rw [DiskP.putGo]
    by_cases h0 : d.left = 0
    · refine .inr ⟨by omega, [], _, d.left, ?_, hm.2.2.1, rfl⟩
      have ha : DiskP.alive d = false := by simp [DiskP.alive, h0]
      rw [if_pos ha, List.append_nil]
      simp [DiskP.spent, h0]
    · have ha := alive_of h.dead h0
      rw [ha, if_neg (by simp)]
      obtain ⟨lf, hsp, hl1, hl2⟩ : ∃ lf, DiskP.spent d = { d with left := lf } ∧ -1 ≤ lf ∧ (d.left = -1 ↔ lf = -1) := by
        by_cases hp : 0 < d.left
        · exact ⟨d.left - 1, by simp [DiskP.spent, h.dead, h0, hp], by omega, by omega⟩
        · refine ⟨d.left, ?_, hm.2.2.1, Iff.rfl⟩
          rw [DiskP.spent, h.dead, if_neg (by simp [h0]), if_neg hp, ← h.dead]
      rw [hsp]
      have hn : Live n ⟨d.S, d.W ++ [⟨(i : Int) + (j : Int), DiskP.sect s j⟩], lf, d.dead⟩ := by
        refine ⟨may_mk hm.1 hm.2.1 hl1 hm.2.2.2.1 fun w hw => ?_, h.len, h.dead⟩
        rcases List.mem_append.1 hw with hw | hw
        · exact hm.2.2.2.2 w hw
        · simp only [List.mem_singleton] at hw
          subst hw
          exact ⟨by show (0 : Int) ≤ (i : Int) + (j : Int); omega, by show (i : Int) + (j : Int) < _; rw [h.len]; omega, DiskP.sect_len hs (by omega)⟩
      have hwr : writes (i + j) ((List.range' j (k + 1)).map (DiskP.sect s)) = ⟨(i : Int) + (j : Int), DiskP.sect s j⟩ :: writes (i + (j + 1)) ((List.range' (j + 1) k).map (DiskP.sect s)) := by
        rw [List.range'_succ, List.map_cons, writes]
        simp only [Int.natCast_add, Nat.add_assoc]
      rcases ih (j + 1) _ (by omega) hn with ⟨lf', q1, q2, q3⟩ | ⟨q0, ws, tl, lf', q1, q2, q3⟩
      · refine .inl ⟨lf', ?_, q2, fun e => q3 (hl2.1 e)⟩
        rw [q1, hwr]
        simp only [List.append_assoc, List.singleton_append]
      · refine .inr ⟨fun e => q0 (hl2.1 e), ⟨(i : Int) + (j : Int), DiskP.sect s j⟩ :: ws, tl, lf', ?_, q2, by rw [hwr, ← q3]; rfl⟩
        rw [q1]
        simp only [List.append_assoc, List.singleton_append]

/-- writes are done, or the power fails and some of them wait -/
theorem put_cases {n : Nat} {d : Disk} (h : Live n d) {s : Bytes} {i k : Nat} (hs : s.length = 128 * k) (hk : 0 < k) (hi : i + k ≤ n) :
    (∃ lf, DiskP.put d i s = (⟨d.S, d.W ++ writes i (chunks s k), lf, false⟩, 0) ∧ -1 ≤ lf ∧ (d.left = -1 → lf = -1)) ∨
    (d.left ≠ -1 ∧ ∃ ws tl lf, DiskP.put d i s = (⟨d.S, d.W ++ ws, lf, true⟩, 14) ∧ -1 ≤ lf ∧ ws ++ tl = writes i (chunks s k)) := by
  have e : DiskP.put d i s = DiskP.putGo s i k 0 d := by
    have h1 : (DiskP.may d = false || s.length == 0 || s.length % 128 != 0) = false := by
      rw [h.may, hs]
      simp
      omega
    have h2 : s.length / 128 = k := by omega
    have h3 : DiskP.there d i (k : Int) = true := by
      simp only [DiskP.there, Bool.and_eq_true, decide_eq_true_eq]
      rw [h.len]
      omega
    rw [DiskP.put, h1, h2, h3]
    rfl
  rw [e, chunks, List.range_eq_range']
  exact putGo_cases hs hi k 0 d (by omega) h
theorem barrier_cases {n : Nat} {d : Disk} (h : Live n d) :
    (∃ lf, DiskP.barrier d = (⟨DiskP.done d, [], lf, false⟩, 0) ∧ -1 ≤ lf ∧ (d.left = -1 → lf = -1)) ∨ (d.left ≠ -1 ∧ DiskP.barrier d = (⟨d.S, d.W, d.left, true⟩, 14)) := by
  have hm := (DiskP.may_iff d).1 h.may
  rw [DiskP.barrier, h.may]
  by_cases h0 : d.left = 0
  · refine .inr ⟨by omega, ?_⟩
    have ha : DiskP.alive d = false := by simp [DiskP.alive, h0]
    rw [if_neg (by simp), if_pos ha]
    simp [DiskP.spent, h0]
  · have ha := alive_of h.dead h0
    rw [if_neg (by simp), ha, if_neg (by simp)]
    by_cases hp : 0 < d.left
    · exact .inl ⟨d.left - 1, by simp [DiskP.spent, h.dead, h0, hp], by omega, by omega⟩
    · exact .inl ⟨d.left, by simp [DiskP.spent, h.dead, h0, hp], hm.2.2.1, id⟩
theorem Live.put {n : Nat} {d : Disk} (h : Live n d) {ws : List Wr} {lf : Int} (hl : -1 ≤ lf) (hw : ∀ w ∈ ws, 0 ≤ w.at_ ∧ w.at_ < (n : Int) ∧ w.s.length = 128) (b : Bool) : DiskP.may ⟨d.S, d.W ++ ws, lf, b⟩ = true := by
  have hm := (DiskP.may_iff d).1 h.may
  refine may_mk hm.1 hm.2.1 hl hm.2.2.2.1 fun w hx => ?_
  rcases List.mem_append.1 hx with hx | hx
  · exact hm.2.2.2.2 w hx
  · rw [h.len]; exact hw w hx
theorem writes_ok {i k : Nat} {s : Bytes} (hs : s.length = 128 * k) {ws tl : List Wr} (h : ws ++ tl = writes i (chunks s k)) : ∀ w ∈ ws, (i : Int) ≤ w.at_ ∧ w.at_ < ((i + k : Nat) : Int) ∧ w.s.length = 128 := by
  intro w hw
  obtain ⟨h1, h2, h3⟩ := writes_mem (chunks s k) (i := i) (w := w) (by rw [← h]; simp [hw])
  rw [chunks_len] at h2
  exact ⟨h1, h2, chunks_size hs _ h3⟩
theorem Live.done_sized {n : Nat} {d : Disk} (h : Live n d) : Sized (DiskP.done d) :=
  DiskP.doneGo_size d.W (fun w hw => (((DiskP.may_iff d).1 h.may).2.2.2.2 w hw).2.2) d.S h.sized
theorem Live.done_len {n : Nat} {d : Disk} (h : Live n d) : (DiskP.done d).length = n := by rw [DiskP.done, DiskP.doneGo_len, h.len]
theorem Live.barrier {n : Nat} {d : Disk} (h : Live n d) {lf : Int} (hl : -1 ≤ lf) : Live n ⟨DiskP.done d, [], lf, false⟩ := by
  have hm := (DiskP.may_iff d).1 h.may
  have e := h.done_len
  have e2 := h.len
  exact ⟨may_mk (by rw [e]; omega) (by rw [e]; omega) hl h.done_sized (by simp), e, rfl⟩

/-- a crash leaves the places to which nothing waits -/
theorem crashGo_ne (f : Fate) (ws : List Wr) : ∀ (i : Nat) (l : List Bytes) (p : Nat), (∀ w ∈ ws, w.at_.toNat ≠ p) → (DiskP.crashGo f i ws l)[p]? = l[p]? := by
  induction ws with
  | nil => intro i l p _; rfl
  | cons w ws ih =>
    intro i l p h
    rw [DiskP.crashGo, ih _ _ _ fun v hv => h v (by simp [hv]), List.getElem?_set_ne (h w (by simp))]
theorem kept_le (f : Fate) (i : Nat) : DiskP.kept f i ≤ 128 := by
  unfold DiskP.kept
  split
  · omega
  · split <;> omega
/-- what a crash leaves of a disk that may be -/
theorem crash_may {d : Disk} (f : Fate) (h : DiskP.may d = true) : Sized (DiskP.crash d f).S ∧ (DiskP.crash d f).S.length = d.S.length ∧ DiskP.crash d f = ⟨DiskP.crashGo f 0 d.W d.S, [], -1, false⟩ ∧ Live d.S.length (DiskP.crash d f) := by
  have hm := (DiskP.may_iff d).1 h
  have e : DiskP.crash d f = ⟨DiskP.crashGo f 0 d.W d.S, [], -1, false⟩ := by rw [DiskP.crash, h]; rfl
  have hs := (DiskP.crashGo_from f d.W 0 d.S hm.2.2.2.2 hm.2.2.2.1).1
  have hl := DiskP.crashGo_len f d.W 0 d.S
  rw [e]
  exact ⟨hs, hl, rfl, may_mk (by rw [hl]; exact hm.1) (by rw [hl]; exact hm.2.1) (by omega) hs (by simp), hl, rfl⟩

/-! ### An append -/

theorem noughts_len (n : Nat) : (noughts n).length = n := List.length_replicate
theorem rest_chunks {s : Bytes} (h : s.length ≤ 4000) : chunks (restB s ++ noughts 128) (secs s.length) = chunks (restB s) (secs s.length - 1) ++ [noughts 128] := by
  have hp := secs_pos h
  have := chunks_append (secs s.length - 1) 1 (restB s) (noughts 128) (by rw [restB_len h, Nat.mul_comm])
  rw [chunks_one (noughts_len 128), show secs s.length - 1 + 1 = secs s.length by omega] at this
  exact this
inductive Appended (d : Disk) (l : Log) (s : Bytes) : Disk → Log → Nat → Prop
  /-- all is done -/
  | ok (S' : List Bytes) (lf : Int) : -1 ≤ lf → (d.left = -1 → lf = -1) → Sized S' → S'.length = d.S.length → (∀ p, p < l.frm + l.at_ ∨ l.frm + l.at_ + secs s.length < p → S'[p]? = d.S[p]?) →
      At S' (l.frm + l.at_) (recS s l.seq) → S'[l.frm + l.at_ + secs s.length]? = some (noughts 128) → Appended d l s ⟨S', [], lf, false⟩ ⟨l.frm, l.len, l.at_ + secs s.length, l.seq + 1⟩ 0
  /-- the power fails while what is behind the first sector waits -/
  | early (ws : List Wr) (lf : Int) : d.left ≠ -1 → -1 ≤ lf → (∀ w ∈ ws, ((l.frm + l.at_ + 1 : Nat) : Int) ≤ w.at_ ∧ w.at_ < ((l.frm + l.at_ + 1 + secs s.length : Nat) : Int) ∧ w.s.length = 128) → Appended d l s ⟨d.S, ws, lf, true⟩ zeroL 14
  /-- the power fails while the first sector waits, or ahead of it -/
  | late (S1 : List Bytes) (ws : List Wr) (lf : Int) : d.left ≠ -1 → -1 ≤ lf → Sized S1 → S1.length = d.S.length → (∀ p, p < l.frm + l.at_ + 1 ∨ l.frm + l.at_ + secs s.length < p → S1[p]? = d.S[p]?) →
      At S1 (l.frm + l.at_ + 1) (chunks (restB s) (secs s.length - 1)) → S1[l.frm + l.at_ + secs s.length]? = some (noughts 128) → (ws = [] ∨ ws = [⟨((l.frm + l.at_ : Nat) : Int), firstB s l.seq⟩]) → Appended d l s ⟨S1, ws, lf, true⟩ zeroL 14

theorem runP_ok {d d' : Disk} {f : Disk → Disk × Nat} {fs : List (Disk → Disk × Nat)} (h : f d = (d', 0)) : runP d (f :: fs) = runP d' fs := by
  rw [runP, h, if_pos rfl]
theorem runP_no {d d' : Disk} {e : Nat} {f : Disk → Disk × Nat} {fs : List (Disk → Disk × Nat)} (h : f d = (d', e)) (he : e ≠ 0) : runP d (f :: fs) = (d', e) := by
  rw [runP, h, if_neg he]
theorem append_cases {n : Nat} {d : Disk} {l : Log} {s : Bytes} (h : Live n d) (hW : d.W = []) (hok : okL d l) (hs : s.length ≤ 4000) (hr : secs s.length + 1 + l.at_ ≤ l.len) :
    ∃ d' l' e, appendP d l s = (d', l', e) ∧ Appended d l s d' l' e ∧ DiskP.may d' = true := by
  obtain ⟨_, hfit, _, _, _, _⟩ := hok
  rw [h.len] at hfit
  have hp := secs_pos hs
  have hlen : (restB s ++ noughts 128).length = 128 * secs s.length := by
    rw [List.length_append, restB_len hs, noughts_len]
    omega
  have hm := (DiskP.may_iff d).1 h.may
  obtain ⟨a, ha⟩ : ∃ a, a = l.frm + l.at_ := ⟨_, rfl⟩
  have key : ∃ d' e, runP d [fun d => DiskP.put d ((a + 1 : Nat) : Int) (restB s ++ noughts 128), DiskP.barrier, fun d => DiskP.put d ((a : Nat) : Int) (firstB s l.seq), DiskP.barrier] = (d', e) ∧
      Appended d l s d' (if e = 0 then ⟨l.frm, l.len, l.at_ + secs s.length, l.seq + 1⟩ else zeroL) e ∧ DiskP.may d' = true := by
    rcases put_cases h (i := a + 1) hlen (by omega) (by omega) with ⟨lf, e1, l1, l1'⟩ | ⟨l0, ws, tl, lf, e1, l1, hws⟩
    · rw [hW, List.nil_append] at e1
      have hv : Live n ⟨d.S, writes (a + 1) (chunks (restB s ++ noughts 128) (secs s.length)), lf, false⟩ := by
        have := h.put (ws := writes (a + 1) (chunks (restB s ++ noughts 128) (secs s.length))) l1 (fun w hw => by
          obtain ⟨q1, q2, q3⟩ := writes_ok (tl := []) hlen (by rw [List.append_nil]) w hw
          exact ⟨by omega, by omega, q3⟩) false
        rw [hW, List.nil_append] at this
        exact ⟨this, h.len, rfl⟩
      rcases barrier_cases hv with ⟨lf2, e2, l2, l2'⟩ | ⟨l0, e2⟩
      · have hv2 := hv.barrier l2
        have hget : ∀ p, (DiskP.done ⟨d.S, writes (a + 1) (chunks (restB s ++ noughts 128) (secs s.length)), lf, false⟩)[p]? = if a + 1 ≤ p ∧ p < a + 1 + secs s.length then (chunks (restB s ++ noughts 128) (secs s.length))[p - (a + 1)]? else d.S[p]? := by
          intro p
          have := doneGo_writes (chunks (restB s ++ noughts 128) (secs s.length)) (a + 1) d.S (by rw [chunks_len, h.len]; omega) p
          rw [chunks_len] at this
          exact this
        obtain ⟨S1, hS1⟩ : ∃ S1, S1 = DiskP.done ⟨d.S, writes (a + 1) (chunks (restB s ++ noughts 128) (secs s.length)), lf, false⟩ := ⟨_, rfl⟩
        rw [← hS1] at hget hv2 e2
        have hS1len : S1.length = n := hv2.len
        have hout : ∀ p, p < a + 1 ∨ a + secs s.length < p → S1[p]? = d.S[p]? := fun p hp' => by rw [hget, if_neg (by omega)]
        have hAt : At S1 (a + 1) (chunks (restB s) (secs s.length - 1)) := by
          intro j hj
          rw [chunks_len] at hj
          rw [hget, if_pos (by omega), rest_chunks hs, Nat.add_sub_cancel_left, List.getElem?_append_left (by rw [chunks_len]; exact hj)]
        have hZ : S1[a + secs s.length]? = some (noughts 128) := by
          rw [hget, if_pos (by omega), rest_chunks hs, List.getElem?_append_right (by rw [chunks_len]; omega), chunks_len, show a + secs s.length - (a + 1) - (secs s.length - 1) = 0 by omega]
          rfl
        rcases put_cases hv2 (i := a) (s := firstB s l.seq) (k := 1) (by rw [firstB_len]) (by omega) (by omega) with ⟨lf3, e3, l3, l3'⟩ | ⟨l0, ws, tl, lf3, e3, l3, hws⟩
        · rw [List.nil_append, chunks_one (firstB_len s l.seq)] at e3
          have hv3 : Live n ⟨S1, [⟨(a : Int), firstB s l.seq⟩], lf3, false⟩ := by
            have := hv2.put (ws := [⟨(a : Int), firstB s l.seq⟩]) l3 (fun w hw => by
              simp only [List.mem_singleton] at hw; subst hw
              exact ⟨by show (0 : Int) ≤ (a : Int); omega, by show (a : Int) < (n : Int); omega, firstB_len s l.seq⟩) false
            exact ⟨this, hv2.len, rfl⟩
          rcases barrier_cases hv3 with ⟨lf4, e4, l4, l4'⟩ | ⟨l0, e4⟩
          · have hv4 := hv3.barrier l4
            refine ⟨_, _, (runP_ok e1).trans ((runP_ok e2).trans ((runP_ok e3).trans ((runP_ok e4).trans rfl))), ?_, hv4.may⟩
            have hget4 : ∀ p, (DiskP.done ⟨S1, [⟨(a : Int), firstB s l.seq⟩], lf3, false⟩)[p]? = if a ≤ p ∧ p < a + 1 then [firstB s l.seq][p - a]? else S1[p]? :=
              doneGo_writes [firstB s l.seq] a S1 (by rw [hS1len]; simp; omega)
            rw [if_pos rfl]
            refine Appended.ok _ _ l4 (fun e => l4' (l3' (l2' (l1' e)))) hv4.sized (by rw [hv4.len, h.len]) (fun p hp' => ?_) ?_ ?_
            · rw [← ha] at hp'
              rw [hget4, if_neg (by omega), hout p (by omega)]
            · rw [← ha, recS, show firstB s l.seq :: chunks (restB s) (secs s.length - 1) = [firstB s l.seq] ++ chunks (restB s) (secs s.length - 1) from rfl, at_append]
              refine ⟨at_one ?_, hAt.agree fun j hj _ => ?_⟩
              · rw [hget4, if_pos (by omega), Nat.sub_self]; rfl
              · rw [hget4, if_neg (by omega)]
            · rw [← ha, hget4, if_neg (by omega)]; exact hZ
          · refine ⟨_, _, (runP_ok e1).trans ((runP_ok e2).trans ((runP_ok e3).trans (runP_no e4 (by decide)))), ?_, ?_⟩
            · rw [if_neg (by decide)]
              exact Appended.late _ _ _ (fun e => l0 (l3' (l2' (l1' e)))) l3 hv2.sized (by rw [hS1len, h.len]) (by rw [← ha]; exact hout) (by rw [← ha]; exact hAt) (by rw [← ha]; exact hZ) (.inr (by rw [ha]))
            · have := (DiskP.may_iff _).1 hv3.may
              exact may_mk this.1 this.2.1 this.2.2.1 this.2.2.2.1 this.2.2.2.2
        · rw [List.nil_append] at e3
          refine ⟨_, _, (runP_ok e1).trans ((runP_ok e2).trans (runP_no e3 (by decide))), ?_, ?_⟩
          · rw [if_neg (by decide)]
            refine Appended.late _ _ _ (fun e => l0 (l2' (l1' e))) l3 hv2.sized (by rw [hS1len, h.len]) (by rw [← ha]; exact hout) (by rw [← ha]; exact hAt) (by rw [← ha]; exact hZ) ?_
            rw [chunks_one (firstB_len s l.seq), show writes a [firstB s l.seq] = [⟨(a : Int), firstB s l.seq⟩] from rfl] at hws
            rw [← ha]
            cases ws with
            | nil => exact .inl rfl
            | cons w ws =>
              rw [List.cons_append, List.cons.injEq] at hws
              have := List.append_eq_nil_iff.1 hws.2
              rw [this.1, hws.1]
              exact .inr rfl
          · have := hv2.put (ws := ws) l3 (fun w hw => by
              obtain ⟨q1, q2, q3⟩ := writes_ok (k := 1) (by rw [firstB_len]) hws w hw
              exact ⟨by omega, by omega, q3⟩) true
            exact this
      · refine ⟨_, _, (runP_ok e1).trans (runP_no e2 (by decide)), ?_, ?_⟩
        · rw [if_neg (by decide)]
          refine Appended.early _ _ (fun e => l0 (l1' e)) l1 fun w hw => ?_
          obtain ⟨q1, q2, q3⟩ := writes_ok (tl := []) hlen (by rw [List.append_nil]) w hw
          rw [← ha]
          exact ⟨q1, q2, q3⟩
        · have := (DiskP.may_iff _).1 hv.may
          exact may_mk this.1 this.2.1 this.2.2.1 this.2.2.2.1 this.2.2.2.2
    · rw [hW, List.nil_append] at e1
      refine ⟨_, _, runP_no e1 (by decide), ?_, ?_⟩
      · rw [if_neg (by decide)]
        refine Appended.early _ _ l0 l1 fun w hw => ?_
        obtain ⟨q1, q2, q3⟩ := writes_ok hlen hws w hw
        rw [← ha]
        exact ⟨q1, q2, q3⟩
      · have := h.put (ws := ws) l1 (fun w hw => by
          obtain ⟨q1, q2, q3⟩ := writes_ok hlen hws w hw
          exact ⟨by omega, by omega, q3⟩) true
        rw [hW, List.nil_append] at this
        exact this
  obtain ⟨d', e, h1, h2, h3⟩ := key
  refine ⟨d', _, e, ?_, h2, h3⟩
  rw [appendP, if_neg (by omega), if_neg (by omega)]
  simp only [← ha, h1]
  by_cases he : e = 0
  · rw [if_pos he, if_pos he, he]
  · rw [if_neg he, if_neg he]
end Go.Proofs.Yteoiadfcchalfaa.LogP
