/- What a log holds behind an append, and behind a crash: plain laws. -/
import Derived.Test.YteoiadfcchalfaaLogDisk
namespace Go.Proofs.Yteoiadfcchalfaa.LogP
open DiskP (Bytes Disk Wr Fate noughts)

/-- a quiet, living disk whose log holds just these records, and the log that stands at their end -/
structure Holds (n : Nat) (d : Disk) (frm len at0 q0 : Nat) (recs : List Bytes) (l : Log) : Prop where
  live : Live n d
  quiet : d.W = []
  has : Has d.S frm len at0 q0 recs
  log : l = ⟨frm, len, at0 + sum recs, q0 + recs.length⟩
  q1 : 1 ≤ q0
  len2 : 2 ≤ len

section
variable {n frm len at0 q0 : Nat} {d : Disk} {recs : List Bytes} {l : Log}
theorem Holds.okL (h : Holds n d frm len at0 q0 recs l) (hq : q0 + recs.length ≤ maxSeq) : okL d l := by
  rw [h.log]
  exact ⟨h.live.may, h.has.fits, h.len2, h.has.room, by show 1 ≤ q0 + recs.length; have := h.q1; omega, hq⟩
theorem Holds.ok0 (h : Holds n d frm len at0 q0 recs l) (hq : q0 ≤ maxSeq) : LogP.okL d ⟨frm, len, at0, q0⟩ :=
  ⟨h.live.may, h.has.fits, h.len2, by have := h.has.room; show at0 < len; omega, h.q1, hq⟩
theorem read_quiet (hl : Live n d) (hW : d.W = []) (hf : frm + len ≤ d.S.length) (h2 : 2 ≤ len) : DiskP.read d frm len = (((d.S.drop frm).take len).flatten, 0) := by
  have ht : DiskP.there d (frm : Int) (len : Int) = true := by
    simp only [DiskP.there, Bool.and_eq_true, decide_eq_true_eq]
    omega
  rw [DiskP.read]
  simp [hl.may, hl.dead, ht, DiskP.done, hW, DiskP.doneGo]
theorem Holds.scan (h : Holds n d frm len at0 q0 recs l) : scanP d ⟨frm, len, at0, q0⟩ = (recs, l, 0) := by
  have e := read_quiet h.live h.quiet h.has.fits h.len2
  rw [scanP]
  simp only
  rw [e, if_pos rfl, scanGo_has recs h.has (by omega), h.log]

/-- what a crash leaves where no write waits -/
theorem Holds.crash (h : Holds n d frm len at0 q0 recs l) (f : Fate) : Holds n (DiskP.crash d f) frm len at0 q0 recs l := by
  have e := DiskP.crash_quiet f h.live.may h.quiet
  have hl := (crash_may f h.live.may).2.2.2
  rw [h.live.len] at hl
  exact ⟨hl, by rw [e], by rw [e]; exact h.has, h.log, h.q1, h.len2⟩

theorem noughts_last {c : Bytes} (h : c = noughts 128) : c.getD 127 0 ≠ 1 := by rw [h]; decide

theorem Holds.budget (h : Holds n d frm len at0 q0 recs l) {k : Int} (hk : -1 ≤ k) : Holds n { d with left := k } frm len at0 q0 recs l := by
  have hm := (DiskP.may_iff d).1 h.live.may
  exact ⟨⟨(DiskP.may_iff _).2 ⟨hm.1, hm.2.1, hk, hm.2.2.2⟩, h.live.len, h.live.dead⟩, h.quiet, h.has, h.log, h.q1, h.len2⟩

/-- an append to such a log -/
theorem Holds.append (h : Holds n d frm len at0 q0 recs l) (hq : q0 + recs.length ≤ maxSeq) (s : Bytes) :
    (4000 < s.length ∧ appendP d l s = (DiskP.zero, zeroL, 1)) ∨
    (s.length ≤ 4000 ∧ ¬ at0 + sum recs + secs s.length < len ∧ appendP d l s = (DiskP.zero, zeroL, 13)) ∨
    (s.length ≤ 4000 ∧ at0 + sum recs + secs s.length < len ∧ ∃ d' l' e, appendP d l s = (d', l', e) ∧
      ((e = 0 ∧ Holds n d' frm len at0 q0 (recs ++ [s]) l' ∧ (d.left = -1 → d'.left = -1)) ∨
       (e = 14 ∧ d.left ≠ -1 ∧ l' = zeroL ∧ DiskP.may d' = true ∧ ∀ f : Fate, Holds n (DiskP.crash d' f) frm len at0 q0 recs l ∨ Holds n (DiskP.crash d' f) frm len at0 q0 (recs ++ [s]) ⟨frm, len, at0 + sum recs + secs s.length, q0 + recs.length + 1⟩))) := by
  by_cases hs : 4000 < s.length
  · exact .inl ⟨hs, by rw [appendP, if_pos hs]⟩
  by_cases hr : at0 + sum recs + secs s.length < len
  · refine .inr (.inr ⟨by omega, hr, ?_⟩)
    have hok := h.okL hq
    have hl := h.log
    subst hl
    obtain ⟨d', l', e, he, hA, hm'⟩ := append_cases (s := s) h.live h.quiet hok (by omega) (by show secs s.length + 1 + (at0 + sum recs) ≤ len; omega)
    refine ⟨d', l', e, he, ?_⟩
    have hsum : sum (recs ++ [s]) = sum recs + secs s.length := by rw [sum_append, sum_cons, sum_nil, Nat.add_zero]
    have hln := h.live.len
    have hfit := h.has.fits
    have hsz := h.live.sized
    have hend : ∀ S', Has S' frm len at0 q0 (recs ++ [s]) → (⟨frm, len, at0 + sum recs + secs s.length, q0 + recs.length + 1⟩ : Log) = ⟨frm, len, at0 + sum (recs ++ [s]), q0 + (recs ++ [s]).length⟩ := fun _ _ => by
      rw [hsum, List.length_append, List.length_singleton]; simp only [Log.mk.injEq, true_and]; omega
    cases hA with
    | ok S' lf h1 h2 h3 h4 h5 h6 h7 =>
      simp only at h5 h6 h7
      have hH : Has S' frm len at0 q0 (recs ++ [s]) := h.has.snoc h3 h4 (fun j j1 j2 => h5 j (.inl (by omega))) (by omega) hr hq (by rw [Nat.add_assoc]; exact h6) (fun c hc => noughts_last (by
        rw [Nat.add_assoc frm at0 (sum recs)] at hc
        rw [h7] at hc; exact (Option.some.inj hc).symm))
      exact .inl ⟨rfl, ⟨⟨may_mk (by rw [h4]; exact ((DiskP.may_iff d).1 h.live.may).1) (by rw [h4]; exact ((DiskP.may_iff d).1 h.live.may).2.1) h1 h3 (fun w hw => by cases hw), by rw [← hln, ← h4], rfl⟩, rfl, hH, hend S' hH, h.q1, h.len2⟩, h2⟩
    | early ws lf h1 h2 h3 =>
      simp only at h3
      refine .inr ⟨rfl, h1, rfl, hm', fun f => .inl ?_⟩
      obtain ⟨c1, c2, c3, c4⟩ := crash_may f hm'
      have hS : (DiskP.crash ⟨d.S, ws, lf, true⟩ f).S = DiskP.crashGo f 0 ws d.S := by rw [c3]
      have far : ∀ p, p ≤ frm + at0 + sum recs → (DiskP.crash ⟨d.S, ws, lf, true⟩ f).S[p]? = d.S[p]? := fun p hp => by
        rw [hS]
        exact crashGo_ne f ws 0 d.S p fun w hw => by have := (h3 w hw).1; omega
      have c4' : Live n (DiskP.crash ⟨d.S, ws, lf, true⟩ f) := by rw [← hln]; exact c4
      exact ⟨c4', by rw [c3], h.has.agree c1 c2 (fun j j1 j2 => far j (by omega)) (fun c hc => h.has.stop c (by rw [← far _ (Nat.le_refl _)]; exact hc)), rfl, h.q1, h.len2⟩
    | late S1 ws lf h1 h2 h3 h4 h5 h6 h7 h8 =>
      simp only at h5 h6 h7 h8
      refine .inr ⟨rfl, h1, rfl, hm', fun f => ?_⟩
      obtain ⟨c1, c2, c3, c4⟩ := crash_may f hm'
      simp only at c2 c4
      have c4' : Live n (DiskP.crash ⟨S1, ws, lf, true⟩ f) := by rw [← hln, ← h4]; exact c4
      have hS : (DiskP.crash ⟨S1, ws, lf, true⟩ f).S = DiskP.crashGo f 0 ws S1 := by rw [c3]
      have hWq : (DiskP.crash ⟨S1, ws, lf, true⟩ f).W = [] := by rw [c3]
      generalize DiskP.crash ⟨S1, ws, lf, true⟩ f = D at c1 c2 c4' hS hWq ⊢
      have c2' : D.S.length = d.S.length := c2.trans h4
      rcases h8 with rfl | rfl
      · rw [DiskP.crashGo] at hS
        refine .inl ⟨c4', hWq, h.has.agree c1 c2' (fun j j1 j2 => by rw [hS]; exact h5 j (.inl (by omega))) (fun c hc => h.has.stop c (by rw [← h5 _ (.inl (by omega)), ← hS]; exact hc)), rfl, h.q1, h.len2⟩
      · have hp : ((frm + (at0 + sum recs) : Nat) : Int).toNat = frm + (at0 + sum recs) := Int.toNat_natCast _
        rw [DiskP.crashGo, DiskP.crashGo] at hS
        simp only [hp] at hS
        have hin : frm + (at0 + sum recs) < S1.length := by rw [h4]; omega
        have hother : ∀ p, p ≠ frm + (at0 + sum recs) → D.S[p]? = S1[p]? := fun p hpn => by rw [hS, List.getElem?_set_ne (Ne.symm hpn)]
        have hat : D.S[frm + (at0 + sum recs)]? = some ((firstB s (q0 + recs.length)).take (DiskP.kept f 0) ++ (S1.getD (frm + (at0 + sum recs)) []).drop (DiskP.kept f 0)) := by
          rw [hS, List.getElem?_set_self hin]
        by_cases hk : DiskP.kept f 0 = 128
        · refine .inr ?_
          have hfull : D.S[frm + (at0 + sum recs)]? = some (firstB s (q0 + recs.length)) := by
            rw [hat, hk, List.take_of_length_le (by rw [firstB_len]; omega), List.drop_of_length_le (by
              rw [List.getD_eq_getElem?_getD, List.getElem?_eq_getElem hin, Option.getD_some, h3 _ (List.getElem_mem hin)]; omega), List.append_nil]
          have hsp := secs_pos (show s.length ≤ 4000 by omega)
          have hH : Has D.S frm len at0 q0 (recs ++ [s]) := h.has.snoc c1 c2' (fun j j1 j2 => by rw [hother j (by omega)]; exact h5 j (.inl (by omega))) (by omega) hr hq (by
              intro j hj
              rw [recS_len _ (by omega)] at hj
              cases j with
              | zero => rw [recS, Nat.add_zero, Nat.add_assoc]; exact hfull
              | succ j =>
                rw [hother _ (by omega), recS, List.getElem?_cons_succ, ← h6 j (by rw [chunks_len]; omega)]
                congr 1; omega) (fun c hc => noughts_last (by
              rw [hother _ (by omega), Nat.add_assoc frm at0 (sum recs), h7] at hc
              exact (Option.some.inj hc).symm))
          exact ⟨c4', hWq, hH, hend D.S hH, h.q1, h.len2⟩
        · have hlt : DiskP.kept f 0 < 128 := by have := kept_le f 0; omega
          refine .inl ⟨c4', hWq, h.has.agree c1 c2' (fun j j1 j2 => by rw [hother j (by omega)]; exact h5 j (.inl (by omega))) (fun c hc => ?_), rfl, h.q1, h.len2⟩
          rw [Nat.add_assoc, hat] at hc
          have hc' := (Option.some.inj hc).symm
          have hold : S1[frm + (at0 + sum recs)]? = d.S[frm + (at0 + sum recs)]? := h5 _ (.inl (by omega))
          have hget : d.S[frm + (at0 + sum recs)]? = some (S1.getD (frm + (at0 + sum recs)) []) := by
            rw [← hold, List.getD_eq_getElem?_getD, List.getElem?_eq_getElem hin, Option.getD_some]
          have hstop := h.has.stop _ (by rw [Nat.add_assoc]; exact hget)
          have hlast : c.getD 127 0 = (S1.getD (frm + (at0 + sum recs)) []).getD 127 0 := by
            rw [hc', List.getD_eq_getElem?_getD, List.getElem?_append_right (by rw [List.length_take]; omega), List.length_take, firstB_len, Nat.min_eq_left (by omega), List.getElem?_drop, show DiskP.kept f 0 + (127 - DiskP.kept f 0) = 127 by omega, List.getD_eq_getElem?_getD, List.getD_eq_getElem?_getD]
          rw [hlast]; exact hstop
  · refine .inr (.inl ⟨by omega, hr, ?_⟩)
    rw [appendP, if_neg hs, h.log, if_pos (by show len < secs s.length + 1 + (at0 + sum recs); omega)]

/-- a log that is cleared behind its first records -/
theorem Holds.clear {a b : List Bytes} (h : Holds n d frm len at0 q0 (a ++ b) l) (hl : d.left = -1) :
    ∃ d', clearP d ⟨frm, len, at0 + sum a, q0 + a.length⟩ = (d', 0) ∧ Holds n d' frm len at0 q0 a ⟨frm, len, at0 + sum a, q0 + a.length⟩ ∧ d'.left = -1 := by
  have hr := h.has.room
  have hfit := h.has.fits
  rw [sum_append] at hr
  have hln := h.live.len
  have h128 : (noughts 128).length = 128 * 1 := by rw [noughts_len]
  rcases put_cases h.live h128 (Nat.one_pos) (i := frm + (at0 + sum a)) (by omega) with ⟨lf, e1, l1, l2⟩ | ⟨hne, _⟩
  · have hL : Live n ⟨d.S, d.W ++ writes (frm + (at0 + sum a)) (chunks (noughts 128) 1), lf, false⟩ :=
      ⟨h.live.put l1 (fun w hw => by
        obtain ⟨q1, q2, q3⟩ := writes_ok (tl := []) h128 (by rw [List.append_nil]) w hw
        exact ⟨by omega, by omega, q3⟩) false, hln, rfl⟩
    rcases barrier_cases hL with ⟨lf', e2, l3, l4⟩ | ⟨hne, _⟩
    · have hlf' : lf' = -1 := l4 (l2 hl)
      subst hlf'
      refine ⟨_, by rw [clearP, runP_ok e1, runP_ok e2]; rfl, ⟨hL.barrier l3, rfl, ?_, rfl, h.q1, h.len2⟩, rfl⟩
      have hone : chunks (noughts 128) 1 = [noughts 128] := by decide
      have hS : DiskP.done ⟨d.S, d.W ++ writes (frm + (at0 + sum a)) (chunks (noughts 128) 1), lf, false⟩ = DiskP.doneGo d.S (writes (frm + (at0 + sum a)) [noughts 128]) := by
        rw [DiskP.done, h.quiet, List.nil_append, hone]
      have hget := doneGo_writes [noughts 128] (frm + (at0 + sum a)) d.S (by simp; omega)
      refine h.has.cut hL.done_sized (by rw [hL.done_len, hln]) (fun j j1 j2 => ?_) (fun c hc => ?_)
      · show (DiskP.done _)[j]? = _
        rw [hS, hget, if_neg (by omega)]
      · have hc' : (DiskP.done ⟨d.S, d.W ++ writes (frm + (at0 + sum a)) (chunks (noughts 128) 1), lf, false⟩)[frm + at0 + sum a]? = some c := hc
        rw [hS, hget, if_pos (by simp; omega), Nat.add_assoc, Nat.sub_self] at hc'
        exact noughts_last (Option.some.inj hc').symm
    · exact absurd (l2 hl) hne
  · exact absurd hl hne
end
end Go.Proofs.Yteoiadfcchalfaa.LogP
