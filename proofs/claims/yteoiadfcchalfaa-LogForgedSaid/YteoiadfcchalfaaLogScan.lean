/- Plain laws of layer 18 (log), part 2: the functions of a log; what a log has that holds some records, and no other behind them. No program in sight. -/
import Derived.Test.YteoiadfcchalfaaLogRec
namespace Go.Proofs.Yteoiadfcchalfaa.LogP
open DiskP (Bytes Disk noughts)

def maxSeq : Nat := 4611686018427387903
structure Log where
  frm : Nat
  len : Nat
  at_ : Nat
  seq : Nat
def zeroL : Log := ⟨0, 0, 0, 0⟩
/-- may a log be on a disk? -/
def okL (d : Disk) (l : Log) : Prop := DiskP.may d = true ∧ l.frm + l.len ≤ d.S.length ∧ 2 ≤ l.len ∧ l.at_ < l.len ∧ 1 ≤ l.seq ∧ l.seq ≤ maxSeq

/-- steps, one behind the other, up to the first one that fails -/
def runP (d : Disk) : List (Disk → Disk × Nat) → Disk × Nat
  | [] => (d, 0)
  | f :: fs => if (f d).2 = 0 then runP (f d).1 fs else f d
def appendP (d : Disk) (l : Log) (s : Bytes) : Disk × Log × Nat :=
  if 4000 < s.length then (DiskP.zero, zeroL, 1)
  else if l.len < secs s.length + 1 + l.at_ then (DiskP.zero, zeroL, 13)
  else
    let r := runP d [fun d => DiskP.put d ((l.frm + l.at_ + 1 : Nat) : Int) (restB s ++ noughts 128), DiskP.barrier, fun d => DiskP.put d ((l.frm + l.at_ : Nat) : Int) (firstB s l.seq), DiskP.barrier]
    if r.2 = 0 then (r.1, ⟨l.frm, l.len, l.at_ + secs s.length, l.seq + 1⟩, 0) else (r.1, zeroL, r.2)
def scanGo (all : Bytes) : Nat → Nat → Nat → List Bytes × Nat × Nat
  | 0, at_, q => ([], at_, q)
  | f + 1, at_, q =>
    if maxSeq < q then ([], at_, q)
    else match recordB (all.drop (128 * at_)) q with
      | none => ([], at_, q)
      | some s => (s :: (scanGo all f (at_ + secs s.length) (q + 1)).1, (scanGo all f (at_ + secs s.length) (q + 1)).2)
def scanP (d : Disk) (l : Log) : List Bytes × Log × Nat :=
  if (DiskP.read d l.frm l.len).2 = 0 then
    ((scanGo (DiskP.read d l.frm l.len).1 l.len l.at_ l.seq).1, ⟨l.frm, l.len, (scanGo (DiskP.read d l.frm l.len).1 l.len l.at_ l.seq).2.1, (scanGo (DiskP.read d l.frm l.len).1 l.len l.at_ l.seq).2.2⟩, 0)
  else ([], zeroL, (DiskP.read d l.frm l.len).2)
def clearP (d : Disk) (l : Log) : Disk × Nat := runP d [fun d => DiskP.put d ((l.frm + l.at_ : Nat) : Int) (noughts 128), DiskP.barrier]

/-- On the sectors S a log that begins at place frm+at0 with number q0, of len sectors, has just these records: behind them stands no record. -/
structure Has (S : List Bytes) (frm len at0 q0 : Nat) (l : List Bytes) : Prop where
  sized : Sized S
  fits : frm + len ≤ S.length
  room : at0 + sum l < len
  recs : Rec l
  holds : At S (frm + at0) (layS q0 l)
  stop : ∀ c, S[frm + at0 + sum l]? = some c → c.getD 127 0 ≠ 1
  seqs : q0 + l.length ≤ maxSeq + 1

theorem scanGo_has {S : List Bytes} {frm len : Nat} (l : List Bytes) : ∀ {at0 q0 f : Nat}, Has S frm len at0 q0 l → len ≤ at0 + f → scanGo ((S.drop frm).take len).flatten f at0 q0 = (l, at0 + sum l, q0 + l.length) := by
  induction l with
  | nil =>
    intro at0 q0 f h hf
    have hr := h.room
    rw [sum_nil] at hr
    cases f with
    | zero => rfl
    | succ f =>
      rw [scanGo]
      split
      · rfl
      · rw [record_last]
        · rfl
        · rw [Sized.drop_flatten at0 ((h.sized.drop frm).take len), List.drop_take, List.drop_drop]
          have hlt : frm + at0 < S.length := by have := h.fits; omega
          have hst := h.stop S[frm + at0] (by rw [sum_nil, Nat.add_zero, List.getElem?_eq_getElem hlt])
          have hsz := h.sized S[frm + at0] (List.getElem_mem hlt)
          rw [List.drop_eq_getElem_cons hlt, show len - at0 = (len - at0 - 1) + 1 by omega, List.take_succ_cons, List.flatten_cons]
          rw [List.getD_eq_getElem?_getD, List.getElem?_append_left (by omega), ← List.getD_eq_getElem?_getD]
          exact hst
  | cons s l ih =>
    intro at0 q0 f h hf
    have hr := h.room
    rw [sum_cons] at hr
    have hs := h.recs s (by simp)
    have hp := secs_pos hs
    have hq := h.seqs
    rw [List.length_cons] at hq
    have hh := h.holds
    rw [layS, at_append, recS_len q0 hs] at hh
    cases f with
    | zero => omega
    | succ f =>
      have hn : Has S frm len (at0 + secs s.length) (q0 + 1) l := ⟨h.sized, h.fits, by omega, fun t ht => h.recs t (by simp [ht]), by rw [← Nat.add_assoc]; exact hh.2, fun c hc => h.stop c (by rw [sum_cons, ← hc]; congr 1; omega), by omega⟩
      rw [scanGo, if_neg (by omega)]
      have hall : (((S.drop frm).take len).flatten.drop (128 * at0)) = firstB s q0 ++ (restB s ++ ((S.drop (frm + at0 + secs s.length)).take (len - at0 - secs s.length)).flatten) := by
        rw [Sized.drop_flatten at0 ((h.sized.drop frm).take len), List.drop_take, List.drop_drop, hh.1.is (m := len - at0) (by rw [recS_len q0 hs]; omega), List.flatten_append, recS_flatten q0 hs, recS_len q0 hs, List.append_assoc]
      rw [hall, record_lay q0 hs]
      · simp only
        rw [ih hn (by omega), sum_cons, List.length_cons]
        refine Prod.ext rfl (Prod.ext ?_ ?_)
        · show at0 + secs s.length + sum l = at0 + (secs s.length + sum l); omega
        · show q0 + 1 + l.length = q0 + (l.length + 1); omega
      · rw [((h.sized.drop _).take _).flatten_len, List.length_take, List.length_drop]
        have := h.fits
        omega
/-- by another number a log has nothing -/
theorem scanGo_other {S : List Bytes} {frm len at0 q0 q f : Nat} {s : Bytes} {l : List Bytes} (h : Has S frm len at0 q0 (s :: l)) (hq0 : q0 ≤ maxSeq) (hq : q ≤ maxSeq) (hne : q0 ≠ q) : scanGo ((S.drop frm).take len).flatten f at0 q = ([], at0, q) := by
  have hr := h.room
  rw [sum_cons] at hr
  have hs := h.recs s (by simp)
  have hh := h.holds
  rw [layS, at_append, recS_len q0 hs] at hh
  unfold maxSeq at hq hq0
  cases f with
  | zero => rfl
  | succ f =>
    rw [scanGo]
    split
    · rfl
    · rw [Sized.drop_flatten at0 ((h.sized.drop frm).take len), List.drop_take, List.drop_drop, hh.1.is (m := len - at0) (by rw [recS_len q0 hs]; omega), List.flatten_append, recS_flatten q0 hs, List.append_assoc, record_other (by omega) (by omega) hne]

theorem Has.agree {S T : List Bytes} {frm len at0 q0 : Nat} {l : List Bytes} (h : Has S frm len at0 q0 l) (hT : Sized T) (hl : T.length = S.length) (ha : ∀ j, frm + at0 ≤ j → j < frm + at0 + sum l → T[j]? = S[j]?)
    (hst : ∀ c, T[frm + at0 + sum l]? = some c → c.getD 127 0 ≠ 1) : Has T frm len at0 q0 l :=
  ⟨hT, by rw [hl]; exact h.fits, h.room, h.recs, h.holds.agree (by rw [layS_len l q0 h.recs]; exact ha), hst, h.seqs⟩
theorem Has.snoc {S T : List Bytes} {frm len at0 q0 : Nat} {l : List Bytes} {s : Bytes} (h : Has S frm len at0 q0 l) (hT : Sized T) (hl : T.length = S.length) (ha : ∀ j, frm + at0 ≤ j → j < frm + at0 + sum l → T[j]? = S[j]?)
    (hs : s.length ≤ 4000) (hr : at0 + sum l + secs s.length < len) (hq : q0 + l.length ≤ maxSeq) (hat : At T (frm + at0 + sum l) (recS s (q0 + l.length)))
    (hst : ∀ c, T[frm + at0 + sum l + secs s.length]? = some c → c.getD 127 0 ≠ 1) : Has T frm len at0 q0 (l ++ [s]) := by
  have e : sum (l ++ [s]) = sum l + secs s.length := by rw [sum_append, sum_cons, sum_nil, Nat.add_zero]
  refine ⟨hT, by rw [hl]; exact h.fits, by rw [e]; omega, ?_, ?_, ?_, by rw [List.length_append, List.length_singleton]; omega⟩
  · intro t ht
    rcases List.mem_append.1 ht with ht | ht
    · exact h.recs t ht
    · simp only [List.mem_singleton] at ht; subst ht; exact hs
  · rw [layS_append, at_append, layS_len l q0 h.recs]
    refine ⟨h.holds.agree (by rw [layS_len l q0 h.recs]; exact ha), ?_⟩
    rw [layS, layS, List.append_nil]
    exact hat
  · rw [e, ← Nat.add_assoc]
    exact hst
theorem Has.tail {S : List Bytes} {frm len at0 q0 : Nat} {a b : List Bytes} (h : Has S frm len at0 q0 (a ++ b)) : Has S frm len (at0 + sum a) (q0 + a.length) b := by
  have hr := h.room
  have hq := h.seqs
  have ha : Rec a := fun t ht => h.recs t (by simp [ht])
  rw [sum_append] at hr
  rw [List.length_append] at hq
  have hh := h.holds
  rw [layS_append, at_append, layS_len a q0 ha] at hh
  exact ⟨h.sized, h.fits, by omega, fun t ht => h.recs t (by simp [ht]), by rw [← Nat.add_assoc]; exact hh.2, fun c hc => h.stop c (by rw [sum_append, ← hc]; congr 1; omega), by omega⟩
/-- what is cleared behind the first ones -/
theorem Has.cut {S T : List Bytes} {frm len at0 q0 : Nat} {a b : List Bytes} (h : Has S frm len at0 q0 (a ++ b)) (hT : Sized T) (hl : T.length = S.length) (ha : ∀ j, frm + at0 ≤ j → j < frm + at0 + sum a → T[j]? = S[j]?)
    (hst : ∀ c, T[frm + at0 + sum a]? = some c → c.getD 127 0 ≠ 1) : Has T frm len at0 q0 a := by
  have hr := h.room
  have hq := h.seqs
  have har : Rec a := fun t ht => h.recs t (by simp [ht])
  rw [sum_append] at hr
  rw [List.length_append] at hq
  have hh := h.holds
  rw [layS_append, at_append, layS_len a q0 har] at hh
  exact ⟨hT, by rw [hl]; exact h.fits, by omega, har, hh.1.agree (by rw [layS_len a q0 har]; exact ha), hst, by omega⟩
theorem has_none {S : List Bytes} {frm len at0 q0 : Nat} (hS : Sized S) (hf : frm + len ≤ S.length) (h0 : at0 < len) (hq : q0 ≤ maxSeq + 1) (hst : ∀ c, S[frm + at0]? = some c → c.getD 127 0 ≠ 1) : Has S frm len at0 q0 [] :=
  ⟨hS, hf, by rw [sum_nil]; omega, by simp [Rec], At.nil, by rw [sum_nil]; exact hst, by simpa using hq⟩
end Go.Proofs.Yteoiadfcchalfaa.LogP
