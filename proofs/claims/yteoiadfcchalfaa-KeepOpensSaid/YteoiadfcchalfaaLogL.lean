/- What the laws of layer 18 share: an append to a log that holds records; lists of logs in memory. -/
import Derived.Test.YteoiadfcchalfaaKeepLaw
import Derived.Test.YteoiadfcchalfaaLogF
import Derived.Test.YteoiadfcchalfaaLogAw
namespace Go.Proofs.Yteoiadfcchalfaa
open Go.RowKit
open DiskP (Bytes Disk Wr Fate noughts)
open LogP (Log zeroL Live okL Holds)
set_option linter.unusedVariables false

namespace LogP
theorem holds_new {n frm len q : Nat} (h1 : 1 ≤ n) (h2 : n ≤ 4000) (hf : frm + len ≤ n) (hl : 2 ≤ len) (hq : 1 ≤ q) (hq2 : q ≤ maxSeq) : Holds n (DiskP.new n) frm len 0 q [] ⟨frm, len, 0, q⟩ := by
  have hg := DiskP.good_new h1 h2
  have hS : (DiskP.new n).S = List.replicate n (noughts 128) := rfl
  have hsz : Sized (DiskP.new n).S := fun s hs => by
    rw [hS] at hs
    rw [List.eq_of_mem_replicate hs]; exact noughts_len 128
  refine ⟨⟨hg.may, by rw [hS, List.length_replicate], rfl⟩, rfl, ?_, rfl, hq, hl⟩
  refine has_none hsz (by rw [hS, List.length_replicate]; exact hf) (by omega) (by omega) fun c hc => ?_
  rw [hS] at hc
  have := List.eq_of_mem_replicate (List.mem_of_getElem? hc)
  rw [this]; decide
/-- a log of the records behind the first ones -/
theorem Holds.tail {n frm len at0 q0 : Nat} {d : Disk} {a b : List Bytes} {l : Log} (h : Holds n d frm len at0 q0 (a ++ b) l) : Holds n d frm len (at0 + sum a) (q0 + a.length) b l := by
  refine ⟨h.live, h.quiet, h.has.tail, ?_, by have := h.q1; omega, h.len2⟩
  rw [h.log, sum_append, List.length_append]
  simp only [Log.mk.injEq, true_and]
  omega
theorem scan_other {n frm len at0 q0 q : Nat} {d : Disk} {s : Bytes} {recs : List Bytes} {l : Log} (h : Holds n d frm len at0 q0 (s :: recs) l) (hq0 : q0 ≤ maxSeq) (hq : q ≤ maxSeq) (hne : q0 ≠ q) : scanP d ⟨frm, len, at0, q⟩ = ([], ⟨frm, len, at0, q⟩, 0) := by
  have e := read_quiet h.live h.quiet h.has.fits h.len2
  rw [scanP]
  simp only
  rw [e, if_pos rfl, scanGo_other h.has hq0 hq hne]
end LogP

/-- logs as cells -/
def logsV : List Log → List Value
  | [] => []
  | l :: ls => .int .i64 (l.frm : Nat) :: .int .i64 (l.len : Nat) :: .int .i64 (l.at_ : Nat) :: .int .i64 (l.seq : Nat) :: logsV ls
theorem logsV_append (a b : List Log) : logsV (a ++ b) = logsV a ++ logsV b := by
  induction a with
  | nil => rfl
  | cons c a ih => simp [logsV, ih]
theorem logsV_length (a : List Log) : (logsV a).length = a.length * 4 := by
  induction a with
  | nil => rfl
  | cons c a ih => simp [logsV, ih]; omega
theorem logsV_get {l : List Log} {k : Nat} {c : Log} (h : l[k]? = some c) : (logsV l)[k * 4]? = some (.int .i64 (c.frm : Nat)) ∧ (logsV l)[k * 4 + 1]? = some (.int .i64 (c.len : Nat)) ∧ (logsV l)[k * 4 + 2]? = some (.int .i64 (c.at_ : Nat)) ∧ (logsV l)[k * 4 + 3]? = some (.int .i64 (c.seq : Nat)) := by
  induction l generalizing k with
  | nil => simp at h
  | cons d l ih =>
    cases k with
    | zero => simp at h; subst h; exact ⟨rfl, rfl, rfl, rfl⟩
    | succ k =>
      have := ih (k := k) (by simpa using h)
      rw [show (k + 1) * 4 = k * 4 + 4 by omega]
      simpa [logsV] using this
theorem logsV_one (l : List Log) : ∀ u ∈ logsV l, u.oneCell' = true := by
  induction l with
  | nil => intro u h; cases h
  | cons c l ih =>
    intro u h
    simp only [logsV, List.mem_cons] at h
    rcases h with rfl | rfl | rfl | rfl | h
    · rfl
    · rfl
    · rfl
    · rfl
    · exact ih u h
/-- where each record's log begins -/
def startsL (frm len at0 q0 : Nat) (recs : List Bytes) (k : Nat) : List Log := (List.range k).map fun j => ⟨frm, len, at0 + LogP.sum (recs.take j), q0 + j⟩
theorem startsL_len (frm len at0 q0 : Nat) (recs : List Bytes) (k : Nat) : (startsL frm len at0 q0 recs k).length = k := by simp [startsL]
theorem startsL_get {frm len at0 q0 k j : Nat} {recs : List Bytes} (h : j < k) : (startsL frm len at0 q0 recs k)[j]? = some ⟨frm, len, at0 + LogP.sum (recs.take j), q0 + j⟩ := by simp [startsL, h]
theorem startsL_snoc {n frm len at0 q0 : Nat} {d : Disk} {recs : List Bytes} {l : Log} (s : Bytes) (h : Holds n d frm len at0 q0 recs l) : startsL frm len at0 q0 recs recs.length ++ [l] = startsL frm len at0 q0 (recs ++ [s]) (recs.length + 1) := by
  rw [h.log, startsL, startsL, List.range_succ, List.map_append, List.map_singleton, List.take_append_of_le_length (Nat.le_refl _), List.take_length]
  congr 1
  refine List.map_congr_left fun j hj => ?_
  rw [List.take_append_of_le_length (by have := List.mem_range.1 hj; omega)]

theorem Try.infoLg : (Try.prog.info? 67).map (fun i => (i.zero, i.size, i.bytes)) = some (some (.agg #[.int .i64 0, .int .i64 0, .int .i64 0, .int .i64 0]), 4, 32) := by kernel_rfl
/-- 'at = append(at, x)' of logs -/
theorem app_log {w : World} {ops : Array Oper} {rest : List Oper} {o : Oper} {a : Act} {Q : Exit → Act → World → Prop} (hgd : o.guard = none) (s x : Operand)
    (ho : o.op = .call { callee := .builtin .append, args := #[s, x], argTypes := #[77, 77] })
    (base : Nat) (v : Value) (n : Nat) (xs : List Value) (hown : w.ownsRow base 67 4 v n xs) (hs : a.eval s = v)
    (u0 u1 u2 u3 : Value) (hx : a.eval x = .slice (some ⟨w.heap.size, 0, none⟩) 1 1) (h1 : ∀ u ∈ [u0, u1, u2, u3], u.oneCell' = true) (hn : n ≤ 1000000000) (hbase : base ≤ w.heap.size)
    (h : ∀ v' w', Apd w w' base 67 4 v v' (n + 1) (xs ++ [u0, u1, u2, u3]) → wpList Try.prog ops Q rest (a.put o.dst v') w') : wpList Try.prog ops Q (o :: rest) a (w.alloc (.cells #[u0, u1, u2, u3] 67)) := by
  obtain ⟨i0, hi, hz0, hz1, hz2⟩ := info_parts Try.infoLg
  exact wp_app_new (P := Try.prog) hgd s x 77 ho base 67 i0 (.agg #[.int .i64 0, .int .i64 0, .int .i64 0, .int .i64 0]) 4 32 Try.underlying77 hi hz0 hz1 hz2 rfl (by decide) v n xs hown hs 1 1 [u0, u1, u2, u3] hx rfl h1 (by simp only [maxLen]; omega) (by omega) hbase h

theorem ints4_one (a b c d : Int) : ∀ u ∈ [Value.int .i64 a, .int .i64 b, .int .i64 c, .int .i64 d], u.oneCell' = true := by
  intro u hu
  simp only [List.mem_cons, List.not_mem_nil, or_false] at hu
  rcases hu with rfl | rfl | rfl | rfl <;> rfl
/-- what lies in other blocks than a row of one's own is as it was behind an append to it -/
theorem Apd.far {w w' : World} {base : Nat} {e : TypeId} {size : Nat} {v v' : Value} {n : Nat} {xs : List Value} (h : Apd w w' base e size v v' n xs) {k : Nat} (hk : k < w.heap.size) (hne : v.ownBlock ≠ some k) : w'.heap[k]? = w.heap[k]? := h.grown.block k hk fun e => hne e.symm
theorem Apd.size {w w' : World} {base : Nat} {e : TypeId} {size : Nat} {v v' : Value} {n : Nat} {xs : List Value} (h : Apd w w' base e size v v' n xs) : w.heap.size ≤ w'.heap.size := h.grown.size

theorem four_of {vs : Array Value} (h : vs.size = 4) : ∃ a b c d, vs = #[a, b, c, d] := by
  refine ⟨vs[0], vs[1], vs[2], vs[3], ?_⟩
  apply Array.ext
  · simpa using h
  · intro i h1 h2
    have : i = 0 ∨ i = 1 ∨ i = 2 ∨ i = 3 := by omega
    rcases this with rfl | rfl | rfl | rfl <;> rfl
/-- the boxes of a disk and of the log behind it, at block b -/
structure LBox (wr : World) (V : Nat → Prop) (b : Nat) (A : Option Addr) (n c : Nat) (B : Option Addr) (m e : Nat) (d : Disk) (x : Log) : Prop where
  bd : Box wr b 50 #[.slice A n c, .slice B m e, .int .i64 d.left, .bool d.dead]
  bx : Box wr (b + 1) 67 #[.int .i64 (x.frm : Nat), .int .i64 (x.len : Nat), .int .i64 (x.at_ : Nat), .int .i64 (x.seq : Nat)]
  dk : Dk wr V A n c B m e d
theorem LBox.below {wr w' : World} {V : Nat → Prop} {b n c m e : Nat} {A B : Option Addr} {d : Disk} {x : Log} (h : LBox wr V b A n c B m e d x) (hb : Below wr.heap.size wr w') : LBox w' V b A n c B m e d x :=
  ⟨h.bd.belowS hb, h.bx.belowS hb, h.dk.below hb⟩

theorem own_set4 {w : World} {base b : Nat} {e : TypeId} {size n : Nat} {v : Value} {xs : List Value} (h : w.ownsRow base e size v n xs) (hb : b < base) (u0 u1 u2 u3 : Value) : ((((w.setCell ⟨b, 0, none⟩ u0).setCell ⟨b, 1, none⟩ u1).setCell ⟨b, 2, none⟩ u2).setCell ⟨b, 3, none⟩ u3).ownsRow base e size v n xs :=
  ownsRow_setCell_below (ownsRow_setCell_below (ownsRow_setCell_below (ownsRow_setCell_below h (a := ⟨b, 0, none⟩) hb u0) (a := ⟨b, 1, none⟩) hb u1) (a := ⟨b, 2, none⟩) hb u2) (a := ⟨b, 3, none⟩) hb u3
/-- the boxes of a disk and of a log, written anew -/
theorem LBox.put {w : World} {V : Nat → Prop} {b n c m e : Nat} {A B : Option Addr} {d : Disk} {x : Log} {lf : Int} {dd : Bool} {vs us : Array Value} (hvs : vs.size = 4) (hus : us.size = 4) (hd : Box w b 50 vs) (hx : Box w (b + 1) 67 us) (hD : Dk w V A n c B m e d) (hV : ∀ k, V k → k ≠ b ∧ k ≠ b + 1) (h1 : lf = d.left) (h2 : dd = d.dead) :
    LBox ((((((((w.setCell ⟨b, 0, none⟩ (.slice A n c)).setCell ⟨b, 1, none⟩ (.slice B m e)).setCell ⟨b, 2, none⟩ (.int .i64 lf)).setCell ⟨b, 3, none⟩ (.bool dd)).setCell ⟨b + 1, 0, none⟩ (.int .i64 (x.frm : Nat))).setCell ⟨b + 1, 1, none⟩ (.int .i64 (x.len : Nat))).setCell ⟨b + 1, 2, none⟩ (.int .i64 (x.at_ : Nat))).setCell ⟨b + 1, 3, none⟩ (.int .i64 (x.seq : Nat))) V b A n c B m e d x := by
  subst h1 h2
  obtain ⟨v0, v1, v2, v3, rfl⟩ := four_of hvs
  obtain ⟨u0, u1, u2, u3, rfl⟩ := four_of hus
  exact ⟨hd.set4.far4 (by omega), (hx.far4 (by omega)).set4, (hD.set4 fun k hk => (hV k hk).1).set4 fun k hk => (hV k hk).2⟩

/-- two rows of one's own, of other types: an append to one leaves the other -/
theorem own_other {w w' : World} {b1 b2 : Nat} {e1 e2 : TypeId} {s1 s2 n1 n2 : Nat} {v1 v2 : Value} {x1 x2 : List Value} (h1 : w.ownsRow b1 e1 s1 v1 n1 x1) (h2 : w.ownsRow b2 e2 s2 v2 n2 x2) (hne : e1 ≠ e2) (hg : w.grownBy w' v1.ownBlock) : w'.ownsRow b2 e2 s2 v2 n2 x2 := by
  refine h2.kept hg ?_
  rcases h2.2 with ⟨rfl, _⟩ | ⟨g, cap, cur, rfl, q1, q2, _⟩
  · exact .inl rfl
  · right
    rcases h1.2 with ⟨rfl, _⟩ | ⟨g', cap', cur', rfl, r1, r2, _⟩
    · simp [Value.ownBlock]
    · simp only [Value.ownBlock, ne_eq, Option.some.injEq]
      rintro rfl
      rw [q2] at r2
      injection r2 with r2
      injection r2 with _ he
      exact hne he.symm
theorem add_base (g j : Nat) : (⟨g, 0, none⟩ : Addr).add j = ⟨g, j, none⟩ := by
  unfold Addr.add
  split
  · simp_all
  · simp
/-- a log of a list in memory -/
theorem sl_log {w : World} {V : Nat → Prop} {A : Option Addr} {n k : Nat} {ls : List Log} (h : Sl w V 4 A n (logsV ls)) (hk : k < n) :
    ∃ a x, A = some a ∧ ls[k]? = some x ∧ w.cell? (a.add (k * 4)) = some (.int .i64 (x.frm : Nat)) ∧ w.cell? ⟨(a.add (k * 4)).block, (a.add (k * 4)).off + 1, none⟩ = some (.int .i64 (x.len : Nat)) ∧
      w.cell? ⟨(a.add (k * 4)).block, (a.add (k * 4)).off + 2, none⟩ = some (.int .i64 (x.at_ : Nat)) ∧ w.cell? ⟨(a.add (k * 4)).block, (a.add (k * 4)).off + 3, none⟩ = some (.int .i64 (x.seq : Nat)) := by
  obtain ⟨a, e, _, _, hc⟩ := h.2 (by omega)
  have hlen : ls.length = n := by have := h.1; rw [logsV_length] at this; omega
  have hl : k < ls.length := by omega
  obtain ⟨g0, g1, g2, g3⟩ := logsV_get (List.getElem?_eq_getElem hl)
  refine ⟨a, ls[k], e, List.getElem?_eq_getElem hl, hc _ _ g0, ?_, ?_, ?_⟩
  · rw [← Addr.add_succ' _ 0, add_add']; exact hc _ _ g1
  · rw [← Addr.add_succ' _ 1, add_add']; exact hc _ _ g2
  · rw [← Addr.add_succ' _ 2, add_add']; exact hc _ _ g3

/-- what an append has left: its disk, its log, its error -/
def AppEnd (V : Nat → Prop) (W : World) (R : Disk × Log × Nat) (p q e : Value) (wc : World) : Prop :=
  ∃ b7 b8 A n c B m k, p = .pointer (some ⟨b7, 0, none⟩) ∧ q = .pointer (some ⟨b8, 0, none⟩) ∧ e = .int .i64 (R.2.2 : Nat) ∧ W.heap.size ≤ b7 ∧ W.heap.size ≤ b8 ∧ b7 ≠ b8 ∧
    Box wc b7 50 #[.slice A n c, .slice B m k, .int .i64 R.1.left, .bool R.1.dead] ∧ Box wc b8 67 #[.int .i64 (R.2.1.frm : Nat), .int .i64 (R.2.1.len : Nat), .int .i64 (R.2.1.at_ : Nat), .int .i64 (R.2.1.seq : Nat)] ∧
    Dk wc (fun x => (V x ∧ x < W.heap.size ∨ W.heap.size ≤ x) ∧ x ≠ b7 ∧ x ≠ b8) A n c B m k R.1 ∧ Below W.heap.size W wc
end Go.Proofs.Yteoiadfcchalfaa
