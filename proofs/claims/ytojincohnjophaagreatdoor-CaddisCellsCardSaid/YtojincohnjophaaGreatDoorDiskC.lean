/- The walk of layer 17's Put. -/
import Derived.Test.YtojincohnjophaaGreatDoorDiskB
import Derived.ArgAppend
import Derived.Deep.RegionLawGrows
import Derived.Deep.RegionLaw
import Derived.IntWalk
namespace Go.Proofs.YtojincohnjophaaGreatDoor
open Go.RowKit
open DiskP (Bytes Disk Wr)
set_option linter.unusedVariables false

/-- a guard: the step's result goes into slot n -/
theorem at_slot (n : Nat) {P : Program} {op : Op} {t : TypeId} {pos : String} {after : Array Edge} {gd : Option (Nat × Bool)} {y : Nat → Option Bool} {a : Act} {w : World} {K : Act → World → Prop} {Q : Exit → Act → World → Prop} {E : Prop}
    (h : if Region.wanted ⟨some n, op, t, pos, after, gd⟩ y = true then Oper.wp P ⟨some n, op, t, pos, after, gd⟩ a w K Q else E) :
    if Region.wanted ⟨some n, op, t, pos, after, gd⟩ y = true then Oper.wp P ⟨some n, op, t, pos, after, gd⟩ a w K Q else E := h
theorem top_drew {w : World} {o : Obj} {b : Nat} (h : b = w.heap.size) : (w.alloc o).drew.heap[b]? = some o := by subst h; exact heap_alloc_new w o
theorem one_IS (x : Int) (s : ByteArray) : ∀ u ∈ [Value.int .i64 x, Value.string s], u.oneCell' = true := by
  intro u hu
  simp only [List.mem_cons, List.not_mem_nil, or_false] at hu
  rcases hu with rfl | rfl <;> rfl

/-- a slice to which one may append: one of one's own, or one without room -/
def Adds (w : World) (V : Nat → Prop) (base : Nat) (e : TypeId) (size : Nat) (v : Value) (n : Nat) (xs : List Value) : Prop := w.ownsRow base e size v n xs ∨ ∃ A, v = .slice A n n ∧ Sl w V size A n xs
theorem Adds.below {w w' : World} {V : Nat → Prop} {base : Nat} {e : TypeId} {size : Nat} {v : Value} {n : Nat} {xs : List Value} (h : Adds w V base e size v n xs) (hb : Below w.heap.size w w') : Adds w' V base e size v n xs :=
  h.imp (fun h => own_below h hb) fun ⟨A, e, h⟩ => ⟨A, e, h.below hb⟩
theorem Adds.shape {w : World} {V : Nat → Prop} {base : Nat} {e : TypeId} {size : Nat} {v : Value} {n : Nat} {xs : List Value} (h : Adds w V base e size v n xs) : ∃ A c, v = .slice A n c ∧ n ≤ c ∧ Sl w (fun b => V b ∨ base ≤ b) size A n xs := by
  rcases h with h | ⟨A, rfl, h⟩
  · rcases Nat.eq_zero_or_pos n with h0 | h0
    · subst h0
      obtain ⟨A, c, rfl⟩ := own_shape h
      exact ⟨A, c, rfl, Nat.zero_le _, ((Sl.of_own h).mono fun _ hb => .inr hb)⟩
    · obtain ⟨g, cap, rfl, _, _, hc⟩ := own_form h h0
      exact ⟨_, _, rfl, hc, (Sl.of_own h).mono fun _ hb => .inr hb⟩
  · exact ⟨A, n, rfl, Nat.le_refl _, h.mono fun _ hb => .inl hb⟩

theorem own_keep {w w' : World} {base : Nat} {e : TypeId} {size n : Nat} {v : Value} {xs : List Value} (h : w.ownsRow base e size v n xs) (hk : ∀ b, base ≤ b → b < w.heap.size → w'.heap[b]? = w.heap[b]?) : w'.ownsRow base e size v n xs :=
  ⟨h.1, h.2.imp id fun ⟨g, cap, cur, a, b, c, d⟩ => ⟨g, cap, cur, a, b, (hk g b (Array.getElem?_eq_some_iff.1 c).1).trans c, d⟩⟩
theorem Adds.keepB {w w' : World} {V : Nat → Prop} {base : Nat} {e : TypeId} {size : Nat} {v : Value} {n : Nat} {xs : List Value} (h : Adds w V base e size v n xs) (hs : w.heap.size ≤ w'.heap.size) (hk : ∀ b, V b ∨ base ≤ b → b < w.heap.size → w'.heap[b]? = w.heap[b]?) : Adds w' V base e size v n xs :=
  h.imp (fun h => own_keep h fun b h1 h2 => hk b (.inr h1) h2) fun ⟨A, e, h⟩ => ⟨A, e, h.keep hs fun b h1 h2 => hk b (.inl h1) h2⟩
theorem set4_far {w : World} {b k : Nat} {u0 u1 u2 u3 : Value} (h : k ≠ b) : ((((w.setCell ⟨b, 0, none⟩ u0).setCell ⟨b, 1, none⟩ u1).setCell ⟨b, 2, none⟩ u2).setCell ⟨b, 3, none⟩ u3).heap[k]? = w.heap[k]? := by
  rw [Below.heap_setCell _ _ _ _ h, Below.heap_setCell _ _ _ _ h, Below.heap_setCell _ _ _ _ h, Below.heap_setCell _ _ _ _ h]
theorem set4_size {w : World} {b : Nat} {u0 u1 u2 u3 : Value} : ((((w.setCell ⟨b, 0, none⟩ u0).setCell ⟨b, 1, none⟩ u1).setCell ⟨b, 2, none⟩ u2).setCell ⟨b, 3, none⟩ u3).heap.size = w.heap.size := by simp

theorem step_adds {P : Program} {w wr : World} {ops : Array Oper} {K : Act → World → Prop} {E : Prop} {o : Oper} {a : Act} {Q : Exit → Act → World → Prop}
    {e t : TypeId} {i : TypeInfo} {z : Value} {size bytes : Nat} (ht : P.underlying t = some (.slice e)) (hi : P.info? e = some i) (hz : i.zero = some z)
    (hsize : i.size = size) (hby : i.bytes = bytes) (hzs : z.cells.size = size) (hsz : 0 < size) (hbb : bytes ≤ 100)
    (hgd : o.guard = none) (s x : Operand) (ho : o.op = .call { callee := .builtin .append, args := #[s, x], argTypes := #[t, t] })
    (V : Nat → Prop) (base : Nat) (v : Value) (n : Nat) (xs : List Value) (hown : Adds wr V base e size v n xs) (hwr : Below wr.heap.size wr w) (hs : a.eval s = v)
    (B : Nat) (news : List Value) (hx : a.eval x = .slice (some ⟨B, 0, none⟩) 1 1) (hb : w.heap[B]? = some (.cells news.toArray e (0, 0))) (hl : news.length = size) (h1 : ∀ u ∈ news, u.oneCell' = true) (hn : n ≤ 1000000000000) (hbase : base ≤ wr.heap.size)
    (h : ∀ g cap w', w'.ownsRow base e size (.slice (some ⟨g, 0, none⟩) (n + 1) cap) (n + 1) (xs ++ news) → Below base w w' → (∀ k, wr.heap.size ≤ k → k < w.heap.size → w'.heap[k]? = w.heap[k]?) → (g < wr.heap.size ∨ w.heap.size ≤ g) →
      K (a.put o.dst (.slice (some ⟨g, 0, none⟩) (n + 1) cap)) w') : if Region.wanted o (yielded ops a.tmps) = true then Oper.wp P o a w K Q else E := by
  have hnews : ∀ j u, news[j]? = some u → w.cell? ((⟨B, 0, none⟩ : Addr).add j) = some u := by
    have := World.news_of_block (w := w) (B := B) (cs := news.toArray) (t := e) (fr := (0, 0)) hb
    simpa using this
  have hby2 : (n + 1) * bytes ≤ 140737488355328 := by
    have := Nat.mul_le_mul_left (n + 1) hbb
    omega
  have hbw : base ≤ w.heap.size := Nat.le_trans hbase hwr.size
  rcases hown with hown | ⟨A, rfl, hsl⟩
  · have hlt := hown.lt
    exact step_append_lies w hgd s x t ho base e i z size bytes ht hi hz hsize hby hzs hsz v n xs hs (own_below hown hwr) ⟨B, 0, none⟩ 1 1 news hx (by omega) hnews h1 (by omega) (by simp only [maxLen]; omega) hby2 hbw w.heap.size rfl
      fun g cap w' q1 q2 q3 q4 => h g cap w' q1 ((Below.refl base w).grown q2 hbw fun k e => (hlt k e).1) (fun k hk1 hk2 => q2.block k hk2 fun e => by have := (hlt k e.symm).2; omega) (q3.imp (fun e => (hlt g e).2) fun e => by omega)
  · have hsl' := hsl.below hwr
    refine step_append_grows hgd s x t ho e i z size bytes ht hi hz hsize hby hzs hsz A n n xs hs ?_ hsl'.1 ?_ ⟨B, 0, none⟩ 1 1 news hx (by omega) hnews h1 (by omega) (by simp only [maxLen]; omega) hby2 fun v' w' q1 q2 => ?_
    · intro hA
      rcases Nat.eq_zero_or_pos n with h0 | h0
      · exact ⟨h0, h0⟩
      · obtain ⟨a, e, _⟩ := hsl.2 h0
        rw [hA] at e; cases e
    · intro b hA j u hu
      rcases Nat.eq_zero_or_pos n with h0 | h0
      · have h2 := (List.getElem?_eq_some_iff.1 hu).1
        rw [hsl.1, h0] at h2; omega
      · obtain ⟨a', e', _, _, hc⟩ := hsl'.2 h0
        rw [hA] at e'
        injection e' with e'; subst e'
        exact hc j u hu
    · obtain ⟨g, cap, rfl, hg, hg2, _⟩ := own_form q1 (by omega)
      exact h g cap w' (own_mono q1 hbw) ((Below.refl base w).grown q2 hbw fun k e => by cases e) (fun k _ hk2 => q2.block k hk2 fun e => by cases e) (.inr hg)

theorem Tryz.infoWr : (Tryz.prog.info? 98).map (fun i => (i.zero, i.size, i.bytes)) = some (some (.agg #[.int .i64 0, .string .empty]), 2, 24) := by kernel_rfl
theorem step_adds_W {w wr : World} {ops : Array Oper} {K : Act → World → Prop} {E : Prop} {o : Oper} {a : Act} {Q : Exit → Act → World → Prop}
    (hgd : o.guard = none) (s x : Operand) (ho : o.op = .call { callee := .builtin .append, args := #[s, x], argTypes := #[52, 52] })
    (V : Nat → Prop) (base : Nat) (v : Value) (n : Nat) (xs : List Value) (hown : Adds wr V base 98 2 v n xs) (hwr : Below wr.heap.size wr w) (hs : a.eval s = v)
    (B : Nat) (p q : Value) (hx : a.eval x = .slice (some ⟨B, 0, none⟩) 1 1) (hb : w.heap[B]? = some (.cells #[p, q] 98 (0, 0))) (h1 : ∀ u ∈ [p, q], u.oneCell' = true) (hn : n ≤ 1000000000000) (hbase : base ≤ wr.heap.size)
    (h : ∀ g cap w', w'.ownsRow base 98 2 (.slice (some ⟨g, 0, none⟩) (n + 1) cap) (n + 1) (xs ++ [p, q]) → Below base w w' → (∀ k, wr.heap.size ≤ k → k < w.heap.size → w'.heap[k]? = w.heap[k]?) → (g < wr.heap.size ∨ w.heap.size ≤ g) →
      K (a.put o.dst (.slice (some ⟨g, 0, none⟩) (n + 1) cap)) w') : if Region.wanted o (yielded ops a.tmps) = true then Oper.wp Tryz.prog o a w K Q else E := by
  obtain ⟨i0, hi, hz0, hz1, hz2⟩ := info_parts Tryz.infoWr
  exact step_adds Tryz.underlying52 hi hz0 hz1 hz2 rfl (by decide) (by decide) hgd s x ho V base v n xs hown hwr hs B [p, q] hx hb rfl h1 hn hbase h

/-! ### Put -/

theorem put_bad {d : Disk} {i : Int} {s : Bytes} (hm : DiskP.may d = true) (h : s.length = 0 ∨ s.length % 128 ≠ 0) : DiskP.put d i s = (DiskP.zero, 1) := by
  rw [DiskP.put, hm, if_pos]
  rcases h with h | h
  · simp [h]
  · simp [h]
theorem put_far {d : Disk} {i : Int} {s : Bytes} (hm : DiskP.may d = true) (h0 : s.length ≠ 0) (h1 : s.length % 128 = 0) (ht : DiskP.there d i ((s.length / 128 : Nat) : Int) = false) : DiskP.put d i s = (DiskP.zero, 16) := by
  rw [DiskP.put, hm, if_neg (by simp [h0, h1]), if_pos ht]
theorem put_go {d : Disk} {i : Int} {s : Bytes} (hm : DiskP.may d = true) (h0 : s.length ≠ 0) (h1 : s.length % 128 = 0) (ht : DiskP.there d i ((s.length / 128 : Nat) : Int) = true) : DiskP.put d i s = DiskP.putGo s i (s.length / 128) 0 d := by
  rw [DiskP.put, hm, if_neg (by simp [h0, h1]), if_neg (by rw [ht]; simp)]
theorem dkv_zero (w : World) (V : Nat → Prop) : DkV w V (dkv none 0 0 none 0 0 0 false) DiskP.zero := ⟨none, 0, 0, none, 0, 0, rfl, Sl.nil, Sl.nil, Nat.zero_le _, Nat.zero_le _, Nat.le_refl _, Nat.le_refl _, by simp [DiskP.zero]⟩

theorem alive_left {d : Disk} (h : DiskP.alive d = true) (hl : -1 ≤ d.left) : -1 ≤ (DiskP.spent d).left := by
  simp only [DiskP.alive, Bool.and_eq_true, Bool.not_eq_true', beq_eq_false_iff_ne] at h
  rw [DiskP.spent]
  split
  · exact hl
  · split
    · show -1 ≤ d.left - 1; omega
    · exact hl
/-- what stands ahead of Put's round j -/
def PutR (w0 : World) (b : Nat) (V : Nat → Prop) (A : Option Addr) (n c : Nat) (d : Disk) (s : Bytes) (i : Int) (k : Nat) (R : Disk × Nat) (m j : Nat) (wr : World) : Prop :=
  ∃ (B' : Option Addr) (m' e' : Nat) (dj : Disk), Box wr b 54 #[.slice A n c, .slice B' m' e', .int .i64 dj.left, .bool dj.dead] ∧ Box wr (b + 1) 54 #[.slice none 0 0, .slice none 0 0, .int .i64 0, .bool false] ∧
    Adds wr V (b + 2) 98 2 (.slice B' m' e') m' (wrV dj.W) ∧ m' = m + j ∧ dj.S = d.S ∧ -1 ≤ dj.left ∧ dj.left ≤ 9223372036854775807 ∧ DiskP.putGo s i (k - j) j dj = R ∧ Below b w0 wr
theorem Adds.dk {w : World} {V : Nat → Prop} {b : Nat} {A B : Option Addr} {n c m e : Nat} {d dj : Disk} (h : Adds w V (b + 2) 98 2 (.slice B m e) m (wrV dj.W)) (hD : Sl w V 1 A n (secV d.S)) (hn : n ≤ 1000000000) (hc : n ≤ c) (hm : m ≤ 1000000000) (hS : dj.S = d.S) (hl : dj.left ≤ 9223372036854775807) :
    Dk w (fun x => V x ∨ b + 2 ≤ x) A n c B m e dj := by
  obtain ⟨A', c', e1, hc', hs⟩ := h.shape
  injection e1 with e1 e2 e3
  subst e1 e3
  exact ⟨by rw [hS]; exact hD.mono fun _ h => .inl h, hs, hn, hm, hc, hc', hl⟩

theorem sect_ext (s : ByteArray) (j : Nat) : mkB (DiskP.sect (oct s) j) = s.extract ((j : Int) * 128).toNat (((j : Int) + 1) * 128).toNat := by
  have e1 : ((j : Int) * 128).toNat = 128 * j := by omega
  have e2 : (((j : Int) + 1) * 128).toNat = 128 * j + 128 := by omega
  rw [e1, e2]
  refine oct_inj ?_
  rw [oct_mkB, oct_extract, DiskP.sect, Nat.add_sub_cancel_left]
theorem putR_step {w0 wr w3 w4 w5 : World} {b j k m m' nb : Nat} {V : Nat → Prop} {A : Option Addr} {n c g cap e' : Nat} {B' : Option Addr} {d dj : Disk} {s : ByteArray} {i : Int} {R : Disk × Nat} {vs : Array Value}
    (kA : Box wr b 54 vs) (kB : Box wr (b + 1) 54 #[.slice none 0 0, .slice none 0 0, .int .i64 0, .bool false]) (hAd : Adds wr V (b + 2) 98 2 (.slice B' m' e') m' (wrV dj.W)) (hm : m' = m + j) (hS : dj.S = d.S)
    (h1 : -1 ≤ dj.left) (h2 : dj.left ≤ 9223372036854775807) (ha : DiskP.alive dj = true) (hgo : DiskP.putGo (oct s) i (k - (j + 1)) (j + 1) { DiskP.spent dj with W := dj.W ++ [⟨i + j, DiskP.sect (oct s) j⟩] } = R)
    (hbr : Below b w0 wr) (hb3 : Below wr.heap.size wr w3) (hnb : nb = w3.heap.size) (hb4 : Below w3.heap.size w3 w4) (h4 : w3.heap.size < w4.heap.size) (kA5 : vs.size = 4)
    (q1 : w5.ownsRow (b + 2) 98 2 (.slice (some ⟨g, 0, none⟩) (m' + 1) cap) (m' + 1) (wrV dj.W ++ [.int .i64 (i + j), .string (s.extract ((j : Int) * 128).toNat (((j : Int) + 1) * 128).toNat)])) (q2 : Below (b + 2) w4 w5) (q4 : g < wr.heap.size ∨ w4.heap.size ≤ g) :
    PutR w0 b V A n c d (oct s) i k R m (j + 1) (((((w5.setCell ⟨nb, 1, none⟩ (.slice (some ⟨g, 0, none⟩) (m' + 1) cap)).setCell ⟨b, 0, none⟩ (.slice A n c)).setCell ⟨b, 1, none⟩ (.slice (some ⟨g, 0, none⟩) (m' + 1) cap)).setCell ⟨b, 2, none⟩ (.int .i64 (DiskP.spent dj).left)).setCell ⟨b, 3, none⟩ (.bool (DiskP.spent dj).dead)) := by
  have hlt := kB.lt
  have hs3 := hb3.size
  have e1 : wrV dj.W ++ [.int .i64 (i + j), .string (s.extract ((j : Int) * 128).toNat (((j : Int) + 1) * 128).toNat)] = wrV (dj.W ++ [⟨i + j, DiskP.sect (oct s) j⟩]) := by rw [wrV_append, ← sect_ext]; rfl
  rw [e1] at q1
  obtain ⟨v0, v1, v2, v3, rfl⟩ : ∃ v0 v1 v2 v3, vs = #[v0, v1, v2, v3] := ⟨vs[0], vs[1], vs[2], vs[3], by
    apply Array.ext
    · simpa using kA5
    · intro i h1 h2
      have : i = 0 ∨ i = 1 ∨ i = 2 ∨ i = 3 := by omega
      rcases this with rfl | rfl | rfl | rfl <;> rfl⟩
  have kA6 := (((kA.belowS hb3).belowS hb4).below q2 (by omega)).other (a := ⟨nb, 1, none⟩) (by simp; omega) (.slice (some ⟨g, 0, none⟩) (m' + 1) cap)
  have kB6 := (((((((kB.belowS hb3).belowS hb4).below q2 (by omega)).other (a := ⟨nb, 1, none⟩) (by simp; omega) (.slice (some ⟨g, 0, none⟩) (m' + 1) cap)).other (a := ⟨b, 0, none⟩) (by simp) (.slice A n c)).other (a := ⟨b, 1, none⟩) (by simp) (.slice (some ⟨g, 0, none⟩) (m' + 1) cap)).other (a := ⟨b, 2, none⟩) (by simp) (.int .i64 (DiskP.spent dj).left)).other (a := ⟨b, 3, none⟩) (by simp) (.bool (DiskP.spent dj).dead)
  have hbE : Below b w0 w5 := ((hbr.trans (hb3.mono (by omega))).trans (hb4.mono (Nat.le_trans (by omega) hs3))).trans (q2.mono (by omega))
  have ho := ownsRow_setCell_other q1 (a := ⟨nb, 1, none⟩) (by simp [Value.ownBlock]; omega) (.slice (some ⟨g, 0, none⟩) (m' + 1) cap)
  have ho4 := ownsRow_setCell_below (ownsRow_setCell_below (ownsRow_setCell_below (ownsRow_setCell_below ho (a := ⟨b, 0, none⟩) (by simp) (.slice A n c)) (a := ⟨b, 1, none⟩) (by simp) (.slice (some ⟨g, 0, none⟩) (m' + 1) cap)) (a := ⟨b, 2, none⟩) (by simp) (.int .i64 (DiskP.spent dj).left)) (a := ⟨b, 3, none⟩) (by simp) (.bool (DiskP.spent dj).dead)
  refine ⟨_, _, _, { DiskP.spent dj with W := dj.W ++ [⟨i + j, DiskP.sect (oct s) j⟩] }, kA6.set4, kB6, .inl ho4, by omega, by rw [← hS]; exact spent_S dj, ?_, spent_hi dj h2, hgo, below_set4 (hbE.setCell (by show b ≤ nb; omega) _) (Nat.le_refl _)⟩
  have hal := alive_left ha h1
  exact hal
set_option maxRecDepth 100000 in
set_option maxHeartbeats 3200000 in
theorem put_any (A : Option Addr) (n c : Nat) (B : Option Addr) (m e : Nat) (d : Disk) (V : Nat → Prop) (i : Int) (s : ByteArray) (w : World) (h : Dk w V A n c B m e d) (hm : DiskP.may d = true) (hi : -9223372036854775808 ≤ i) (hi2 : i ≤ 9223372036854775807) (hs : s.size ≤ 1000000) (hmm : m ≤ 900000000) :
    Calls Tryz.prog 94 #[dkv A n c B m e d.left d.dead, .int .i64 i, .string s] w fun q w' => ∃ v, q = .returned (.tuple #[v, .int .i64 ((DiskP.put d i (oct s)).2 : Nat)]) ∧ DkV w' (fun b => V b ∨ w.heap.size ≤ b) v (DiskP.put d i (oct s)).1 ∧ Below w.heap.size w w' := by
  have hl := may_left hm
  have hhi := h.hi
  have hB1 := Box.new w 54 #[.slice A n c, .slice B m e, .int .i64 d.left, .bool d.dead]
  have hB2 := hB1.up (.cells #[.slice none 0 0, .slice none 0 0, .int .i64 0, .bool false] 54)
  have hB3 := Box.new (w.alloc (.cells #[.slice A n c, .slice B m e, .int .i64 d.left, .bool d.dead] 54)) 54 #[.slice none 0 0, .slice none 0 0, .int .i64 0, .bool false]
  rw [World.size_alloc] at hB3
  have hb : Below w.heap.size w ((w.alloc (.cells #[.slice A n c, .slice B m e, .int .i64 d.left, .bool d.dead] 54)).alloc (.cells #[.slice none 0 0, .slice none 0 0, .int .i64 0, .bool false] 54)) := ((Below.refl _ _).alloc (Nat.le_refl _) _).alloc (by simp) _
  have hma := fun w1 hD => may_any A n c B m e d V w1 hD
  have hth := fun k w1 hD => there_any A n c B m e d V i k w1 hD hi hi2
  rw [hm] at hma
  have hD := h.below hb
  have hol : (oct s).length = s.size := oct_length s
  obtain ⟨lf, hlf⟩ : ∃ lf, lf = d.left := ⟨_, rfl⟩
  obtain ⟨dd, hdd⟩ : ∃ dd, dd = d.dead := ⟨_, rfl⟩
  have HMA := hide hma
  have HOL := hide hol
  clear hma hol
  by_cases hbad : s.size = 0 ∨ s.size % 128 ≠ 0
  · have hR := put_bad (i := i) (s := oct s) hm (by rw [HOL.out]; exact hbad)
    rw [hR]
    have HM := HMA.out
    rw [← hlf, ← hdd] at hB1 hB2 hB3 hb HM ⊢
    have HMM := hide HM
    clear hth hlf hdd hR HM HMA
    by_cases h0 : s.size = 0
    · have g1 : ((s.size : Int) == 0) = true := by rw [h0]; rfl
      clear h0 hbad
      go_enter Tryz.func94, Tryz.ntmps94
      go_wp2_with fail
      refine (HMM.out _ (h.below hb)).mono ?_
      rintro q w1 ⟨rfl, hb1⟩
      have kB1 := hB3.belowS hb1
      have hbw1 := hb.trans (hb1.mono hb.size)
      obtain ⟨q0, q1, q2, q3⟩ := kB1.cell4
      have qf0 := kB1.frozen 0
      have qf1 := kB1.frozen 1
      have qf2 := kB1.frozen 2
      have qf3 := kB1.frozen 3
      go_wp2_with fail
      have kF := kB1.set4 (u0 := .slice none 0 0) (u1 := .slice none 0 0) (u2 := .int .i64 0) (u3 := .bool false)
      have hbF := below_set4 (b := w.heap.size + 1) (u0 := .slice none 0 0) (u1 := .slice none 0 0) (u2 := .int .i64 0) (u3 := .bool false) hbw1 (by omega)
      obtain ⟨s0, s1, s2, s3⟩ := kF.cell4
      refine bodyPost_ret (v := .tuple #[.agg #[.slice none 0 0, .slice none 0 0, .int .i64 0, .bool false], .int .i64 1]) (by simp [results, Tryz.results94, go_sem, s0, s1, s2, s3]) rfl ⟨_, rfl, dkv_zero _ _, hbF⟩
    · have g1 : ((s.size : Int) == 0) = false := by rw [beq_eq_false_iff_ne]; omega
      have g2 : ((s.size : Int) % 128 != 0) = true := by rw [bne_iff_ne]; omega
      clear h0 hbad
      go_enter Tryz.func94, Tryz.ntmps94
      go_wp2_with fail
      refine (HMM.out _ (h.below hb)).mono ?_
      rintro q w1 ⟨rfl, hb1⟩
      have kB1 := hB3.belowS hb1
      have hbw1 := hb.trans (hb1.mono hb.size)
      obtain ⟨q0, q1, q2, q3⟩ := kB1.cell4
      have qf0 := kB1.frozen 0
      have qf1 := kB1.frozen 1
      have qf2 := kB1.frozen 2
      have qf3 := kB1.frozen 3
      go_wp2_with fail
      have kF := kB1.set4 (u0 := .slice none 0 0) (u1 := .slice none 0 0) (u2 := .int .i64 0) (u3 := .bool false)
      have hbF := below_set4 (b := w.heap.size + 1) (u0 := .slice none 0 0) (u1 := .slice none 0 0) (u2 := .int .i64 0) (u3 := .bool false) hbw1 (by omega)
      obtain ⟨s0, s1, s2, s3⟩ := kF.cell4
      refine bodyPost_ret (v := .tuple #[.agg #[.slice none 0 0, .slice none 0 0, .int .i64 0, .bool false], .int .i64 1]) (by simp [results, Tryz.results94, go_sem, s0, s1, s2, s3]) rfl ⟨_, rfl, dkv_zero _ _, hbF⟩
  · have hz : s.size ≠ 0 := fun e => hbad (.inl e)
    have hd : s.size % 128 = 0 := by have : ¬ s.size % 128 ≠ 0 := fun e => hbad (.inr e); omega
    obtain ⟨k, hk⟩ : ∃ k, s.size = 128 * k := ⟨s.size / 128, by omega⟩
    have hk0 : 0 < k := by omega
    have hkd : s.size / 128 = k := by omega
    have g1 : ((s.size : Int) == 0) = false := by rw [beq_eq_false_iff_ne]; omega
    have g2 : ((s.size : Int) % 128 != 0) = false := by rw [bne_eq_false_iff_eq]; omega
    have g3 : (s.size : Int) / 128 = k := by omega
    have HD := hide hd
    have HK := hide hk
    have HKD := hide hkd
    clear hbad hd hkd
    cases ht : DiskP.there d i ((k : Nat) : Int) with
    | false =>
      have hR := put_far (i := i) (s := oct s) hm (by rw [HOL.out]; exact hz) (by rw [HOL.out]; exact HD.out) (by rw [HOL.out, HKD.out]; exact ht)
      rw [hR]
      have HM := HMA.out
      have hth2 := hth k
      rw [ht] at hth2
      rw [← hlf, ← hdd] at hB1 hB2 hB3 hb HM hth2 ⊢
      have HMM := hide HM
      have HTH := hide hth2
      clear hth hlf hdd hR HM HMA ht hth2 hk hz
      go_enter Tryz.func94, Tryz.ntmps94
      go_wp2_with fail
      refine (HMM.out _ (h.below hb)).mono ?_
      rintro q w1 ⟨rfl, hb1⟩
      have kA1 := hB2.belowS hb1
      have kB1 := hB3.belowS hb1
      have hbw1 := hb.trans (hb1.mono hb.size)
      obtain ⟨p0, p1, p2, p3⟩ := kA1.cell4
      go_wp2_with fail
      refine (HTH.out _ (h.below hbw1)).mono ?_
      rintro q w2 ⟨rfl, hb2⟩
      clear p0 p1 p2 p3
      have kB2 := kB1.belowS hb2
      have hbw2 := hbw1.trans (hb2.mono hbw1.size)
      obtain ⟨q0, q1, q2, q3⟩ := kB2.cell4
      have qf0 := kB2.frozen 0
      have qf1 := kB2.frozen 1
      have qf2 := kB2.frozen 2
      have qf3 := kB2.frozen 3
      go_wp2_with fail
      have kF := kB2.set4 (u0 := .slice none 0 0) (u1 := .slice none 0 0) (u2 := .int .i64 0) (u3 := .bool false)
      have hbF := below_set4 (b := w.heap.size + 1) (u0 := .slice none 0 0) (u1 := .slice none 0 0) (u2 := .int .i64 0) (u3 := .bool false) hbw2 (by omega)
      obtain ⟨s0, s1, s2, s3⟩ := kF.cell4
      refine bodyPost_ret (v := .tuple #[.agg #[.slice none 0 0, .slice none 0 0, .int .i64 0, .bool false], .int .i64 16]) (by simp [results, Tryz.results94, go_sem, s0, s1, s2, s3]) rfl ⟨_, rfl, dkv_zero _ _, hbF⟩
    | true =>
      have hR := put_go (i := i) (s := oct s) hm (by rw [HOL.out]; exact hz) (by rw [HOL.out]; exact HD.out) (by rw [HOL.out, HKD.out]; exact ht)
      rw [HOL.out, HKD.out] at hR
      obtain ⟨R, hRR⟩ : ∃ R, R = DiskP.put d i (oct s) := ⟨_, rfl⟩
      rw [← hRR] at hR ⊢
      have htt := ht
      simp only [DiskP.there, Bool.and_eq_true, decide_eq_true_eq] at htt
      rw [h.len] at htt
      obtain ⟨⟨⟨t1, t2⟩, t3⟩, t4⟩ := htt
      have HM := HMA.out
      have hth2 := hth k
      rw [ht] at hth2
      have hnle := h.nle
      rw [← hlf, ← hdd] at hB1 hB2 hB3 hb HM hth2 ⊢
      have HMM := hide HM
      have HTH := hide hth2
      have HR := hide hR
      have HLF := hide hlf
      have HDD := hide hdd
      clear hth hlf hdd hR HM HMA ht hth2 hk hz hRR
      go_enter Tryz.func94, Tryz.ntmps94
      go_wp2_with fail
      refine (HMM.out _ (h.below hb)).mono ?_
      rintro q w1 ⟨rfl, hb1⟩
      have kA1 := hB2.belowS hb1
      have kB1 := hB3.belowS hb1
      have hbw1 := hb.trans (hb1.mono hb.size)
      obtain ⟨p0, p1, p2, p3⟩ := kA1.cell4
      go_wp2_with fail
      refine (HTH.out _ (h.below hbw1)).mono ?_
      rintro q w2 ⟨rfl, hb2⟩
      clear p0 p1 p2 p3
      have kA2 := kA1.belowS hb2
      have kB2 := kB1.belowS hb2
      have hbw2 := hbw1.trans (hb2.mono hbw1.size)
      have hcm := h.ele
      obtain ⟨p0, p1, p2, p3⟩ := kA2.cell4
      have pf0 := kA2.frozen 0
      have pf1 := kA2.frozen 1
      have pf2 := kA2.frozen 2
      have pf3 := kA2.frozen 3
      go_wp2_with fail
      have hS0 := h.lt'.sS
      have hst : PutR w w.heap.size (fun x => V x ∧ x < w.heap.size) A n c d (oct s) i k R m 0 (w2.setCell ⟨w.heap.size, 1, none⟩ (.slice B m m)) := by
        refine ⟨B, m, m, d, ?_, kB2.other (by simp) _, .inr ⟨B, rfl, (h.lt'.sW.below hbw2).keep (by simp) fun x hx _ => Below.heap_setCell _ _ _ _ (by simp; omega)⟩, rfl, rfl, hl, hhi, by rw [HR.out]; rfl, hbw2.setCell (Nat.le_refl _) _⟩
        rw [← HLF.out, ← HDD.out]
        exact kA2.set 1 (.slice B m m)
      have HSD := hide hS0
      clear hS0 p0 p1 p2 p3 pf0 pf1 pf2 pf3 kA1 kA2 kB1 kB2 hb1 hb2 hbw1 hbw2 hB1 hB2 hB3 hb hD HMM HTH
      go_loopw [47] (fun jv wr => ∃ j : Nat, j ≤ k ∧ jv = .int .i64 j ∧ PutR w w.heap.size (fun x => V x ∧ x < w.heap.size) A n c d (oct s) i k R m j wr) (fun jv _ => k - (intOf jv).toNat)
      case atStart => exact ⟨0, Nat.zero_le _, rfl, hst⟩
      case round =>
        clear hst
        obtain ⟨j, hj, rfl, B', m', e', dj, kA, kB, hAd, hm', hdS, hdl, hdh, hgo, hbr⟩ := hrel
        have HGO := hide hgo
        have HDS := hide hdS
        have HM := hide hm'
        have HAD := hide hAd
        clear hgo hdS hAd
        have hsp := fun w1 => spend_any A n c B' m' e' dj w1 hdl hdh
        have hltA := kA.lt
        have hltB := kB.lt
        by_cases hlt : j < k
        · obtain ⟨p0, p1, p2, p3⟩ := kA.cell4
          have hgo := HGO.out
          rw [show k - j = (k - (j + 1)) + 1 by omega, DiskP.putGo] at hgo
          cases ha : DiskP.alive dj with
          | false =>
            rw [ha, if_pos rfl] at hgo
            rw [ha] at hsp
            have HRR := hide hgo.symm
            have hsh := spent_hi dj hdh
            have hm2 : m' ≤ 1000000000 := by have := HM.out; omega
            obtain ⟨lf', hlf'⟩ : ∃ lf, lf = (DiskP.spent dj).left := ⟨_, rfl⟩
            obtain ⟨dd', hdd'⟩ : ∃ dd, dd = (DiskP.spent dj).dead := ⟨_, rfl⟩
            obtain ⟨lj, hlj⟩ : ∃ lf, lf = dj.left := ⟨_, rfl⟩
            obtain ⟨ddj, hddj⟩ : ∃ dd, dd = dj.dead := ⟨_, rfl⟩
            rw [← hlf', ← hdd', ← hlj, ← hddj] at hsp
            rw [← hlj] at p2
            rw [← hddj] at p3
            have HLF2 := hide hlf'
            have HDD2 := hide hdd'
            have HSP := hide hsp
            clear hsp hgo hlf' hdd' hlj hddj ha hm'
            go_wp2_with fail
            refine (HSP.out _).mono ?_
            rintro q w3 ⟨rfl, hb3⟩
            have kB3 := kB.belowS hb3
            have hlt3 := kB3.lt
            have hbr3 := hbr.trans (hb3.mono (by omega))
            clear p0 p1 p2 p3
            obtain ⟨q0, q1, q2, q3⟩ := kB3.cell4
            have qf0 := kB3.frozen 0
            have qf1 := kB3.frozen 1
            have qf2 := kB3.frozen 2
            have qf3 := kB3.frozen 3
            go_wp2_with fail
            have kF := (kB3.set4 (u0 := .slice A n c) (u1 := .slice B' m' e') (u2 := .int .i64 lf') (u3 := .bool dd')).up (.cells #[.slice A n c, .slice B' m' e', .int .i64 lf', .bool dd'] 54)
            have hbF := (below_set4 (b := w.heap.size + 1) (u0 := .slice A n c) (u1 := .slice B' m' e') (u2 := .int .i64 lf') (u3 := .bool dd') hbr3 (by omega)).alloc (by rw [set4_size]; omega) (.cells #[.slice A n c, .slice B' m' e', .int .i64 lf', .bool dd'] 54)
            obtain ⟨s0, s1, s2, s3⟩ := kF.cell4
            refine bodyPost_ret (v := .tuple #[.agg #[.slice A n c, .slice B' m' e', .int .i64 lf', .bool dd'], .int .i64 14]) (by simp [results, Tryz.results94, go_sem, s0, s1, s2, s3]) rfl ⟨_, by rw [HRR.out]; rfl, ?_, hbF⟩
            rw [HRR.out]
            refine ⟨_, _, _, _, _, _, by rw [HLF2.out, HDD2.out], ?_⟩
            have hfar : ∀ x, x ≠ w.heap.size + 1 → x < w3.heap.size → (((((w3.setCell ⟨w.heap.size + 1, 0, none⟩ (.slice A n c)).setCell ⟨w.heap.size + 1, 1, none⟩ (.slice B' m' e')).setCell ⟨w.heap.size + 1, 2, none⟩ (.int .i64 lf')).setCell ⟨w.heap.size + 1, 3, none⟩ (.bool dd')).alloc (.cells #[.slice A n c, .slice B' m' e', .int .i64 lf', .bool dd'] 54)).heap[x]? = w3.heap[x]? := fun x hx hx2 => by
              rw [Below.heap_alloc _ _ _ (by rw [set4_size]; exact hx2), set4_far hx]
            have hsz : w3.heap.size ≤ (((((w3.setCell ⟨w.heap.size + 1, 0, none⟩ (.slice A n c)).setCell ⟨w.heap.size + 1, 1, none⟩ (.slice B' m' e')).setCell ⟨w.heap.size + 1, 2, none⟩ (.int .i64 lf')).setCell ⟨w.heap.size + 1, 3, none⟩ (.bool dd')).alloc (.cells #[.slice A n c, .slice B' m' e', .int .i64 lf', .bool dd'] 54)).heap.size := by
              rw [World.size_alloc, set4_size]; omega
            exact ((((HAD.out.below hb3).keepB hsz fun x hx hx2 => hfar x (by omega) hx2).dk ((HSD.out.below hbr3).keep hsz fun x hx hx2 => hfar x (by omega) hx2) hnle h.cle hm2 HDS.out hdh).other (spent_S dj) (spent_W dj) hsh).mono fun x hx => hx.elim (fun h => .inl h.1) fun h => .inr (by omega)
          | true =>
            rw [ha, if_neg (by simp)] at hgo
            rw [ha] at hsp
            obtain ⟨lf', hlf'⟩ : ∃ lf, lf = (DiskP.spent dj).left := ⟨_, rfl⟩
            obtain ⟨dd', hdd'⟩ : ∃ dd, dd = (DiskP.spent dj).dead := ⟨_, rfl⟩
            obtain ⟨lj, hlj⟩ : ∃ lf, lf = dj.left := ⟨_, rfl⟩
            obtain ⟨ddj, hddj⟩ : ∃ dd, dd = dj.dead := ⟨_, rfl⟩
            rw [← hlf', ← hdd', ← hlj, ← hddj] at hsp
            rw [← hlj] at p2
            rw [← hddj] at p3
            have HG := hide hgo
            have HLF2 := hide hlf'
            have HDD2 := hide hdd'
            have HSP := hide hsp
            have HAL := hide ha
            clear hsp hgo hlf' hdd' hlj hddj ha hm'
            go_wp2_with fail
            refine (HSP.out _).mono ?_
            rintro q w3 ⟨rfl, hb3⟩
            have kA3 := kA.belowS hb3
            have kB3 := kB.belowS hb3
            have kN3 := Box.new w3 54 #[.slice A n c, .slice B' m' e', .int .i64 lf', .bool dd']
            clear p0 p1 p2 p3
            go_wp2_with fail
            have hwA : Below wr.heap.size wr (w3.alloc (.cells #[.slice A n c, .slice B' m' e', .int .i64 lf', .bool dd'] 54)) := hb3.alloc hb3.size _
            have hm3 : m' ≤ 1000000000000 := by have := HM.out; omega
            have hbs : w.heap.size + 2 ≤ wr.heap.size := hltB
            have hw3 : w.heap.size + 2 ≤ w3.heap.size := Nat.le_trans hbs hb3.size
            have hk2 : (k : Int) ≤ 10000 := by have := HK.out; omega
            have b1 : ((j : Int) + 1) * 128 ≤ s.size := by have := HK.out; omega
            have b2 : (0 : Int) ≤ ((j : Int) + 1) * 128 := by omega
            have b3 : (0 : Int) ≤ (j : Int) * 128 := by omega
            have b4 : (j : Int) ≤ (j : Int) + 1 := by omega
            obtain ⟨n0, n1, n2, n3⟩ := kN3.cell4
            have nf1 := kN3.frozen 1
            have e1 : IntKind.i64.wrap (i + j) = i + j := IntWalk.i64_in _ (by omega)
            have e2 : IntKind.i64.wrap ((j : Int) * 128) = (j : Int) * 128 := IntWalk.i64_in _ (by omega)
            have e3 : IntKind.i64.wrap ((j : Int) + 1) = (j : Int) + 1 := IntWalk.i64_in _ (by omega)
            have e4 : IntKind.i64.wrap (((j : Int) + 1) * 128) = ((j : Int) + 1) * 128 := IntWalk.i64_in _ (by omega)
            go_region_law (first
              | ((with_reducible refine at_slot 72 ?_); refine step_adds_W rfl _ _ rfl _ (w.heap.size + 2) _ _ _ HAD.out (hwA.alloc hwA.size _).drew rfl (w3.heap.size + 1) _ _ rfl (top_drew (by simp)) (one_IS _ _) hm3 hbs ?_; intro g cap w5 q1 q2 q3 q4; have kN5 := (kN3.up _).drew.at (q3 _ hb3.size (by simp; omega)); have kN6 := kN5.set 1 (.slice (some ⟨g, 0, none⟩) (m' + 1) cap); have kA5 := ((kA3.up _).up _).drew.below q2 (by omega); have kA6 := kA5.other (a := ⟨w3.heap.size, 1, none⟩) (by simp; omega) (.slice (some ⟨g, 0, none⟩) (m' + 1) cap); obtain ⟨n0, n1, n2, n3⟩ := kN5.cell4; have nf1 := kN5.frozen 1))
            all_goals clear e1 e2 e3 e4 n0 n1 n2 n3
            all_goals obtain ⟨n0, n1, n2, n3⟩ := kN6.cell4
            all_goals obtain ⟨a0, a1, a2, a3⟩ := kA6.cell4
            all_goals have af0 := kA6.frozen 0
            all_goals have af1 := kA6.frozen 1
            all_goals have af2 := kA6.frozen 2
            all_goals have af3 := kA6.frozen 3
            all_goals go_wp2_with fail
            all_goals
              go_roundw
              case rel => exact ⟨j + 1, by omega, by go_num, by rw [HLF2.out, HDD2.out]; exact putR_step kA kB HAD.out HM.out HDS.out hdl hdh HAL.out HG.out hbr hb3 rfl (((Below.refl _ _).alloc (Nat.le_refl _) _).alloc (by simp) _).drew (by simp; omega) rfl q1 q2 q4⟩
              case measure => simp [intOf]; omega
        · have hjk : j = k := by omega
          subst hjk
          have hRR : R = (dj, 0) := by
            have := HGO.out
            rw [Nat.sub_self, DiskP.putGo] at this
            exact this.symm
          have HRR := hide hRR
          have hm2 : m' ≤ 1000000000 := by have := HM.out; omega
          obtain ⟨lj, hlj⟩ : ∃ lf, lf = dj.left := ⟨_, rfl⟩
          obtain ⟨ddj, hddj⟩ : ∃ dd, dd = dj.dead := ⟨_, rfl⟩
          rw [← hlj, ← hddj] at kA
          have HLJ := hide hlj
          have HDJ := hide hddj
          clear hRR hlj hddj hlt hsp hm'
          obtain ⟨a0, a1, a2, a3⟩ := kA.cell4
          have af0 := kA.frozen 0
          have af1 := kA.frozen 1
          have af2 := kA.frozen 2
          have af3 := kA.frozen 3
          obtain ⟨q0, q1, q2, q3⟩ := kB.cell4
          have qf0 := kB.frozen 0
          have qf1 := kB.frozen 1
          have qf2 := kB.frozen 2
          have qf3 := kB.frozen 3
          go_wp2_with fail
          have kF := kB.set4 (u0 := .slice A n c) (u1 := .slice B' m' e') (u2 := .int .i64 lj) (u3 := .bool ddj)
          have hbF := below_set4 (b := w.heap.size + 1) (u0 := .slice A n c) (u1 := .slice B' m' e') (u2 := .int .i64 lj) (u3 := .bool ddj) hbr (by omega)
          obtain ⟨s0, s1, s2, s3⟩ := kF.cell4
          refine bodyPost_ret (v := .tuple #[.agg #[.slice A n c, .slice B' m' e', .int .i64 lj, .bool ddj], .int .i64 0]) (by simp [results, Tryz.results94, go_sem, s0, s1, s2, s3]) rfl ⟨_, by rw [HRR.out]; rfl, ?_, hbF⟩
          rw [HRR.out]
          refine ⟨_, _, _, _, _, _, by rw [HLJ.out, HDJ.out], ?_⟩
          exact ((HAD.out.keepB (by rw [set4_size]; exact Nat.le_refl _) fun x hx _ => set4_far (by omega)).dk ((HSD.out.below hbr).keep (by rw [set4_size]; exact Nat.le_refl _) fun x hx _ => set4_far (by omega)) hnle h.cle hm2 HDS.out hdh).mono fun x hx => hx.elim (fun h => .inl h.1) fun h => .inr (by omega)
end Go.Proofs.YtojincohnjophaaGreatDoor
