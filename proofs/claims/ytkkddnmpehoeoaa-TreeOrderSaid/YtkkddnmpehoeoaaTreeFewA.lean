/- What the walk of layer 20's few needs: boxes, one append as a step, text. -/
import Derived.Test.YtkkddnmpehoeoaaTreeRefB
import Derived.Test.YtkkddnmpehoeoaaTreeDelW
namespace Go.Proofs.Ytkkddnmpehoeoaa
open Go.RowKit
open TreeP (Kt Cell kl flat flatL cutT cutC fewK)
set_option linter.unusedVariables false
attribute [local go_sem ↓] Go.wp_at_zero Go.wp_at_succ

set_option maxHeartbeats 400000 in
theorem text_any (s : ByteArray) (w : World) :
    Calls Try.prog 10 #[.string s] w fun e w' => e = .returned (.string (cutT s)) ∧ w = w' := by
  by_cases h : (30 : Int) < (s.size : Int)
  · have e : cutT s = s.extract 0 30 := if_pos h
    rw [e]
    clear e
    go_enter Try.func10, Try.ntmps10
    go_wp2_with fail
    go_ret
    exact ⟨rfl, rfl⟩
  · have e : cutT s = s := if_neg h
    rw [e]
    clear e
    go_enter Try.func10, Try.ntmps10
    go_wp2_with fail
    go_ret
    exact ⟨rfl, rfl⟩

section
variable {w w' : World} {b : Nat} {v1 v2 v3 u1 u2 u3 : Value}
theorem set_far {a : Addr} {u : Value} {k : Nat} (hne : k ≠ a.block) : (w.setCell a u).heap[k]? = w.heap[k]? := by
  simp [World.setCell, Array.getElem?_modify, Ne.symm hne]
theorem set_size {a : Addr} {u : Value} : (w.setCell a u).heap.size = w.heap.size := by simp [World.setCell]
theorem grown_set (w : World) (a : Addr) (u : Value) : w.grownBy (w.setCell a u) (some a.block) :=
  ⟨rfl, rfl, rfl, Nat.le_of_eq set_size.symm, fun k _ hne => set_far (by simpa using hne)⟩
theorem BoxK.set0 (h : BoxK w b v1 v2 v3) (u : Value) : BoxK (w.setCell ⟨b, 0, none⟩ u) b u v2 v3 := by
  unfold BoxK at *; simp [World.setCell, Array.getElem?_modify, h]
theorem BoxK.set1 (h : BoxK w b v1 v2 v3) (u : Value) : BoxK (w.setCell ⟨b, 1, none⟩ u) b v1 u v3 := by
  unfold BoxK at *; simp [World.setCell, Array.getElem?_modify, h]
theorem BoxK.set2 (h : BoxK w b v1 v2 v3) (u : Value) : BoxK (w.setCell ⟨b, 2, none⟩ u) b v1 v2 u := by
  unfold BoxK at *; simp [World.setCell, Array.getElem?_modify, h]
theorem BoxK.at (h : BoxK w b v1 v2 v3) (hk : w'.heap[b]? = w.heap[b]?) : BoxK w' b v1 v2 v3 := by
  unfold BoxK at *; rw [hk]; exact h

/-- the three boxes of few -/
def FB (w : World) (b : Nat) (v1 v2 v3 u1 u2 u3 : Value) : Prop := BoxK w b v1 v2 v3 ∧ BoxK w (b + 1) (.slice none 0 0) (.slice none 0 0) (.slice none 0 0) ∧ BoxK w (b + 2) u1 u2 u3
theorem FB.keep (h : FB w b v1 v2 v3 u1 u2 u3) (hk : ∀ k, b ≤ k → k < b + 3 → w'.heap[k]? = w.heap[k]?) : FB w' b v1 v2 v3 u1 u2 u3 :=
  ⟨h.1.at (hk _ (by omega) (by omega)), h.2.1.at (hk _ (by omega) (by omega)), h.2.2.at (hk _ (by omega) (by omega))⟩
theorem FB.lt (h : FB w b v1 v2 v3 u1 u2 u3) : b + 3 ≤ w.heap.size := by
  have := (Array.getElem?_eq_some_iff.1 h.2.2).1; omega
theorem FB.below (h : FB w b v1 v2 v3 u1 u2 u3) (hb : Below w.heap.size w w') : FB w' b v1 v2 v3 u1 u2 u3 := h.keep fun k _ hk => hb.block k (by have := h.lt; omega)
theorem FB.apd {base : Nat} {e : TypeId} {size : Nat} {v v' : Value} {n m : Nat} {xs ys : List Value} (h : FB w b v1 v2 v3 u1 u2 u3) (ho : w.ownsRow base e size v m ys) (hb : b + 3 ≤ base) (hA : Apd w w' base e size v v' n xs) : FB w' b v1 v2 v3 u1 u2 u3 :=
  h.keep fun k _ hk => hA.grown.block k (by have := h.lt; omega) (fun e => by have := (ho.lt k e.symm).1; omega)
theorem FB.set0 (h : FB w b v1 v2 v3 u1 u2 u3) (u : Value) : FB (w.setCell ⟨b + 2, 0, none⟩ u) b v1 v2 v3 u u2 u3 :=
  ⟨h.1.at (set_far (by simp)), h.2.1.at (set_far (by simp)), h.2.2.set0 u⟩
theorem FB.set1 (h : FB w b v1 v2 v3 u1 u2 u3) (u : Value) : FB (w.setCell ⟨b + 2, 1, none⟩ u) b v1 v2 v3 u1 u u3 :=
  ⟨h.1.at (set_far (by simp)), h.2.1.at (set_far (by simp)), h.2.2.set1 u⟩
theorem FB.set2 (h : FB w b v1 v2 v3 u1 u2 u3) (u : Value) : FB (w.setCell ⟨b + 2, 2, none⟩ u) b v1 v2 v3 u1 u2 u :=
  ⟨h.1.at (set_far (by simp)), h.2.1.at (set_far (by simp)), h.2.2.set2 u⟩
/-- what a walk needs of them -/
theorem FB.cells (h : FB w b v1 v2 v3 u1 u2 u3) : (w.cell? ⟨b, 0, none⟩ = some v1 ∧ w.cell? ⟨b, 1, none⟩ = some v2 ∧ w.cell? ⟨b, 2, none⟩ = some v3) ∧
    (w.cell? ⟨b + 2, 0, none⟩ = some u1 ∧ w.cell? ⟨b + 2, 1, none⟩ = some u2 ∧ w.cell? ⟨b + 2, 2, none⟩ = some u3) ∧
    w.frozen? ⟨b + 2, 0, none⟩ = false ∧ w.frozen? ⟨b + 2, 1, none⟩ = false ∧ w.frozen? ⟨b + 2, 2, none⟩ = false :=
  ⟨h.1.cell, h.2.2.cell, h.2.2.frozen 0, h.2.2.frozen 1, h.2.2.frozen 2⟩
theorem own_set {base : Nat} {e : TypeId} {size n : Nat} {v : Value} {xs : List Value} {a : Addr} (h : w.ownsRow base e size v n xs) (hb : a.block < base) (u : Value) : (w.setCell a u).ownsRow base e size v n xs :=
  h.kept (grown_set w a u) (by
    cases hv : v.ownBlock with
    | none => exact .inl rfl
    | some g => exact .inr (by intro e; injection e with e; have := (h.lt g hv).1; omega))
theorem SlV.keep {V : Nat → Prop} {size n : Nat} {v : Value} {xs : List Value} (h : SlV w V size v n xs) (hs : w.heap.size ≤ w'.heap.size) (hk : ∀ b, V b → b < w.heap.size → w'.heap[b]? = w.heap[b]?) : SlV w' V size v n xs := by
  obtain ⟨A, c, e, h1, h2⟩ := h
  exact ⟨A, c, e, h1, h2.keep hs hk⟩
theorem SlV.mono {V V' : Nat → Prop} {size n : Nat} {v : Value} {xs : List Value} (h : SlV w V size v n xs) (hV : ∀ b, V b → V' b) : SlV w V' size v n xs := by
  obtain ⟨A, c, e, h1, h2⟩ := h
  exact ⟨A, c, e, h1, h2.mono hV⟩
theorem SlV.lt {V : Nat → Prop} {size n : Nat} {v : Value} {xs : List Value} (h : SlV w V size v n xs) : SlV w (fun b => V b ∧ b < w.heap.size) size v n xs := by
  obtain ⟨A, c, e, h1, h2⟩ := h
  exact ⟨A, c, e, h1, h2.lt'⟩
end

section
variable {w : World} {ops : Array Oper} {K : Act → World → Prop} {E : Prop} {o : Oper} {a : Act} {Q : Exit → Act → World → Prop}
/-- one more, as a step of a region that draws -/
theorem step_one {e t : TypeId} {i : TypeInfo} {z : Value} {size bytes : Nat} (ht : Try.prog.underlying t = some (.slice e)) (hi : Try.prog.info? e = some i) (hz : i.zero = some z)
    (hsize : i.size = size) (hby : i.bytes = bytes) (hzs : z.cells.size = size) (hsz : 0 < size) (hbb : bytes ≤ 100)
    (hgd : o.guard = none) (s x : Operand) (ho : o.op = .call { callee := .builtin .append, args := #[s, x], argTypes := #[t, t] })
    (base : Nat) (v : Value) (n : Nat) (xs : List Value) (hown : w.ownsRow base e size v n xs) (hs : a.eval s = v)
    (B : Nat) (news : List Value) (hx : a.eval x = .slice (some ⟨B, 0, none⟩) 1 1) (hb : w.heap[B]? = some (.cells news.toArray e (0, 0))) (hl : news.length = size) (h1 : ∀ u ∈ news, u.oneCell' = true) (hn : n ≤ 1000000000000) (hbase : base ≤ w.heap.size)
    (h : ∀ g cap w', Apd w w' base e size v (.slice (some ⟨g, 0, none⟩) (n + 1) cap) (n + 1) (xs ++ news) → K (a.put o.dst (.slice (some ⟨g, 0, none⟩) (n + 1) cap)) w') : if Region.wanted o (yielded ops a.tmps) = true then Oper.wp Try.prog o a w K Q else E := by
  refine step_append_lies w hgd s x t ho base e i z size bytes ht hi hz hsize hby hzs hsz v n xs hs hown ⟨B, 0, none⟩ 1 1 news hx (by omega) ?_ h1 (by omega) (by simp only [maxLen]; omega) ?_ hbase w.heap.size rfl fun g cap w' q1 q2 q3 q4 => h g cap w' ⟨q1, q2, q3.imp (fun h => h.symm) fun h => ⟨g, rfl, by omega⟩⟩
  · have := World.news_of_block (w := w) (B := B) (cs := news.toArray) (t := e) (fr := (0, 0)) hb
    simpa using this
  · have := Nat.mul_le_mul_left (n + 1) hbb
    omega
end
theorem step_one_C {w : World} {ops : Array Oper} {K : Act → World → Prop} {E : Prop} {o : Oper} {a : Act} {Q : Exit → Act → World → Prop}
    (hgd : o.guard = none) (s x : Operand) (ho : o.op = .call { callee := .builtin .append, args := #[s, x], argTypes := #[22, 22] })
    (base : Nat) (v : Value) (n : Nat) (xs : List Value) (hown : w.ownsRow base 44 2 v n xs) (hs : a.eval s = v)
    (B : Nat) (p q : Value) (hx : a.eval x = .slice (some ⟨B, 0, none⟩) 1 1) (hb : w.heap[B]? = some (.cells #[p, q] 44 (0, 0))) (h1 : ∀ u ∈ [p, q], u.oneCell' = true) (hn : n ≤ 1000000000000) (hbase : base ≤ w.heap.size)
    (h : ∀ g cap w', Apd w w' base 44 2 v (.slice (some ⟨g, 0, none⟩) (n + 1) cap) (n + 1) (xs ++ [p, q]) → K (a.put o.dst (.slice (some ⟨g, 0, none⟩) (n + 1) cap)) w') : if Region.wanted o (yielded ops a.tmps) = true then Oper.wp Try.prog o a w K Q else E := by
  obtain ⟨i0, hi, hz0, hz1, hz2⟩ := info_parts Try.infoXC
  exact step_one Try.underlying22 hi hz0 hz1 hz2 rfl (by decide) (by decide) hgd s x ho base v n xs hown hs B [p, q] hx hb rfl h1 hn hbase h
theorem step_one_S {w : World} {ops : Array Oper} {K : Act → World → Prop} {E : Prop} {o : Oper} {a : Act} {Q : Exit → Act → World → Prop}
    (hgd : o.guard = none) (s x : Operand) (ho : o.op = .call { callee := .builtin .append, args := #[s, x], argTypes := #[23, 23] })
    (base : Nat) (v : Value) (n : Nat) (xs : List Value) (hown : w.ownsRow base 9 1 v n xs) (hs : a.eval s = v)
    (B : Nat) (p : Value) (hx : a.eval x = .slice (some ⟨B, 0, none⟩) 1 1) (hb : w.heap[B]? = some (.cells #[p] 9 (0, 0))) (h1 : ∀ u ∈ [p], u.oneCell' = true) (hn : n ≤ 1000000000000) (hbase : base ≤ w.heap.size)
    (h : ∀ g cap w', Apd w w' base 9 1 v (.slice (some ⟨g, 0, none⟩) (n + 1) cap) (n + 1) (xs ++ [p]) → K (a.put o.dst (.slice (some ⟨g, 0, none⟩) (n + 1) cap)) w') : if Region.wanted o (yielded ops a.tmps) = true then Oper.wp Try.prog o a w K Q else E := by
  obtain ⟨i0, hi, hz0, hz1, hz2⟩ := info_parts Try.infoXS
  exact step_one Try.underlying23 hi hz0 hz1 hz2 rfl (by decide) (by decide) hgd s x ho base v n xs hown hs B [p] hx hb rfl h1 hn hbase h
theorem step_one_K {w : World} {ops : Array Oper} {K : Act → World → Prop} {E : Prop} {o : Oper} {a : Act} {Q : Exit → Act → World → Prop}
    (hgd : o.guard = none) (s x : Operand) (ho : o.op = .call { callee := .builtin .append, args := #[s, x], argTypes := #[24, 24] })
    (base : Nat) (v : Value) (n : Nat) (xs : List Value) (hown : w.ownsRow base 26 3 v n xs) (hs : a.eval s = v)
    (B : Nat) (p q r : Value) (hx : a.eval x = .slice (some ⟨B, 0, none⟩) 1 1) (hb : w.heap[B]? = some (.cells #[p, q, r] 26 (0, 0))) (h1 : ∀ u ∈ [p, q, r], u.oneCell' = true) (hn : n ≤ 1000000000000) (hbase : base ≤ w.heap.size)
    (h : ∀ g cap w', Apd w w' base 26 3 v (.slice (some ⟨g, 0, none⟩) (n + 1) cap) (n + 1) (xs ++ [p, q, r]) → K (a.put o.dst (.slice (some ⟨g, 0, none⟩) (n + 1) cap)) w') : if Region.wanted o (yielded ops a.tmps) = true then Oper.wp Try.prog o a w K Q else E := by
  obtain ⟨i0, hi, hz0, hz1, hz2⟩ := info_parts Try.infoXK
  exact step_one Try.underlying24 hi hz0 hz1 hz2 rfl (by decide) (by decide) hgd s x ho base v n xs hown hs B [p, q, r] hx hb rfl h1 hn hbase h
end Go.Proofs.Ytkkddnmpehoeoaa
