/- slices.Backward at []string: the iterator's contract. -/
import Derived.RangeFuncBox
import Derived.RangeFuncNested
import Derived.RangeFuncBound
import Derived.RangeFuncCalls
import Derived.RangeFuncLeaves
import Derived.Shelf.Abstract
import Derived.OwnWalkIn
import Derived.TacticsInMore
import Derived.LoopNIn
import Derived.LoopIn
import Derived.Lib.BufStepsIn
import Derived.Test.YteoiadfcchalfaaBase
namespace Go.Proofs.Yteoiadfcchalfaa
open Go.RowKit
set_option linter.unusedVariables false

attribute [local go_sem] Oper.semAt_some

/-- The blocks of V are as they were. -/
def KeepV (V : Nat → Prop) (W W' : World) : Prop := W.heap.size ≤ W'.heap.size ∧ ∀ b, V b → b < W.heap.size → W'.heap[b]? = W.heap[b]?
theorem KeepV.refl (V : Nat → Prop) (W : World) : KeepV V W W := ⟨Nat.le_refl _, fun _ _ _ => rfl⟩
theorem KeepV.trans {V : Nat → Prop} {A B C : World} (h : KeepV V A B) (k : KeepV V B C) : KeepV V A C :=
  ⟨Nat.le_trans h.1 k.1, fun b hv hb => (k.2 b hv (Nat.lt_of_lt_of_le hb h.1)).trans (h.2 b hv hb)⟩
theorem KeepV.cell {V : Nat → Prop} {W W' : World} (h : KeepV V W W') {p : Addr} {u : Value} (hv : V p.block) (hc : W.cell? p = some u) : W'.cell? p = some u :=
  (World.cell?_of_block (w := W) (h.2 p.block hv (World.block_lt_of_cell? W p hc))).trans hc
theorem KeepV.putObj {V : Nat → Prop} {W : World} {l : Nat} (o' : Obj) (h : ∀ b, V b → b ≠ l) : KeepV V W (W.putObj l o') := by
  have hg := grownBy_putObj' W l o'
  exact ⟨hg.size, fun b hv hb => hg.block b hb (by simpa using h b hv)⟩
theorem KeepV.grown {V : Nat → Prop} {W W' : World} {row : Option Nat} (hg : W.grownBy W' row) (h : ∀ b, V b → some b ≠ row) : KeepV V W W' :=
  ⟨hg.size, fun b hv hb => hg.block b hb (h b hv)⟩
theorem KeepV.below {V : Nat → Prop} {W W' : World} (hb : Below W.heap.size W W') : KeepV V W W' := ⟨hb.size, fun b _ h => hb.block b h⟩
theorem Sl.keepV {w w' : World} {V : Nat → Prop} {size n : Nat} {A : Option Addr} {xs : List Value} (h : Sl w V size A n xs) (hk : KeepV V w w') : Sl w' V size A n xs :=
  h.keep hk.1 hk.2

theorem Boxed.below {W W' : World} {B : Nat} {t : TypeId} {v : Value} (h : Boxed W B t v) (hb : Below W.heap.size W W') : Boxed W' B t v := (hb.block B h.lt).trans h

/-- A box that holds a row of one's own, behind an append: what the store into the box wants, and what it leaves. -/
theorem Boxed.apd {W w1 : World} {base B : Nat} {t e : TypeId} {size : Nat} {v v' : Value} {k m : Nat} {xs ys : List Value} (h : Boxed W B t v) (ho : W.ownsRow base e size v k xs) (hte : t ≠ e) (hown : w1.ownsRow base e size v' m ys) (hg : W.grownBy w1 v.ownBlock) :
    (w1.cell? ⟨B, 0, none⟩ = some v ∧ w1.frozen? ⟨B, 0, none⟩ = false) ∧
    (Boxed (w1.setCell ⟨B, 0, none⟩ v') B t v' ∧ (w1.setCell ⟨B, 0, none⟩ v').ownsRow base e size v' m ys) ∧
    (∀ (w0 : World) (b : Nat), Below b w0 W → b ≤ base → b ≤ B → b ≤ W.heap.size → Below b w0 (w1.setCell ⟨B, 0, none⟩ v')) ∧
    (∀ V : Nat → Prop, (∀ x, V x → x ≠ B ∧ some x ≠ v.ownBlock) → KeepV V W (w1.setCell ⟨B, 0, none⟩ v')) ∧ KeepsOthers W (w1.setCell ⟨B, 0, none⟩ v') := by
  have h1 : Boxed w1 B t v := h.kept hg (h.not_row hte ho)
  have hne : some B ≠ v'.ownBlock := h1.not_row hte hown
  have hg2 := grownBy_setCell' w1 B v'
  refine ⟨⟨h1.cell, h1.frozen⟩, ⟨h1.set v', hown.kept hg2 (.inr (Ne.symm hne))⟩, fun w0 b hb h2 h3 h4 => ?_, fun V hV => ?_, ?_⟩
  · exact (hb.grown hg h4 fun k hk => Nat.le_trans h2 (ho.lt k hk).1).setCell h3 _
  · exact (KeepV.grown hg fun x hx => (hV x hx).2).trans (KeepV.grown hg2 fun x hx => by simpa using (hV x hx).1)
  · have hk : KeepsOthers W w1 := KeepsOthers.of_grownBy hg fun j o hj ho' => ?_
    · exact hk.trans (KeepsOthers.setCell _ _ _)
    · rcases ho.2 with ⟨rfl, _⟩ | ⟨g, cap, cur, rfl, _, hgg, _⟩
      · simp [Value.ownBlock] at hj
      · simp [Value.ownBlock] at hj
        subst hj
        rw [hgg] at ho'
        injection ho' with ho'
        subst ho'
        rfl

set_option maxRecDepth 100000 in
set_option maxHeartbeats 1000000 in
theorem backward_any (A : Option Addr) (n c : Nat) (w : World) :
    Calls Try.prog 68 #[.slice A n c] w fun e w' => e = .returned (.func (.func 98) #[] #[.pointer (some ⟨w.heap.size, 0, none⟩)]) ∧ w.alloc (.cells #[.slice A n c] 22) = w' := by
  go_enter Try.func68, Try.ntmps68
  have hmf : ∀ (fn : Fn) (first cap : Array Value) (w : World), (Instr.makeFunc fn first cap).run Try.prog w = .ok (.func fn first cap) w := fun _ _ _ _ => rfl
  go_wp2
  go_ret
  exact ⟨rfl, rfl⟩

/-- a string that goes on a page -/
abbrev Cel := { s : ByteArray // s.size ≤ 1000 }
theorem snd_snoc (pre : List (Nat × Cel)) (i : Nat) (s : Cel) : (pre ++ [(i, s)]).map (fun p => p.2.1) = pre.map (fun p => p.2.1) ++ [s.1] := by simp

set_option maxRecDepth 100000 in
set_option maxHeartbeats 2000000 in
theorem back1_in (F : Fence) (N : Nat) (hF : F.fn 98) (hro : F.round = none) (hN : 1 ≤ N) (l Bs : Nat) (A : Option Addr) (n c : Nat) (ss : List ByteArray) (hn : n ≤ 9223372036854775807) (V : Nat → Prop) (hVB : V Bs) (hle : ∀ s ∈ ss, s.size ≤ 1000) (J Jx : List (Nat × Cel) → World → Prop)
    (hY : ∀ pre x W, J pre W → pre.length < n → YieldAt F (N - 1) Try.prog l #[.int .i64 (x.1 : Int), .string x.2.1] W fun e W' =>
      (e = .returned (.bool true) ∧ J (pre ++ [x]) W' ∧ KeepV V W W') ∨ (e = .returned (.bool false) ∧ Jx (pre ++ [x]) W'))
    (W : World) (hBs : W.cell? ⟨Bs, 0, none⟩ = some (.slice A n c)) (hc : Sl W V 1 A n (strs ss)) (h0 : J [] W) :
    CallsIn F N Try.prog 98 #[.func (.yield l) #[] #[], .pointer (some ⟨Bs, 0, none⟩)] W fun e W' => (∃ v, e = .returned v) ∧
      ((∃ ys, ys.map (fun p => p.2.1) = ss.reverse ∧ J ys W') ∨ (∃ pre, True ∧ Jx pre W')) := by
  have hlen : ss.length = n := hc.len
  refine callsIn_of_wp Try.func98 rfl hF ?_ hro
  simp only [Try.ntmps98, List.size_toArray, List.length_cons, List.length_nil, Nat.reduceAdd, Nat.reduceSub, Array.replicate_succ, Array.replicate_zero, List.push_toArray, List.append_toArray, List.nil_append, List.cons_append]
  have HL := hide hlen
  clear hlen
  gi_wp2
  gi_loopw [3] (fun i wr => ∃ k : Nat, k ≤ n ∧ i = .int .i64 ((n : Int) - 1 - k) ∧ (∃ pre, pre.map (fun p => p.2.1) = (ss.drop (n - k)).reverse ∧ pre.length = k ∧ J pre wr) ∧ KeepV V W wr)
    (fun i _ => (intOf i + 1).toNat)
  case atStart => exact ⟨0, Nat.zero_le _, by simp, ⟨[], by rw [List.drop_of_length_le (by have := HL.out; omega)]; rfl, rfl, h0⟩, KeepV.refl _ _⟩
  case round =>
    obtain ⟨k, hk, rfl, ⟨pre, hpre, hpl, hJs⟩, hnx⟩ := hrel
    by_cases hlt : k < n
    · obtain ⟨a, s, hA, hsk, hcell⟩ := (hc.keepV hnx).str (k := n - 1 - k) (by omega)
      have hs1 : s.size ≤ 1000 := hle s (List.mem_of_getElem? hsk)
      have hBs' := hnx.cell (p := ⟨Bs, 0, none⟩) hVB hBs
      subst hA
      obtain ⟨fn, tmps, assign, body, hy, hR⟩ := hY pre (n - 1 - k, ⟨s, hs1⟩) wr hJs (by omega)
      dsimp only at hy
      have e1 : ((n - 1 - k : Nat) : Int) = (n : Int) - 1 - k := by omega
      rw [e1] at hy
      have e2 : (pre ++ [(n - 1 - k, (⟨s, hs1⟩ : Cel))]).map (fun p => p.2.1) = (ss.drop (n - (k + 1))).reverse := by
        have h1 : n - 1 - k < ss.length := (List.getElem?_eq_some_iff.1 hsk).1
        have h2 : ss[n - 1 - k] = s := (List.getElem?_eq_some_iff.1 hsk).2
        rw [snd_snoc, hpre, show n - (k + 1) = n - 1 - k by omega, List.drop_eq_getElem_cons h1, h2, List.reverse_cons, show n - 1 - k + 1 = n - k by omega]
      have E2 := hide e2
      have HP := hide hpl
      have HX := hide hnx
      clear e1 e2 hpre hpl hsk hnx hBs hc
      gi_wp2
      refine hR.mono ?_
      rintro e W3 (⟨rfl, hJ3, hk3⟩ | ⟨rfl, hJx3⟩)
      · gi_wp2
        go_roundw
        case rel => exact ⟨k + 1, by omega, by congr 1; omega, ⟨_, E2.out, by simp [HP.out], hJ3⟩, HX.out.trans hk3⟩
        case measure => simp [intOf]; omega
      · gi_wp2
        refine bodyPost_ret (results_none rfl _ _ _) rfl ?_
        exact ⟨⟨_, rfl⟩, .inr ⟨_, trivial, hJx3⟩⟩
    · obtain rfl : k = n := by omega
      have HP := hide hpre
      clear hpre hpl hc hBs
      gi_wp2
      go_end0
      exact ⟨⟨_, rfl⟩, .inl ⟨_, by rw [HP.out, Nat.sub_self, List.drop_zero], hJs⟩⟩

theorem back_stops (F : Fence) (N : Nat) (hF : F.fn 98) (hro : F.round = none) (hN : 1 ≤ N) (Bs : Nat) (A : Option Addr) (n c : Nat) (ss : List ByteArray) (hn : n ≤ 9223372036854775807) (V : Nat → Prop) (hVB : V Bs) (hle : ∀ s ∈ ss, s.size ≤ 1000)
    (w : World) (hV : ∀ b, V b → b < w.heap.size) (hBs : w.cell? ⟨Bs, 0, none⟩ = some (.slice A n c)) (hc : Sl w V 1 A n (strs ss)) :
    SeqStopsK F N Try.prog 98 #[.pointer (some ⟨Bs, 0, none⟩)] (fun x : Nat × Cel => #[Value.int .i64 (x.1 : Int), .string x.2.1]) (KeepV V) (fun ys => ys.map (fun p => p.2.1) = ss.reverse) (fun _ => True) n w := fun l J Jx W hW _ _ hY h0 => by
  have hc' := (hW.cell (p := ⟨Bs, 0, none⟩) (hV _ hVB)).trans hBs
  exact back1_in F N hF hro hN l Bs A n c ss hn V hVB hle J Jx hY W hc' (hc.below hW) h0

end Go.Proofs.Yteoiadfcchalfaa
