/- The walks of slices.Grow, Concat and Clone at layer 20's element types (printed by gencat.py). -/
import Derived.Test.YtojincohnjophaaGreatDoorTreeA
import Derived.Lib.AppendZerosOnto
import Derived.Lib.SliceRun
namespace Go.Proofs.YtojincohnjophaaGreatDoor
open Go.RowKit
set_option linter.unusedVariables false

/-- slice values that read as lists of cells (with how many elements each has) -/
def Rws (w : World) (size : Nat) (vals : List Value) (rows : List (Nat × List Value)) : Prop :=
  vals.length = rows.length ∧ ∀ (i : Nat) (r : Nat × List Value), rows[i]? = some r → ∃ A c, vals[i]? = some (Value.slice A r.1 c) ∧ Sl w (fun _ => True) size A r.1 r.2
def total : List (Nat × List Value) → Nat
  | [] => 0
  | r :: l => r.1 + total l
def joined : List (Nat × List Value) → List Value
  | [] => []
  | r :: l => r.2 ++ joined l
theorem total_append (a b : List (Nat × List Value)) : total (a ++ b) = total a + total b := by
  induction a with
  | nil => simp [total]
  | cons x a ih => simp [total, ih]; omega
theorem joined_append (a b : List (Nat × List Value)) : joined (a ++ b) = joined a ++ joined b := by
  induction a with
  | nil => simp [joined]
  | cons x a ih => simp [joined, ih]
theorem total_take_succ {l : List (Nat × List Value)} {k : Nat} {r : Nat × List Value} (h : l[k]? = some r) : total (l.take (k + 1)) = total (l.take k) + r.1 := by
  have h1 : k < l.length := (List.getElem?_eq_some_iff.1 h).1
  rw [List.take_succ_eq_append_getElem h1, total_append, (List.getElem?_eq_some_iff.1 h).2]; simp [total]
theorem joined_take_succ {l : List (Nat × List Value)} {k : Nat} {r : Nat × List Value} (h : l[k]? = some r) : joined (l.take (k + 1)) = joined (l.take k) ++ r.2 := by
  have h1 : k < l.length := (List.getElem?_eq_some_iff.1 h).1
  rw [List.take_succ_eq_append_getElem h1, joined_append, (List.getElem?_eq_some_iff.1 h).2]; simp [joined]
theorem total_take_le (l : List (Nat × List Value)) (k : Nat) : total (l.take k) ≤ total l := by
  have h : total l = total (l.take k) + total (l.drop k) := by rw [← total_append, List.take_append_drop]
  omega
theorem Rws.below {w w' : World} {size : Nat} {vals : List Value} {rows : List (Nat × List Value)} (h : Rws w size vals rows) (hb : Below w.heap.size w w') : Rws w' size vals rows :=
  ⟨h.1, fun i r hr => by
    obtain ⟨A, c, h1, h2⟩ := h.2 i r hr
    exact ⟨A, c, h1, h2.below hb⟩⟩
/-! ### C -/
theorem Tryz.infoXC : (Tryz.prog.info? 36).map (fun i => (i.zero, i.size, i.bytes)) = some (some (.agg #[.string .empty, .string .empty]), 2, 32) := by kernel_rfl

/-- an append of a slice whose cells are known -/
theorem app_C {w : World} {ops : Array Oper} {rest : List Oper} {o : Oper} {a : Act} {Q : Exit → Act → World → Prop} (hgd : o.guard = none) (s x : Operand)
    (ho : o.op = .call { callee := .builtin .append, args := #[s, x], argTypes := #[26, 26] })
    (base : Nat) (v : Value) (n : Nat) (xs : List Value) (hown : w.ownsRow base 36 2 v n xs) (hs : a.eval s = v)
    (V : Nat → Prop) (A : Option Addr) (m c : Nat) (news : List Value) (hx : a.eval x = .slice A m c) (hr : Sl w V 2 A m news) (h1 : ∀ u ∈ news, u.oneCell' = true) (hn : n + m ≤ 1000000000000) (hbase : base ≤ w.heap.size)
    (h : ∀ v' w', Apd w w' base 36 2 v v' (n + m) (xs ++ news) → wpList Tryz.prog ops Q rest (a.put o.dst v') w') : wpList Tryz.prog ops Q (o :: rest) a w := by
  obtain ⟨i0, hi, hz0, hz1, hz2⟩ := info_parts Tryz.infoXC
  exact wp_app (P := Tryz.prog) hgd s x 26 ho base 36 i0 (.agg #[.string .empty, .string .empty]) 2 32 Tryz.underlying26 hi hz0 hz1 hz2 rfl (by decide) v n xs hown hs V A m c news hx hr h1 (by simp only [maxLen]; omega) (by omega) hbase h
set_option maxRecDepth 100000 in
set_option maxHeartbeats 800000 in
theorem grow_C (n : Nat) (w : World) (hn : n ≤ 1000000000000) :
    Calls Tryz.prog 82 #[.slice none 0 0, .int .i64 n] w fun e w' => ∃ v, e = .returned v ∧ w'.ownsRow w.heap.size 36 2 v 0 [] ∧ Below w.heap.size w w' := by
  by_cases h0 : n = 0
  · subst h0
    go_enter Tryz.func82, Tryz.ntmps82
    go_wp2_with fail
    go_ret
    exact ⟨_, rfl, World.ownsRow_nil w _ _ _, Below.refl _ _⟩
  · obtain ⟨i0, hi, hz0, hz1, hz2⟩ := info_parts Tryz.infoXC
    have hrz : ∀ ty, (Builtin.append_ #[26, 3] ty #[.slice none 0 0, .int .i64 (n : Int)]).run Tryz.prog w =
        .ok (.slice (some ⟨w.heap.size, 0, none⟩) n (grownCap w n 0 36)) (w.drew.alloc (.cells (#[] ++ Builtin.zeroCells (.agg #[.string .empty, .string .empty] : Value).cells n ++ Builtin.zeroCells (.agg #[.string .empty, .string .empty] : Value).cells (grownCap w n 0 36 - n)) 36)) := fun ty => by
      have h := Lib.run_append_grow_zeros (P := Tryz.prog) w 26 3 ty 36 i0 (.agg #[.string .empty, .string .empty]) .i64 .i64 Tryz.underlying26 Tryz.underlying3 hi hz0 none 0 0 [] (run_firstCells_none w.drew i0.size 0 0 0) n (by omega) (by rw [hz1]; omega) (by omega) (by omega)
        (by rw [hz2]; omega) (by rw [Nat.zero_add]; exact growslice_fits (by omega) (by rw [hz2]; omega))
      rw [Nat.zero_add] at h
      exact h
    have hg1 := grownCap_ge w n 0 36
    have hg2 := grownCap_le_maxLen w n 0 36 (by unfold maxLen; omega)
    generalize grownCap w n 0 36 = G at *
    have hown := World.ownsRow_made (base := w.heap.size) (e := 36) (size := 2) w.drew (#[] ++ Builtin.zeroCells (.agg #[.string .empty, .string .empty] : Value).cells n ++ Builtin.zeroCells (.agg #[.string .empty, .string .empty] : Value).cells (G - n)) G (Nat.le_refl _) hg2 (by
      simp only [Array.size_append, size_zeroCells]
      show 0 + n * 2 + (G - n) * 2 = G * 2
      rw [Nat.zero_add, ← Nat.add_mul]
      congr 1
      omega)
    have hb : Below w.heap.size w (w.drew.alloc (.cells (#[] ++ Builtin.zeroCells (.agg #[.string .empty, .string .empty] : Value).cells n ++ Builtin.zeroCells (.agg #[.string .empty, .string .empty] : Value).cells (G - n)) 36)) := (below_drewN (Below.refl _ _) 1).alloc (Nat.le_refl _) _
    generalize w.drew.alloc (.cells (#[] ++ Builtin.zeroCells (.agg #[.string .empty, .string .empty] : Value).cells n ++ Builtin.zeroCells (.agg #[.string .empty, .string .empty] : Value).cells (G - n)) 36) = w1 at *
    unfold maxLen at hg2
    have hpos : (0 : Int) < (n : Int) := by omega
    have HRZ := hide hrz
    clear hi hz0 hz1 hz2 hrz h0
    go_enter Tryz.func82, Tryz.ntmps82
    go_wp2_with (at_builtin; refine Lib.wpList_append_run _ rfl _ _ _ _ rfl _ _ rfl rfl _ _ (HRZ.out _) ?_)
    go_ret
    exact ⟨_, rfl, hown, hb⟩

set_option maxRecDepth 100000 in
set_option maxHeartbeats 800000 in
theorem concat_C (A : Option Addr) (m c : Nat) (vals : List Value) (rows : List (Nat × List Value)) (V : Nat → Prop) (w : World) (h : Sl w V 1 A m vals) (hr : Rws w 2 vals rows) (hm : m ≤ 1000) (ht : total rows ≤ 1000000000) (h1 : ∀ r ∈ rows, ∀ u ∈ r.2, u.oneCell' = true) :
    Calls Tryz.prog 44 #[.slice A m c] w fun e w' => ∃ v, e = .returned v ∧ w'.ownsRow w.heap.size 36 2 v (total rows) (joined rows) ∧ Below w.heap.size w w' := by
  have hlen : rows.length = m := by have := h.1; have := hr.1; omega
  have HL := hide hlen
  have H1 := hide h1
  have HT := hide ht
  clear hlen h1 ht
  go_enter Tryz.func44, Tryz.ntmps44
  go_wp2_with fail
  go_loop [3, 5, 11] (fun s x i => ∃ k : Nat, k ≤ m ∧ i = .int .i64 k ∧ s = .int .i64 (total (rows.take k) : Nat)) (fun _ _ i => m - (intOf i).toNat)
  case atStart => exact ⟨0, Nat.zero_le _, rfl, by simp [total]⟩
  case round =>
    obtain ⟨k, hk, rfl, rfl⟩ := hrel
    by_cases hlt : k < m
    · obtain ⟨r, hrk⟩ : ∃ r, rows[k]? = some r := ⟨_, List.getElem?_eq_getElem (by rw [HL.out]; exact hlt)⟩
      obtain ⟨A1, c1, hv, hs⟩ := hr.2 k r hrk
      obtain ⟨a, hA, hc⟩ := sl_get h hv
      subst hA
      have hsum := total_take_succ hrk
      have hle := total_take_le rows (k + 1)
      have := HT.out
      have hb1 : (total (rows.take k) : Int) + (r.1 : Int) ≤ 1000000000 := by omega
      have HS := hide hsum
      clear hsum hle hrk hv hs h hr this
      go_wp2_with fail
      go_round
      case rel => exact ⟨k + 1, by omega, by go_num, by rw [HS.out]; go_num⟩
      case measure => simp [intOf]; omega
    · obtain rfl : k = m := by omega
      have hall : rows.take k = rows := List.take_of_length_le (by have := HL.out; omega)
      rw [hall]
      have := HT.out
      clear hall
      go_wp2_with fail
      refine (grow_C (total rows) w (by omega)).mono ?_
      rintro e w1 ⟨v1, rfl, ho1, hb1⟩
      clear this hlt hk
      go_wp2_with fail
      go_loopw [6, 8, 27] (fun v x i wr => ∃ q : Nat, q ≤ k ∧ i = .int .i64 q ∧ wr.ownsRow w.heap.size 36 2 v (total (rows.take q)) (joined (rows.take q)) ∧ Below w.heap.size w wr) (fun _ _ i _ => k - (intOf i).toNat)
      case atStart => exact ⟨0, Nat.zero_le _, rfl, by simpa [total, joined] using ho1, hb1⟩
      case round =>
        clear ho1 hb1
        obtain ⟨q, hq, rfl, ho, hb⟩ := hrel
        by_cases hlt : q < k
        · obtain ⟨r, hrq⟩ : ∃ r, rows[q]? = some r := ⟨_, List.getElem?_eq_getElem (by rw [HL.out]; exact hlt)⟩
          obtain ⟨A1, c1, hv, hs⟩ := (hr.below hb).2 q r hrq
          obtain ⟨a, hA, hc⟩ := sl_get (h.below hb) hv
          subst hA
          have hsum := total_take_succ hrq
          have hjn := joined_take_succ hrq
          have hle := total_take_le rows (q + 1)
          have hone := H1.out r (List.mem_of_getElem? hrq)
          have := HT.out
          have hb1 : total (rows.take q) + r.1 ≤ 1000000000000 := by omega
          have HS := hide hsum
          have HJ := hide hjn
          clear hsum hjn hle hrq hv h hr this
          go_wp2_with (at_builtin; refine app_C rfl _ _ rfl w.heap.size _ _ _ ho rfl _ _ _ _ r.2 rfl hs hone hb1 hb.size ?_; intro v' w2 hA)
          have hb2 := hA.below ho hb (Nat.le_refl _) hb.size
          go_roundw
          case rel => exact ⟨q + 1, by omega, by go_num, by rw [HS.out, HJ.out]; exact hA.own, hb2⟩
          case measure => simp [intOf]; omega
        · obtain rfl : q = k := by omega
          have hall : rows.take q = rows := List.take_of_length_le (by have := HL.out; omega)
          rw [hall] at ho
          clear hall
          go_wp2_with fail
          go_ret
          exact ⟨_, rfl, ho, hb⟩

set_option maxRecDepth 100000 in
set_option maxHeartbeats 800000 in
theorem clone_C (A : Option Addr) (n c : Nat) (xs : List Value) (V : Nat → Prop) (w : World) (h : Sl w V 2 A n xs) (hn : n ≤ 1000000000) (h1 : ∀ u ∈ xs, u.oneCell' = true) :
    Calls Tryz.prog 119 #[.slice A n c] w fun e w' => ∃ v, e = .returned v ∧ w'.ownsRow w.heap.size 36 2 v n xs ∧ Below w.heap.size w w' := by
  have heq : ∀ w, (binOp .eql 26 (.slice A n c) (.slice none 0 0)).run Tryz.prog w = .ok (.bool A.isNone) w := fun w => by
    have := Lib.run_eql_slice_nil (P := Tryz.prog) w 26 36 A n c 0 0 Tryz.underlying26
    simpa using this
  have hone := h1
  have HO := hide hone
  clear h1 hone
  rcases A with _ | a
  · have hz : n = 0 := by
      rcases Nat.eq_zero_or_pos n with h0 | h0
      · exact h0
      · obtain ⟨a, e, _⟩ := h.2 h0; cases e
    subst hz
    have hx : xs = [] := List.eq_nil_of_length_eq_zero (by simpa using h.1)
    subst hx
    clear h
    go_enter Tryz.func119, Tryz.ntmps119
    go_wp2_with fail
    go_ret
    exact ⟨_, rfl, World.ownsRow_nil w _ _ _, Below.refl _ _⟩
  · have hb : Below w.heap.size w (w.alloc (.cells #[] 36)) := (Below.refl _ _).alloc (Nat.le_refl _) _
    have ho : (w.alloc (.cells #[] 36)).ownsRow w.heap.size 36 2 (.slice (some ⟨w.heap.size, 0, none⟩) 0 0) 0 [] := World.ownsRow_made w #[] 0 (Nat.le_refl _) (Nat.zero_le _) (by simp)
    have hs := h.below hb
    clear h
    go_enter Tryz.func119, Tryz.ntmps119
    go_wp2_with (at_builtin; refine app_C rfl _ _ rfl w.heap.size _ _ _ ho rfl _ _ _ _ xs rfl hs HO.out (by omega) (by simp) ?_; intro v' w2 hA)
    have hb2 := hA.below ho hb (Nat.le_refl _) (by simp)
    have ho2 := hA.own
    rw [Nat.zero_add, List.nil_append] at ho2
    go_ret
    exact ⟨_, rfl, ho2, hb2⟩

/-! ### K -/
theorem Tryz.infoXK : (Tryz.prog.info? 29).map (fun i => (i.zero, i.size, i.bytes)) = some (some (.agg #[.slice none 0 0, .slice none 0 0, .slice none 0 0]), 3, 72) := by kernel_rfl

/-- an append of a slice whose cells are known -/
theorem app_K {w : World} {ops : Array Oper} {rest : List Oper} {o : Oper} {a : Act} {Q : Exit → Act → World → Prop} (hgd : o.guard = none) (s x : Operand)
    (ho : o.op = .call { callee := .builtin .append, args := #[s, x], argTypes := #[27, 27] })
    (base : Nat) (v : Value) (n : Nat) (xs : List Value) (hown : w.ownsRow base 29 3 v n xs) (hs : a.eval s = v)
    (V : Nat → Prop) (A : Option Addr) (m c : Nat) (news : List Value) (hx : a.eval x = .slice A m c) (hr : Sl w V 3 A m news) (h1 : ∀ u ∈ news, u.oneCell' = true) (hn : n + m ≤ 1000000000000) (hbase : base ≤ w.heap.size)
    (h : ∀ v' w', Apd w w' base 29 3 v v' (n + m) (xs ++ news) → wpList Tryz.prog ops Q rest (a.put o.dst v') w') : wpList Tryz.prog ops Q (o :: rest) a w := by
  obtain ⟨i0, hi, hz0, hz1, hz2⟩ := info_parts Tryz.infoXK
  exact wp_app (P := Tryz.prog) hgd s x 27 ho base 29 i0 (.agg #[.slice none 0 0, .slice none 0 0, .slice none 0 0]) 3 72 Tryz.underlying27 hi hz0 hz1 hz2 rfl (by decide) v n xs hown hs V A m c news hx hr h1 (by simp only [maxLen]; omega) (by omega) hbase h
set_option maxRecDepth 100000 in
set_option maxHeartbeats 800000 in
theorem grow_K (n : Nat) (w : World) (hn : n ≤ 1000000000000) :
    Calls Tryz.prog 121 #[.slice none 0 0, .int .i64 n] w fun e w' => ∃ v, e = .returned v ∧ w'.ownsRow w.heap.size 29 3 v 0 [] ∧ Below w.heap.size w w' := by
  by_cases h0 : n = 0
  · subst h0
    go_enter Tryz.func121, Tryz.ntmps121
    go_wp2_with fail
    go_ret
    exact ⟨_, rfl, World.ownsRow_nil w _ _ _, Below.refl _ _⟩
  · obtain ⟨i0, hi, hz0, hz1, hz2⟩ := info_parts Tryz.infoXK
    have hrz : ∀ ty, (Builtin.append_ #[27, 3] ty #[.slice none 0 0, .int .i64 (n : Int)]).run Tryz.prog w =
        .ok (.slice (some ⟨w.heap.size, 0, none⟩) n (grownCap w n 0 29)) (w.drew.alloc (.cells (#[] ++ Builtin.zeroCells (.agg #[.slice none 0 0, .slice none 0 0, .slice none 0 0] : Value).cells n ++ Builtin.zeroCells (.agg #[.slice none 0 0, .slice none 0 0, .slice none 0 0] : Value).cells (grownCap w n 0 29 - n)) 29)) := fun ty => by
      have h := Lib.run_append_grow_zeros (P := Tryz.prog) w 27 3 ty 29 i0 (.agg #[.slice none 0 0, .slice none 0 0, .slice none 0 0]) .i64 .i64 Tryz.underlying27 Tryz.underlying3 hi hz0 none 0 0 [] (run_firstCells_none w.drew i0.size 0 0 0) n (by omega) (by rw [hz1]; omega) (by omega) (by omega)
        (by rw [hz2]; omega) (by rw [Nat.zero_add]; exact growslice_fits (by omega) (by rw [hz2]; omega))
      rw [Nat.zero_add] at h
      exact h
    have hg1 := grownCap_ge w n 0 29
    have hg2 := grownCap_le_maxLen w n 0 29 (by unfold maxLen; omega)
    generalize grownCap w n 0 29 = G at *
    have hown := World.ownsRow_made (base := w.heap.size) (e := 29) (size := 3) w.drew (#[] ++ Builtin.zeroCells (.agg #[.slice none 0 0, .slice none 0 0, .slice none 0 0] : Value).cells n ++ Builtin.zeroCells (.agg #[.slice none 0 0, .slice none 0 0, .slice none 0 0] : Value).cells (G - n)) G (Nat.le_refl _) hg2 (by
      simp only [Array.size_append, size_zeroCells]
      show 0 + n * 3 + (G - n) * 3 = G * 3
      rw [Nat.zero_add, ← Nat.add_mul]
      congr 1
      omega)
    have hb : Below w.heap.size w (w.drew.alloc (.cells (#[] ++ Builtin.zeroCells (.agg #[.slice none 0 0, .slice none 0 0, .slice none 0 0] : Value).cells n ++ Builtin.zeroCells (.agg #[.slice none 0 0, .slice none 0 0, .slice none 0 0] : Value).cells (G - n)) 29)) := (below_drewN (Below.refl _ _) 1).alloc (Nat.le_refl _) _
    generalize w.drew.alloc (.cells (#[] ++ Builtin.zeroCells (.agg #[.slice none 0 0, .slice none 0 0, .slice none 0 0] : Value).cells n ++ Builtin.zeroCells (.agg #[.slice none 0 0, .slice none 0 0, .slice none 0 0] : Value).cells (G - n)) 29) = w1 at *
    unfold maxLen at hg2
    have hpos : (0 : Int) < (n : Int) := by omega
    have HRZ := hide hrz
    clear hi hz0 hz1 hz2 hrz h0
    go_enter Tryz.func121, Tryz.ntmps121
    go_wp2_with (at_builtin; refine Lib.wpList_append_run _ rfl _ _ _ _ rfl _ _ rfl rfl _ _ (HRZ.out _) ?_)
    go_ret
    exact ⟨_, rfl, hown, hb⟩

set_option maxRecDepth 100000 in
set_option maxHeartbeats 800000 in
theorem concat_K (A : Option Addr) (m c : Nat) (vals : List Value) (rows : List (Nat × List Value)) (V : Nat → Prop) (w : World) (h : Sl w V 1 A m vals) (hr : Rws w 3 vals rows) (hm : m ≤ 1000) (ht : total rows ≤ 1000000000) (h1 : ∀ r ∈ rows, ∀ u ∈ r.2, u.oneCell' = true) :
    Calls Tryz.prog 86 #[.slice A m c] w fun e w' => ∃ v, e = .returned v ∧ w'.ownsRow w.heap.size 29 3 v (total rows) (joined rows) ∧ Below w.heap.size w w' := by
  have hlen : rows.length = m := by have := h.1; have := hr.1; omega
  have HL := hide hlen
  have H1 := hide h1
  have HT := hide ht
  clear hlen h1 ht
  go_enter Tryz.func86, Tryz.ntmps86
  go_wp2_with fail
  go_loop [3, 5, 11] (fun s x i => ∃ k : Nat, k ≤ m ∧ i = .int .i64 k ∧ s = .int .i64 (total (rows.take k) : Nat)) (fun _ _ i => m - (intOf i).toNat)
  case atStart => exact ⟨0, Nat.zero_le _, rfl, by simp [total]⟩
  case round =>
    obtain ⟨k, hk, rfl, rfl⟩ := hrel
    by_cases hlt : k < m
    · obtain ⟨r, hrk⟩ : ∃ r, rows[k]? = some r := ⟨_, List.getElem?_eq_getElem (by rw [HL.out]; exact hlt)⟩
      obtain ⟨A1, c1, hv, hs⟩ := hr.2 k r hrk
      obtain ⟨a, hA, hc⟩ := sl_get h hv
      subst hA
      have hsum := total_take_succ hrk
      have hle := total_take_le rows (k + 1)
      have := HT.out
      have hb1 : (total (rows.take k) : Int) + (r.1 : Int) ≤ 1000000000 := by omega
      have HS := hide hsum
      clear hsum hle hrk hv hs h hr this
      go_wp2_with fail
      go_round
      case rel => exact ⟨k + 1, by omega, by go_num, by rw [HS.out]; go_num⟩
      case measure => simp [intOf]; omega
    · obtain rfl : k = m := by omega
      have hall : rows.take k = rows := List.take_of_length_le (by have := HL.out; omega)
      rw [hall]
      have := HT.out
      clear hall
      go_wp2_with fail
      refine (grow_K (total rows) w (by omega)).mono ?_
      rintro e w1 ⟨v1, rfl, ho1, hb1⟩
      clear this hlt hk
      go_wp2_with fail
      go_loopw [6, 8, 27] (fun v x i wr => ∃ q : Nat, q ≤ k ∧ i = .int .i64 q ∧ wr.ownsRow w.heap.size 29 3 v (total (rows.take q)) (joined (rows.take q)) ∧ Below w.heap.size w wr) (fun _ _ i _ => k - (intOf i).toNat)
      case atStart => exact ⟨0, Nat.zero_le _, rfl, by simpa [total, joined] using ho1, hb1⟩
      case round =>
        clear ho1 hb1
        obtain ⟨q, hq, rfl, ho, hb⟩ := hrel
        by_cases hlt : q < k
        · obtain ⟨r, hrq⟩ : ∃ r, rows[q]? = some r := ⟨_, List.getElem?_eq_getElem (by rw [HL.out]; exact hlt)⟩
          obtain ⟨A1, c1, hv, hs⟩ := (hr.below hb).2 q r hrq
          obtain ⟨a, hA, hc⟩ := sl_get (h.below hb) hv
          subst hA
          have hsum := total_take_succ hrq
          have hjn := joined_take_succ hrq
          have hle := total_take_le rows (q + 1)
          have hone := H1.out r (List.mem_of_getElem? hrq)
          have := HT.out
          have hb1 : total (rows.take q) + r.1 ≤ 1000000000000 := by omega
          have HS := hide hsum
          have HJ := hide hjn
          clear hsum hjn hle hrq hv h hr this
          go_wp2_with (at_builtin; refine app_K rfl _ _ rfl w.heap.size _ _ _ ho rfl _ _ _ _ r.2 rfl hs hone hb1 hb.size ?_; intro v' w2 hA)
          have hb2 := hA.below ho hb (Nat.le_refl _) hb.size
          go_roundw
          case rel => exact ⟨q + 1, by omega, by go_num, by rw [HS.out, HJ.out]; exact hA.own, hb2⟩
          case measure => simp [intOf]; omega
        · obtain rfl : q = k := by omega
          have hall : rows.take q = rows := List.take_of_length_le (by have := HL.out; omega)
          rw [hall] at ho
          clear hall
          go_wp2_with fail
          go_ret
          exact ⟨_, rfl, ho, hb⟩

set_option maxRecDepth 100000 in
set_option maxHeartbeats 800000 in
theorem clone_K (A : Option Addr) (n c : Nat) (xs : List Value) (V : Nat → Prop) (w : World) (h : Sl w V 3 A n xs) (hn : n ≤ 1000000000) (h1 : ∀ u ∈ xs, u.oneCell' = true) :
    Calls Tryz.prog 120 #[.slice A n c] w fun e w' => ∃ v, e = .returned v ∧ w'.ownsRow w.heap.size 29 3 v n xs ∧ Below w.heap.size w w' := by
  have heq : ∀ w, (binOp .eql 27 (.slice A n c) (.slice none 0 0)).run Tryz.prog w = .ok (.bool A.isNone) w := fun w => by
    have := Lib.run_eql_slice_nil (P := Tryz.prog) w 27 29 A n c 0 0 Tryz.underlying27
    simpa using this
  have hone := h1
  have HO := hide hone
  clear h1 hone
  rcases A with _ | a
  · have hz : n = 0 := by
      rcases Nat.eq_zero_or_pos n with h0 | h0
      · exact h0
      · obtain ⟨a, e, _⟩ := h.2 h0; cases e
    subst hz
    have hx : xs = [] := List.eq_nil_of_length_eq_zero (by simpa using h.1)
    subst hx
    clear h
    go_enter Tryz.func120, Tryz.ntmps120
    go_wp2_with fail
    go_ret
    exact ⟨_, rfl, World.ownsRow_nil w _ _ _, Below.refl _ _⟩
  · have hb : Below w.heap.size w (w.alloc (.cells #[] 29)) := (Below.refl _ _).alloc (Nat.le_refl _) _
    have ho : (w.alloc (.cells #[] 29)).ownsRow w.heap.size 29 3 (.slice (some ⟨w.heap.size, 0, none⟩) 0 0) 0 [] := World.ownsRow_made w #[] 0 (Nat.le_refl _) (Nat.zero_le _) (by simp)
    have hs := h.below hb
    clear h
    go_enter Tryz.func120, Tryz.ntmps120
    go_wp2_with (at_builtin; refine app_K rfl _ _ rfl w.heap.size _ _ _ ho rfl _ _ _ _ xs rfl hs HO.out (by omega) (by simp) ?_; intro v' w2 hA)
    have hb2 := hA.below ho hb (Nat.le_refl _) (by simp)
    have ho2 := hA.own
    rw [Nat.zero_add, List.nil_append] at ho2
    go_ret
    exact ⟨_, rfl, ho2, hb2⟩

/-! ### S -/
theorem Tryz.infoXS : (Tryz.prog.info? 9).map (fun i => (i.zero, i.size, i.bytes)) = some (some (.string .empty), 1, 16) := by kernel_rfl

/-- an append of a slice whose cells are known -/
theorem app_S {w : World} {ops : Array Oper} {rest : List Oper} {o : Oper} {a : Act} {Q : Exit → Act → World → Prop} (hgd : o.guard = none) (s x : Operand)
    (ho : o.op = .call { callee := .builtin .append, args := #[s, x], argTypes := #[22, 22] })
    (base : Nat) (v : Value) (n : Nat) (xs : List Value) (hown : w.ownsRow base 9 1 v n xs) (hs : a.eval s = v)
    (V : Nat → Prop) (A : Option Addr) (m c : Nat) (news : List Value) (hx : a.eval x = .slice A m c) (hr : Sl w V 1 A m news) (h1 : ∀ u ∈ news, u.oneCell' = true) (hn : n + m ≤ 1000000000000) (hbase : base ≤ w.heap.size)
    (h : ∀ v' w', Apd w w' base 9 1 v v' (n + m) (xs ++ news) → wpList Tryz.prog ops Q rest (a.put o.dst v') w') : wpList Tryz.prog ops Q (o :: rest) a w := by
  obtain ⟨i0, hi, hz0, hz1, hz2⟩ := info_parts Tryz.infoXS
  exact wp_app (P := Tryz.prog) hgd s x 22 ho base 9 i0 (.string .empty) 1 16 Tryz.underlying22 hi hz0 hz1 hz2 rfl (by decide) v n xs hown hs V A m c news hx hr h1 (by simp only [maxLen]; omega) (by omega) hbase h
set_option maxRecDepth 100000 in
set_option maxHeartbeats 800000 in
theorem grow_S (n : Nat) (w : World) (hn : n ≤ 1000000000000) :
    Calls Tryz.prog 122 #[.slice none 0 0, .int .i64 n] w fun e w' => ∃ v, e = .returned v ∧ w'.ownsRow w.heap.size 9 1 v 0 [] ∧ Below w.heap.size w w' := by
  by_cases h0 : n = 0
  · subst h0
    go_enter Tryz.func122, Tryz.ntmps122
    go_wp2_with fail
    go_ret
    exact ⟨_, rfl, World.ownsRow_nil w _ _ _, Below.refl _ _⟩
  · obtain ⟨i0, hi, hz0, hz1, hz2⟩ := info_parts Tryz.infoXS
    have hrz : ∀ ty, (Builtin.append_ #[22, 3] ty #[.slice none 0 0, .int .i64 (n : Int)]).run Tryz.prog w =
        .ok (.slice (some ⟨w.heap.size, 0, none⟩) n (grownCap w n 0 9)) (w.drew.alloc (.cells (#[] ++ Builtin.zeroCells (.string .empty : Value).cells n ++ Builtin.zeroCells (.string .empty : Value).cells (grownCap w n 0 9 - n)) 9)) := fun ty => by
      have h := Lib.run_append_grow_zeros (P := Tryz.prog) w 22 3 ty 9 i0 (.string .empty) .i64 .i64 Tryz.underlying22 Tryz.underlying3 hi hz0 none 0 0 [] (run_firstCells_none w.drew i0.size 0 0 0) n (by omega) (by rw [hz1]; omega) (by omega) (by omega)
        (by rw [hz2]; omega) (by rw [Nat.zero_add]; exact growslice_fits (by omega) (by rw [hz2]; omega))
      rw [Nat.zero_add] at h
      exact h
    have hg1 := grownCap_ge w n 0 9
    have hg2 := grownCap_le_maxLen w n 0 9 (by unfold maxLen; omega)
    generalize grownCap w n 0 9 = G at *
    have hown := World.ownsRow_made (base := w.heap.size) (e := 9) (size := 1) w.drew (#[] ++ Builtin.zeroCells (.string .empty : Value).cells n ++ Builtin.zeroCells (.string .empty : Value).cells (G - n)) G (Nat.le_refl _) hg2 (by
      simp only [Array.size_append, size_zeroCells]
      show 0 + n * 1 + (G - n) * 1 = G * 1
      rw [Nat.zero_add, ← Nat.add_mul]
      congr 1
      omega)
    have hb : Below w.heap.size w (w.drew.alloc (.cells (#[] ++ Builtin.zeroCells (.string .empty : Value).cells n ++ Builtin.zeroCells (.string .empty : Value).cells (G - n)) 9)) := (below_drewN (Below.refl _ _) 1).alloc (Nat.le_refl _) _
    generalize w.drew.alloc (.cells (#[] ++ Builtin.zeroCells (.string .empty : Value).cells n ++ Builtin.zeroCells (.string .empty : Value).cells (G - n)) 9) = w1 at *
    unfold maxLen at hg2
    have hpos : (0 : Int) < (n : Int) := by omega
    have HRZ := hide hrz
    clear hi hz0 hz1 hz2 hrz h0
    go_enter Tryz.func122, Tryz.ntmps122
    go_wp2_with (at_builtin; refine Lib.wpList_append_run _ rfl _ _ _ _ rfl _ _ rfl rfl _ _ (HRZ.out _) ?_)
    go_ret
    exact ⟨_, rfl, hown, hb⟩

set_option maxRecDepth 100000 in
set_option maxHeartbeats 800000 in
theorem concat_S (A : Option Addr) (m c : Nat) (vals : List Value) (rows : List (Nat × List Value)) (V : Nat → Prop) (w : World) (h : Sl w V 1 A m vals) (hr : Rws w 1 vals rows) (hm : m ≤ 1000) (ht : total rows ≤ 1000000000) (h1 : ∀ r ∈ rows, ∀ u ∈ r.2, u.oneCell' = true) :
    Calls Tryz.prog 87 #[.slice A m c] w fun e w' => ∃ v, e = .returned v ∧ w'.ownsRow w.heap.size 9 1 v (total rows) (joined rows) ∧ Below w.heap.size w w' := by
  have hlen : rows.length = m := by have := h.1; have := hr.1; omega
  have HL := hide hlen
  have H1 := hide h1
  have HT := hide ht
  clear hlen h1 ht
  go_enter Tryz.func87, Tryz.ntmps87
  go_wp2_with fail
  go_loop [3, 5, 11] (fun s x i => ∃ k : Nat, k ≤ m ∧ i = .int .i64 k ∧ s = .int .i64 (total (rows.take k) : Nat)) (fun _ _ i => m - (intOf i).toNat)
  case atStart => exact ⟨0, Nat.zero_le _, rfl, by simp [total]⟩
  case round =>
    obtain ⟨k, hk, rfl, rfl⟩ := hrel
    by_cases hlt : k < m
    · obtain ⟨r, hrk⟩ : ∃ r, rows[k]? = some r := ⟨_, List.getElem?_eq_getElem (by rw [HL.out]; exact hlt)⟩
      obtain ⟨A1, c1, hv, hs⟩ := hr.2 k r hrk
      obtain ⟨a, hA, hc⟩ := sl_get h hv
      subst hA
      have hsum := total_take_succ hrk
      have hle := total_take_le rows (k + 1)
      have := HT.out
      have hb1 : (total (rows.take k) : Int) + (r.1 : Int) ≤ 1000000000 := by omega
      have HS := hide hsum
      clear hsum hle hrk hv hs h hr this
      go_wp2_with fail
      go_round
      case rel => exact ⟨k + 1, by omega, by go_num, by rw [HS.out]; go_num⟩
      case measure => simp [intOf]; omega
    · obtain rfl : k = m := by omega
      have hall : rows.take k = rows := List.take_of_length_le (by have := HL.out; omega)
      rw [hall]
      have := HT.out
      clear hall
      go_wp2_with fail
      refine (grow_S (total rows) w (by omega)).mono ?_
      rintro e w1 ⟨v1, rfl, ho1, hb1⟩
      clear this hlt hk
      go_wp2_with fail
      go_loopw [6, 8, 27] (fun v x i wr => ∃ q : Nat, q ≤ k ∧ i = .int .i64 q ∧ wr.ownsRow w.heap.size 9 1 v (total (rows.take q)) (joined (rows.take q)) ∧ Below w.heap.size w wr) (fun _ _ i _ => k - (intOf i).toNat)
      case atStart => exact ⟨0, Nat.zero_le _, rfl, by simpa [total, joined] using ho1, hb1⟩
      case round =>
        clear ho1 hb1
        obtain ⟨q, hq, rfl, ho, hb⟩ := hrel
        by_cases hlt : q < k
        · obtain ⟨r, hrq⟩ : ∃ r, rows[q]? = some r := ⟨_, List.getElem?_eq_getElem (by rw [HL.out]; exact hlt)⟩
          obtain ⟨A1, c1, hv, hs⟩ := (hr.below hb).2 q r hrq
          obtain ⟨a, hA, hc⟩ := sl_get (h.below hb) hv
          subst hA
          have hsum := total_take_succ hrq
          have hjn := joined_take_succ hrq
          have hle := total_take_le rows (q + 1)
          have hone := H1.out r (List.mem_of_getElem? hrq)
          have := HT.out
          have hb1 : total (rows.take q) + r.1 ≤ 1000000000000 := by omega
          have HS := hide hsum
          have HJ := hide hjn
          clear hsum hjn hle hrq hv h hr this
          go_wp2_with (at_builtin; refine app_S rfl _ _ rfl w.heap.size _ _ _ ho rfl _ _ _ _ r.2 rfl hs hone hb1 hb.size ?_; intro v' w2 hA)
          have hb2 := hA.below ho hb (Nat.le_refl _) hb.size
          go_roundw
          case rel => exact ⟨q + 1, by omega, by go_num, by rw [HS.out, HJ.out]; exact hA.own, hb2⟩
          case measure => simp [intOf]; omega
        · obtain rfl : q = k := by omega
          have hall : rows.take q = rows := List.take_of_length_le (by have := HL.out; omega)
          rw [hall] at ho
          clear hall
          go_wp2_with fail
          go_ret
          exact ⟨_, rfl, ho, hb⟩

set_option maxRecDepth 100000 in
set_option maxHeartbeats 800000 in
theorem clone_S (A : Option Addr) (n c : Nat) (xs : List Value) (V : Nat → Prop) (w : World) (h : Sl w V 1 A n xs) (hn : n ≤ 1000000000) (h1 : ∀ u ∈ xs, u.oneCell' = true) :
    Calls Tryz.prog 38 #[.slice A n c] w fun e w' => ∃ v, e = .returned v ∧ w'.ownsRow w.heap.size 9 1 v n xs ∧ Below w.heap.size w w' := by
  have heq : ∀ w, (binOp .eql 22 (.slice A n c) (.slice none 0 0)).run Tryz.prog w = .ok (.bool A.isNone) w := fun w => by
    have := Lib.run_eql_slice_nil (P := Tryz.prog) w 22 9 A n c 0 0 Tryz.underlying22
    simpa using this
  have hone := h1
  have HO := hide hone
  clear h1 hone
  rcases A with _ | a
  · have hz : n = 0 := by
      rcases Nat.eq_zero_or_pos n with h0 | h0
      · exact h0
      · obtain ⟨a, e, _⟩ := h.2 h0; cases e
    subst hz
    have hx : xs = [] := List.eq_nil_of_length_eq_zero (by simpa using h.1)
    subst hx
    clear h
    go_enter Tryz.func38, Tryz.ntmps38
    go_wp2_with fail
    go_ret
    exact ⟨_, rfl, World.ownsRow_nil w _ _ _, Below.refl _ _⟩
  · have hb : Below w.heap.size w (w.alloc (.cells #[] 9)) := (Below.refl _ _).alloc (Nat.le_refl _) _
    have ho : (w.alloc (.cells #[] 9)).ownsRow w.heap.size 9 1 (.slice (some ⟨w.heap.size, 0, none⟩) 0 0) 0 [] := World.ownsRow_made w #[] 0 (Nat.le_refl _) (Nat.zero_le _) (by simp)
    have hs := h.below hb
    clear h
    go_enter Tryz.func38, Tryz.ntmps38
    go_wp2_with (at_builtin; refine app_S rfl _ _ rfl w.heap.size _ _ _ ho rfl _ _ _ _ xs rfl hs HO.out (by omega) (by simp) ?_; intro v' w2 hA)
    have hb2 := hA.below ho hb (Nat.le_refl _) (by simp)
    have ho2 := hA.own
    rw [Nat.zero_add, List.nil_append] at ho2
    go_ret
    exact ⟨_, rfl, ho2, hb2⟩

end Go.Proofs.YtojincohnjophaaGreatDoor
