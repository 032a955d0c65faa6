/- slices.Backward at []string: the iterator's contract. -/
import Derived.Test.YtojincohnjophaaGreatDoorLogAw
import Derived.RangeFuncBox
import Derived.RangeFuncNested
import Derived.RangeFuncBound
import Derived.RangeFuncCalls
import Derived.RangeFuncLeaves
import Derived.Shelf.Abstract
import Derived.OwnWalkIn
import Derived.TacticsInMore
import Derived.LoopNIn
import Derived.LoopIn
import Derived.Lib.BufStepsIn
import Derived.Test.YtojincohnjophaaGreatDoorTreePure
/-! The walk of slot.Fill. -/
namespace Go.Proofs.YtojincohnjophaaGreatDoor
open Go.RowKit
set_option linter.unusedVariables false

/-- slice values that read as lists of strings -/
def Rows2 (w : World) (V : Nat → Prop) (vals : List Value) (ll : List (List ByteArray)) : Prop :=
  vals.length = ll.length ∧ ∀ (i : Nat) (l : List ByteArray), ll[i]? = some l → ∃ A c, vals[i]? = some (Value.slice A l.length c) ∧ Sl w V 1 A l.length (strs l)
theorem Rows2.nil (w : World) (V : Nat → Prop) : Rows2 w V [] [] := ⟨rfl, fun i l h => by simp at h⟩
theorem Rows2.keep {w w' : World} {V V' : Nat → Prop} {vals : List Value} {ll : List (List ByteArray)} (h : Rows2 w V vals ll) (hs : w.heap.size ≤ w'.heap.size)
    (hk : ∀ b, V b → b < w.heap.size → w'.heap[b]? = w.heap[b]? ∧ V' b) : Rows2 w' V' vals ll :=
  ⟨h.1, fun i l hl => by
    obtain ⟨A, c, h1, h2⟩ := h.2 i l hl
    exact ⟨A, c, h1, (((Sl.lt' h2).keep hs (fun b hb hlt => (hk b hb.1 hlt).1)).mono fun b hb => (hk b hb.1 hb.2).2)⟩⟩
theorem Rows2.snoc {w : World} {V : Nat → Prop} {vals : List Value} {ll : List (List ByteArray)} (h : Rows2 w V vals ll) {l : List ByteArray} {A : Option Addr} {c : Nat} (hl : Sl w V 1 A l.length (strs l)) :
    Rows2 w V (vals ++ [.slice A l.length c]) (ll ++ [l]) := by
  refine ⟨by simp [h.1], fun i l' hi => ?_⟩
  rcases Nat.lt_or_ge i ll.length with h1 | h1
  · rw [List.getElem?_append_left h1] at hi
    obtain ⟨A', c', h2, h3⟩ := h.2 i l' hi
    exact ⟨A', c', by rw [List.getElem?_append_left (by rw [h.1]; exact h1)]; exact h2, h3⟩
  · rw [List.getElem?_append_right h1] at hi
    have h0 : i - ll.length = 0 := by
      have := (List.getElem?_eq_some_iff.1 hi).1
      simp at this; omega
    rw [h0] at hi
    simp at hi
    subst hi
    exact ⟨A, c, by rw [List.getElem?_append_right (by rw [h.1]; exact h1), h.1, h0]; rfl, hl⟩
theorem Sl.take {w : World} {V : Nat → Prop} {A : Option Addr} {n m : Nat} {xs : List Value} (h : Sl w V 1 A n xs) (hm : m ≤ n) : Sl w V 1 A m (xs.take m) := by
  have h1 := h.1
  refine ⟨by rw [List.length_take]; omega, fun hp => ?_⟩
  obtain ⟨a, e, hv, hb, hc⟩ := h.2 (by omega)
  refine ⟨a, e, hv, hb, fun j u hu => hc j u ?_⟩
  rw [List.getElem?_take] at hu
  split at hu
  · exact hu
  · cases hu
theorem own_own_ne {w : World} {b1 b2 : Nat} {e1 e2 : TypeId} {s1 s2 n1 n2 : Nat} {v1 v2 : Value} {x1 x2 : List Value} (h1 : w.ownsRow b1 e1 s1 v1 n1 x1) (h2 : w.ownsRow b2 e2 s2 v2 n2 x2) (hne : e1 ≠ e2) : v1.ownBlock = none ∨ v1.ownBlock ≠ v2.ownBlock := by
  rcases h1.2 with ⟨rfl, _⟩ | ⟨g1, c1, cur1, rfl, _, hg1, _⟩
  · exact .inl rfl
  · right
    rcases h2.2 with ⟨rfl, _⟩ | ⟨g2, c2, cur2, rfl, _, hg2, _⟩
    · simp [Value.ownBlock]
    · simp only [Value.ownBlock, ne_eq, Option.some.injEq]
      rintro rfl
      rw [hg1] at hg2
      injection hg2 with hg2
      injection hg2 with _ he
      exact hne he

theorem own_cap {w : World} {base : Nat} {e : TypeId} {size n m c : Nat} {A : Option Addr} {xs : List Value} (h : w.ownsRow base e size (.slice A m c) n xs) : m ≤ c := by
  rcases h.2 with ⟨h0, h1⟩ | ⟨g, cap, cur, h0, _, _, h2, _⟩
  · injection h0 with _ h3 h4; omega
  · injection h0 with _ h3 h4; omega

theorem Sl.of_own' {w : World} {base : Nat} {e : TypeId} {size n c : Nat} {A : Option Addr} {xs : List Value} (h : w.ownsRow base e size (.slice A n c) n xs) : Sl w (fun b => base ≤ b ∧ (Value.slice A n c).ownBlock = some b) size A n xs := by
  refine ⟨h.1, fun hn => ?_⟩
  obtain ⟨g, cap, hv, hb, hlt⟩ := h.form hn
  have hA : A = some ⟨g, 0, none⟩ := by injection hv
  subst hA
  exact ⟨_, rfl, ⟨hb, rfl⟩, hlt, h.cells (g := g) rfl⟩

theorem fillGo_snoc {c : List UInt8} {cells : List (List UInt8)} {lists : List (List (List UInt8))} {list : List (List UInt8)} (h : SlotP.fits (list ++ [c]) = true) : SlotP.fillGo (c :: cells) lists list = SlotP.fillGo cells lists (list ++ [c]) := by
  rw [SlotP.fillGo, if_pos h]
theorem fillGo_new {c : List UInt8} {cells : List (List UInt8)} {lists : List (List (List UInt8))} {list : List (List UInt8)} (h : SlotP.fits (list ++ [c]) = false) : SlotP.fillGo (c :: cells) lists list = SlotP.fillGo cells (lists ++ [list]) [c] := by
  rw [SlotP.fillGo, if_neg (by rw [h]; simp)]

/-- what the loop of Fill still has to do comes to what is filled -/
def Fills (ss : List ByteArray) (k : Nat) (ll : List (List ByteArray)) (cur : List ByteArray) : Prop :=
  SlotP.fillGo (octs (ss.drop k)) (ll.map octs) (octs cur) = SlotP.fill (octs ss) ∧ SlotP.fits (octs cur) = true ∧ ll.length ≤ k ∧ (k = 0 → cur = []) ∧ (0 < k → cur ≠ [])

theorem Tryz.info22 : (Tryz.prog.info? 22).map (fun i => (i.zero, i.size, i.bytes)) = some (some (.slice none 0 0), 1, 24) := by kernel_rfl

theorem fills_zero (ss : List ByteArray) : Fills ss 0 [] [] := ⟨by simp [SlotP.fill, octs_nil], by simp [octs_nil, SlotP.fits_nil], by simp, fun _ => rfl, fun h => absurd h (by omega)⟩
theorem drop_succ {ss : List ByteArray} {k : Nat} {s : ByteArray} (hs : ss[k]? = some s) : octs (ss.drop k) = oct s :: octs (ss.drop (k + 1)) := by
  have h1 : k < ss.length := (List.getElem?_eq_some_iff.1 hs).1
  have h2 : ss[k] = s := (List.getElem?_eq_some_iff.1 hs).2
  rw [List.drop_eq_getElem_cons h1, h2, octs_cons]
theorem fills_snoc {ss : List ByteArray} {k : Nat} {s : ByteArray} {ll : List (List ByteArray)} {cur : List ByteArray} (h : Fills ss k ll cur) (hs : ss[k]? = some s) (hf : SlotP.fits (octs (cur ++ [s])) = true) : Fills ss (k + 1) ll (cur ++ [s]) := by
  obtain ⟨h1, h2, h3, h4, h5⟩ := h
  rw [drop_succ hs] at h1
  have e : octs (cur ++ [s]) = octs cur ++ [oct s] := by rw [octs_append, octs_cons, octs_nil]
  rw [e] at hf
  rw [fillGo_snoc hf] at h1
  exact ⟨by rw [e]; exact h1, by rw [e]; exact hf, by omega, fun h => absurd h (by omega), fun _ => by simp⟩
theorem fills_new {ss : List ByteArray} {k : Nat} {s : ByteArray} {ll : List (List ByteArray)} {cur : List ByteArray} (h : Fills ss k ll cur) (hs : ss[k]? = some s) (hf : SlotP.fits (octs (cur ++ [s])) = false) (hl : s.size ≤ 1000) :
    Fills ss (k + 1) (ll ++ [cur]) [s] ∧ cur ≠ [] := by
  obtain ⟨h1, h2, h3, h4, h5⟩ := h
  rw [drop_succ hs] at h1
  have e : octs (cur ++ [s]) = octs cur ++ [oct s] := by rw [octs_append, octs_cons, octs_nil]
  have hs1 : SlotP.fits [oct s] = true := SlotP.fits_single _ (by rw [oct_length]; exact hl)
  have hne : cur ≠ [] := by
    rintro rfl
    rw [e, octs_nil, List.nil_append, hs1] at hf
    cases hf
  have hk : 0 < k := by
    rcases Nat.eq_zero_or_pos k with h0 | h0
    · exact absurd (h4 h0) hne
    · exact h0
  rw [e] at hf
  rw [fillGo_new hf] at h1
  refine ⟨⟨?_, by rw [octs_cons, octs_nil]; exact hs1, by simp; omega, fun h => absurd h (by omega), fun _ => by simp⟩, hne⟩
  rw [List.map_append, octs_cons, octs_nil]
  exact h1
theorem fills_cur {ss : List ByteArray} {k : Nat} {ll : List (List ByteArray)} {cur : List ByteArray} (h : Fills ss k ll cur) : cur.length ≤ 40 := by
  have := ((SlotP.fits_iff _).1 h.2.1).1
  rw [octs_length] at this
  exact this
theorem fills_end {ss : List ByteArray} {k : Nat} {ll : List (List ByteArray)} {cur : List ByteArray} (h : Fills ss k ll cur) (hk : ss.length = k) (hc : cur ≠ []) : (ll ++ [cur]).map octs = SlotP.fill (octs ss) := by
  obtain ⟨h1, _⟩ := h
  rw [List.drop_of_length_le (by omega), octs_nil, SlotP.fillGo, if_neg (by simpa [octs] using hc)] at h1
  rw [← h1]; simp
theorem fills_end0 {ss : List ByteArray} {k : Nat} {ll : List (List ByteArray)} (h : Fills ss k ll []) (hk : ss.length = k) : ll.map octs = SlotP.fill (octs ss) := by
  obtain ⟨h1, _⟩ := h
  rw [List.drop_of_length_le (by omega), octs_nil, SlotP.fillGo, if_pos rfl] at h1
  exact h1

/-- 'lists = append(lists, list)' -/
theorem wp_app_list {w : World} {ops : Array Oper} {rest : List Oper} {o : Oper} {a : Act} {Q : Exit → Act → World → Prop} (hgd : o.guard = none) (s x : Operand)
    (ho : o.op = .call { callee := .builtin .append, args := #[s, x], argTypes := #[37, 37] })
    (base : Nat) (v : Value) (n : Nat) (vals : List Value) (hown : w.ownsRow base 22 1 v n vals) (hs : a.eval s = v)
    (A : Option Addr) (m c : Nat) (hx : a.eval x = .slice (some ⟨w.heap.size, 0, none⟩) 1 1) (hn : n ≤ 1000000000000) (hbase : base ≤ w.heap.size)
    (h : ∀ v' w', Apd w w' base 22 1 v v' (n + 1) (vals ++ [.slice A m c]) → wpList Tryz.prog ops Q rest (a.put o.dst v') w') : wpList Tryz.prog ops Q (o :: rest) a (w.alloc (.cells #[.slice A m c] 22)) := by
  obtain ⟨i0, hi, hz0, hz1, hz2⟩ := info_parts Tryz.info22
  exact wp_app_new (P := Tryz.prog) (w := w) (rest := rest) (Q := Q) (ops := ops) hgd s x 37 ho base 22 i0 (.slice none 0 0) 1 24 Tryz.underlying37 hi hz0 hz1 hz2 rfl (by decide) v n vals hown hs 1 1 [.slice A m c] hx rfl
    (by simp [Value.oneCell']) (by simp only [maxLen]; omega) (by omega) hbase h

set_option maxRecDepth 100000 in
set_option maxHeartbeats 4000000 in
theorem fill_yes (A : Option Addr) (n c : Nat) (ss : List ByteArray) (V : Nat → Prop) (w : World) (h : Sl w V 1 A n (strs ss)) (hn : n ≤ 100000000000) (hf : ∀ s ∈ ss, s.size ≤ 1000) :
    Calls Tryz.prog 6 #[.slice A n c] w fun e w' => ∃ v vals ll, e = .returned (.tuple #[v, .int .i64 0]) ∧ w'.ownsRow w.heap.size 22 1 v ll.length vals ∧ Rows2 w' (fun b => w.heap.size ≤ b) vals ll ∧ ll.map octs = SlotP.fill (octs ss) ∧ Below w.heap.size w w' := by
  have hlen : ss.length = n := h.len
  have HL := hide hlen
  have HF := hide hf
  clear hlen hf
  go_enter Tryz.func6, Tryz.ntmps6
  go_wp2
  go_loop [12] (fun i => ∃ k : Nat, k ≤ n ∧ i = .int .i64 k) (fun i => n - (intOf i).toNat)
  case atStart => exact ⟨0, Nat.zero_le _, rfl⟩
  case round =>
    obtain ⟨k, hk, rfl⟩ := hrel
    by_cases hlt : k < n
    · obtain ⟨a, s, hA, hsk, hc⟩ := h.str hlt
      subst hA
      have hl : ¬ 1000 < (s.size : Int) := by have := HF.out s (List.mem_of_getElem? hsk); omega
      clear hsk h
      go_wp2
      go_round
      case rel => exact ⟨k + 1, by omega, by go_num⟩
      case measure => simp [intOf]; omega
    · obtain rfl : k = n := by omega
      clear hlt hk
      go_wp2
      go_loopw [6, 7, 22] (fun vs vl i wr => ∃ (k2 : Nat) (vals : List Value) (ll : List (List ByteArray)) (cur : List ByteArray), k2 ≤ k ∧ i = .int .i64 k2 ∧ wr.ownsRow w.heap.size 22 1 vs ll.length vals ∧ wr.ownsRow w.heap.size 9 1 vl cur.length (strs cur) ∧
          Rows2 wr (fun b => w.heap.size ≤ b ∧ some b ≠ vl.ownBlock ∧ some b ≠ vs.ownBlock) vals ll ∧ Fills ss k2 ll cur ∧ Below w.heap.size w wr) (fun _ _ i _ => k - (intOf i).toNat)
      case atStart => exact ⟨0, [], [], [], Nat.zero_le _, rfl, World.ownsRow_nil _ _ _ _, World.ownsRow_nil _ _ _ _, Rows2.nil _ _, fills_zero ss, Below.refl _ _⟩
      case round =>
        obtain ⟨k2, vals, ll, cur, hk2, rfl, hos, hol, hrw, hfl, hb⟩ := hrel
        have hcl := fills_cur hfl
        have hll := hfl.2.2.1
        by_cases hlt : k2 < k
        · obtain ⟨a, s, hA, hsk, hc⟩ := (h.below hb).str hlt
          subst hA
          have hsz := HF.out s (List.mem_of_getElem? hsk)
          have hlen1 : (cur ++ [s]).length = cur.length + 1 := by simp
          cases hfit : SlotP.fits (octs (cur ++ [s])) with
          | true =>
            have hfl' := fills_snoc hfl hsk hfit
            have HFL := hide hfl'
            have HFIT := hide hfit
            have HLEN := hide hlen1
            clear hfl' hfl hsk hfit hlen1 h
            go_wp2_with (first
              | (at_builtin; refine wp_app_str rfl _ _ rfl w.heap.size _ _ _ hol rfl s rfl (by omega) hb.size ?_; intro v' w1 hA; obtain ⟨A', c', hv'⟩ := own_shape hA.own; subst hv')
              | (go_at_call 23; refine (fits_any _ _ _ (cur ++ [s]) _ _ (Sl.of_own hA.own) (by omega)).mono ?_; rw [HFIT.out]; rintro e w' ⟨rfl, rfl⟩))
            have hb1 := hA.below hol hb (Nat.le_refl _) hb.size
            have hos1 := hos.kept hA.grown (own_own_ne hos hol (by decide))
            go_roundw
            case rel =>
              refine ⟨k2 + 1, vals, ll, cur ++ [s], by omega, by go_num, hos1, by rw [HLEN.out]; exact hA.own, hrw.keep hA.grown.size ?_, HFL.out, hb1⟩
              rintro b ⟨hb1, hb2, hb3⟩ hlt
              refine ⟨hA.grown.block b hlt hb2, hb1, ?_, hb3⟩
              rcases hA.at_ with e | ⟨g, e, hg⟩
              · rw [e]; exact hb2
              · rw [e]; simp; omega
            case measure => simp [intOf]; omega
          | false =>
            obtain ⟨hfl', hcne⟩ := fills_new hfl hsk hfit hsz
            have HFL := hide hfl'
            have HFIT := hide hfit
            have HLEN := hide hlen1
            clear hfl' hfl hsk hfit hlen1 h hcne
            have hcl1 : (0 : Int) ≤ cur.length := by omega
            go_wp2_with (first
              | (at_builtin; refine wp_app_str rfl _ _ rfl w.heap.size _ _ _ hol rfl s rfl (by omega) hb.size ?_; intro v' w1 hA; obtain ⟨A', c', hv'⟩ := own_shape hA.own; subst hv'; have hb1 := hA.below hol hb (Nat.le_refl _) hb.size; have hos1 := hos.kept hA.grown (own_own_ne hos hol (by decide)); have hc' := own_cap hA.own)
              | (go_at_call 23; refine (fits_any _ _ _ (cur ++ [s]) _ _ (Sl.of_own hA.own) (by omega)).mono ?_; rw [HFIT.out]; rintro e w' ⟨rfl, rfl⟩)
              | (at_builtin; refine wp_app_list rfl _ _ rfl w.heap.size _ _ _ hos1 rfl _ _ _ rfl (by omega) hb1.size ?_; intro v2 w2 hA2))
            have hb2 := hA2.below hos1 hb1 (Nat.le_refl _) hb1.size
            have hb3 := hb2.alloc hb2.size (.cells #[.string s] 9)
            have hnew := World.ownsRow_lit (base := w.heap.size) (e := 9) (size := 1) w2 #[.string s] 1 hb2.size (by simp [maxLen]) rfl
            have hr1 : Rows2 w1 (fun b => w.heap.size ≤ b ∧ some b ≠ u6.ownBlock) (vals ++ [.slice A' cur.length c']) (ll ++ [cur]) := by
              refine (hrw.keep hA.grown.size ?_).snoc ?_
              · rintro b ⟨h1, h2, h3⟩ hlt
                exact ⟨hA.grown.block b hlt h2, h1, h3⟩
              · have h1 := (Sl.take (Sl.of_own' hA.own) (m := cur.length) (by omega))
                rw [show (strs (cur ++ [s])).take cur.length = strs cur by rw [strs_append, List.take_left' (by rw [strs_length])]] at h1
                refine h1.mono ?_
                rintro b ⟨h2, h3⟩
                refine ⟨h2, fun e => ?_⟩
                rcases own_own_ne hA.own hos1 (by decide) with h4 | h4
                · rw [h4] at h3; cases h3
                · exact h4 (by rw [h3, e])
            go_roundw
            case rel =>
              refine ⟨k2 + 1, _, ll ++ [cur], [s], by omega, by go_num, by rw [List.length_append]; exact hA2.own.alloc _, hnew, hr1.keep (by have := hA2.grown.size; simp; omega) ?_, HFL.out, hb3⟩
              rintro b ⟨h1, h2⟩ hlt
              refine ⟨(Below.heap_alloc w2 _ b (by have := hA2.grown.size; omega)).trans (hA2.grown.block b hlt h2), h1, ?_, ?_⟩
              · have := hA2.grown.size
                simp [Value.ownBlock]; omega
              · rcases hA2.at_ with e | ⟨g, e, hg⟩
                · rw [e]; exact h2
                · rw [e]; simp; omega
            case measure => simp [intOf]; omega
        · obtain rfl : k2 = k := by omega
          obtain ⟨A', c', hv⟩ := own_shape hol
          subst hv
          cases cur with
          | nil =>
            have he := fills_end0 hfl HL.out
            have HE := hide he
            clear he hfl
            go_wp2
            go_ret2
            exact ⟨_, vals, ll, rfl, hos, hrw.keep (Nat.le_refl _) (fun b hb _ => ⟨rfl, hb.1⟩), HE.out, hb⟩
          | cons x cur' =>
            have he := fills_end hfl HL.out (by simp)
            have HE := hide he
            have hpos : (0 : Int) < (x :: cur').length := by simp
            generalize x :: cur' = cur at *
            clear he hfl
            go_wp2_with (at_builtin; refine wp_app_list rfl _ _ rfl w.heap.size _ _ _ hos rfl _ _ _ rfl (by omega) hb.size ?_; intro v2 w2 hA2)
            go_ret2
            have hb2 := hA2.below hos hb (Nat.le_refl _) hb.size
            have hr1 : Rows2 wr (fun b => w.heap.size ≤ b ∧ some b ≠ u6.ownBlock) (vals ++ [.slice A' cur.length c']) (ll ++ [cur]) := by
              refine (hrw.keep (Nat.le_refl _) ?_).snoc ?_
              · rintro b ⟨h1, h2, h3⟩ hlt
                exact ⟨rfl, h1, h3⟩
              · refine (Sl.of_own' hol).mono ?_
                rintro b ⟨h2, h3⟩
                refine ⟨h2, fun e => ?_⟩
                rcases own_own_ne hol hos (by decide) with h4 | h4
                · rw [h4] at h3; cases h3
                · exact h4 (by rw [h3, e])
            exact ⟨_, _, ll ++ [cur], rfl, by rw [List.length_append]; exact hA2.own, hr1.keep hA2.grown.size (fun b hb hlt => ⟨hA2.grown.block b hlt hb.2, hb.1⟩), HE.out, hb2⟩

end Go.Proofs.YtojincohnjophaaGreatDoor

/-! slices.Backward at []string: the iterator's contract. -/
namespace Go.Proofs.YtojincohnjophaaGreatDoor
open Go.RowKit
set_option linter.unusedVariables false

attribute [local go_sem] Oper.semAt_some

/-- The blocks of V are as they were. -/
def KeepV (V : Nat → Prop) (W W' : World) : Prop := W.heap.size ≤ W'.heap.size ∧ ∀ b, V b → b < W.heap.size → W'.heap[b]? = W.heap[b]?
theorem KeepV.refl (V : Nat → Prop) (W : World) : KeepV V W W := ⟨Nat.le_refl _, fun _ _ _ => rfl⟩
theorem KeepV.trans {V : Nat → Prop} {A B C : World} (h : KeepV V A B) (k : KeepV V B C) : KeepV V A C :=
  ⟨Nat.le_trans h.1 k.1, fun b hv hb => (k.2 b hv (Nat.lt_of_lt_of_le hb h.1)).trans (h.2 b hv hb)⟩
theorem KeepV.cell {V : Nat → Prop} {W W' : World} (h : KeepV V W W') {p : Addr} {u : Value} (hv : V p.block) (hc : W.cell? p = some u) : W'.cell? p = some u :=
  (World.cell?_of_block (w := W) (h.2 p.block hv (World.block_lt_of_cell? W p hc))).trans hc
theorem KeepV.putObj {V : Nat → Prop} {W : World} {l : Nat} (o' : Obj) (h : ∀ b, V b → b ≠ l) : KeepV V W (W.putObj l o') := by
  have hg := grownBy_putObj' W l o'
  exact ⟨hg.size, fun b hv hb => hg.block b hb (by simpa using h b hv)⟩
theorem KeepV.grown {V : Nat → Prop} {W W' : World} {row : Option Nat} (hg : W.grownBy W' row) (h : ∀ b, V b → some b ≠ row) : KeepV V W W' :=
  ⟨hg.size, fun b hv hb => hg.block b hb (h b hv)⟩
theorem KeepV.below {V : Nat → Prop} {W W' : World} (hb : Below W.heap.size W W') : KeepV V W W' := ⟨hb.size, fun b _ h => hb.block b h⟩
theorem Sl.keepV {w w' : World} {V : Nat → Prop} {size n : Nat} {A : Option Addr} {xs : List Value} (h : Sl w V size A n xs) (hk : KeepV V w w') : Sl w' V size A n xs :=
  h.keep hk.1 hk.2

theorem Boxed.below {W W' : World} {B : Nat} {t : TypeId} {v : Value} (h : Boxed W B t v) (hb : Below W.heap.size W W') : Boxed W' B t v := (hb.block B h.lt).trans h

/-- A box that holds a row of one's own, behind an append: what the store into the box wants, and what it leaves. -/
theorem Boxed.apd {W w1 : World} {base B : Nat} {t e : TypeId} {size : Nat} {v v' : Value} {k m : Nat} {xs ys : List Value} (h : Boxed W B t v) (ho : W.ownsRow base e size v k xs) (hte : t ≠ e) (hown : w1.ownsRow base e size v' m ys) (hg : W.grownBy w1 v.ownBlock) :
    (w1.cell? ⟨B, 0, none⟩ = some v ∧ w1.frozen? ⟨B, 0, none⟩ = false) ∧
    (Boxed (w1.setCell ⟨B, 0, none⟩ v') B t v' ∧ (w1.setCell ⟨B, 0, none⟩ v').ownsRow base e size v' m ys) ∧
    (∀ (w0 : World) (b : Nat), Below b w0 W → b ≤ base → b ≤ B → b ≤ W.heap.size → Below b w0 (w1.setCell ⟨B, 0, none⟩ v')) ∧
    (∀ V : Nat → Prop, (∀ x, V x → x ≠ B ∧ some x ≠ v.ownBlock) → KeepV V W (w1.setCell ⟨B, 0, none⟩ v')) ∧ KeepsOthers W (w1.setCell ⟨B, 0, none⟩ v') := by
  have h1 : Boxed w1 B t v := h.kept hg (h.not_row hte ho)
  have hne : some B ≠ v'.ownBlock := h1.not_row hte hown
  have hg2 := grownBy_setCell' w1 B v'
  refine ⟨⟨h1.cell, h1.frozen⟩, ⟨h1.set v', hown.kept hg2 (.inr (Ne.symm hne))⟩, fun w0 b hb h2 h3 h4 => ?_, fun V hV => ?_, ?_⟩
  · exact (hb.grown hg h4 fun k hk => Nat.le_trans h2 (ho.lt k hk).1).setCell h3 _
  · exact (KeepV.grown hg fun x hx => (hV x hx).2).trans (KeepV.grown hg2 fun x hx => by simpa using (hV x hx).1)
  · have hk : KeepsOthers W w1 := KeepsOthers.of_grownBy hg fun j o hj ho' => ?_
    · exact hk.trans (KeepsOthers.setCell _ _ _)
    · rcases ho.2 with ⟨rfl, _⟩ | ⟨g, cap, cur, rfl, _, hgg, _⟩
      · simp [Value.ownBlock] at hj
      · simp [Value.ownBlock] at hj
        subst hj
        rw [hgg] at ho'
        injection ho' with ho'
        subst ho'
        rfl

set_option maxRecDepth 100000 in
set_option maxHeartbeats 1000000 in
theorem backward_any (A : Option Addr) (n c : Nat) (w : World) :
    Calls Tryz.prog 26 #[.slice A n c] w fun e w' => e = .returned (.func (.func 54) #[] #[.pointer (some ⟨w.heap.size, 0, none⟩)]) ∧ w.alloc (.cells #[.slice A n c] 22) = w' := by
  go_enter Tryz.func26, Tryz.ntmps26
  have hmf : ∀ (fn : Fn) (first cap : Array Value) (w : World), (Instr.makeFunc fn first cap).run Tryz.prog w = .ok (.func fn first cap) w := fun _ _ _ _ => rfl
  go_wp2
  go_ret
  exact ⟨rfl, rfl⟩

/-- a string that goes on a page -/
abbrev Cel := { s : ByteArray // s.size ≤ 1000 }
theorem snd_snoc (pre : List (Nat × Cel)) (i : Nat) (s : Cel) : (pre ++ [(i, s)]).map (fun p => p.2.1) = pre.map (fun p => p.2.1) ++ [s.1] := by simp

set_option maxRecDepth 100000 in
set_option maxHeartbeats 2000000 in
theorem back1_in (F : Fence) (N : Nat) (hF : F.fn 54) (hro : F.round = none) (hN : 1 ≤ N) (l Bs : Nat) (A : Option Addr) (n c : Nat) (ss : List ByteArray) (hn : n ≤ 9223372036854775807) (V : Nat → Prop) (hVB : V Bs) (hle : ∀ s ∈ ss, s.size ≤ 1000) (J Jx : List (Nat × Cel) → World → Prop)
    (hY : ∀ pre x W, J pre W → pre.length < n → YieldAt F (N - 1) Tryz.prog l #[.int .i64 (x.1 : Int), .string x.2.1] W fun e W' =>
      (e = .returned (.bool true) ∧ J (pre ++ [x]) W' ∧ KeepV V W W') ∨ (e = .returned (.bool false) ∧ Jx (pre ++ [x]) W'))
    (W : World) (hBs : W.cell? ⟨Bs, 0, none⟩ = some (.slice A n c)) (hc : Sl W V 1 A n (strs ss)) (h0 : J [] W) :
    CallsIn F N Tryz.prog 54 #[.func (.yield l) #[] #[], .pointer (some ⟨Bs, 0, none⟩)] W fun e W' => (∃ v, e = .returned v) ∧
      ((∃ ys, ys.map (fun p => p.2.1) = ss.reverse ∧ J ys W') ∨ (∃ pre, True ∧ Jx pre W')) := by
  have hlen : ss.length = n := hc.len
  refine callsIn_of_wp Tryz.func54 rfl hF ?_ hro
  simp only [Tryz.ntmps54, List.size_toArray, List.length_cons, List.length_nil, Nat.reduceAdd, Nat.reduceSub, Array.replicate_succ, Array.replicate_zero, List.push_toArray, List.append_toArray, List.nil_append, List.cons_append]
  have HL := hide hlen
  clear hlen
  gi_wp2
  gi_loopw [3] (fun i wr => ∃ k : Nat, k ≤ n ∧ i = .int .i64 ((n : Int) - 1 - k) ∧ (∃ pre, pre.map (fun p => p.2.1) = (ss.drop (n - k)).reverse ∧ pre.length = k ∧ J pre wr) ∧ KeepV V W wr)
    (fun i _ => (intOf i + 1).toNat)
  case atStart => exact ⟨0, Nat.zero_le _, by simp, ⟨[], by rw [List.drop_of_length_le (by have := HL.out; omega)]; rfl, rfl, h0⟩, KeepV.refl _ _⟩
  case round =>
    obtain ⟨k, hk, rfl, ⟨pre, hpre, hpl, hJs⟩, hnx⟩ := hrel
    by_cases hlt : k < n
    · obtain ⟨a, s, hA, hsk, hcell⟩ := (hc.keepV hnx).str (k := n - 1 - k) (by omega)
      have hs1 : s.size ≤ 1000 := hle s (List.mem_of_getElem? hsk)
      have hBs' := hnx.cell (p := ⟨Bs, 0, none⟩) hVB hBs
      subst hA
      obtain ⟨fn, tmps, assign, body, hy, hR⟩ := hY pre (n - 1 - k, ⟨s, hs1⟩) wr hJs (by omega)
      dsimp only at hy
      have e1 : ((n - 1 - k : Nat) : Int) = (n : Int) - 1 - k := by omega
      rw [e1] at hy
      have e2 : (pre ++ [(n - 1 - k, (⟨s, hs1⟩ : Cel))]).map (fun p => p.2.1) = (ss.drop (n - (k + 1))).reverse := by
        have h1 : n - 1 - k < ss.length := (List.getElem?_eq_some_iff.1 hsk).1
        have h2 : ss[n - 1 - k] = s := (List.getElem?_eq_some_iff.1 hsk).2
        rw [snd_snoc, hpre, show n - (k + 1) = n - 1 - k by omega, List.drop_eq_getElem_cons h1, h2, List.reverse_cons, show n - 1 - k + 1 = n - k by omega]
      have E2 := hide e2
      have HP := hide hpl
      have HX := hide hnx
      clear e1 e2 hpre hpl hsk hnx hBs hc
      gi_wp2
      refine hR.mono ?_
      rintro e W3 (⟨rfl, hJ3, hk3⟩ | ⟨rfl, hJx3⟩)
      · gi_wp2
        go_roundw
        case rel => exact ⟨k + 1, by omega, by congr 1; omega, ⟨_, E2.out, by simp [HP.out], hJ3⟩, HX.out.trans hk3⟩
        case measure => simp [intOf]; omega
      · gi_wp2
        refine bodyPost_ret (results_none rfl _ _ _) rfl ?_
        exact ⟨⟨_, rfl⟩, .inr ⟨_, trivial, hJx3⟩⟩
    · obtain rfl : k = n := by omega
      have HP := hide hpre
      clear hpre hpl hc hBs
      gi_wp2
      go_end0
      exact ⟨⟨_, rfl⟩, .inl ⟨_, by rw [HP.out, Nat.sub_self, List.drop_zero], hJs⟩⟩

theorem back_stops (F : Fence) (N : Nat) (hF : F.fn 54) (hro : F.round = none) (hN : 1 ≤ N) (Bs : Nat) (A : Option Addr) (n c : Nat) (ss : List ByteArray) (hn : n ≤ 9223372036854775807) (V : Nat → Prop) (hVB : V Bs) (hle : ∀ s ∈ ss, s.size ≤ 1000)
    (w : World) (hV : ∀ b, V b → b < w.heap.size) (hBs : w.cell? ⟨Bs, 0, none⟩ = some (.slice A n c)) (hc : Sl w V 1 A n (strs ss)) :
    SeqStopsK F N Tryz.prog 54 #[.pointer (some ⟨Bs, 0, none⟩)] (fun x : Nat × Cel => #[Value.int .i64 (x.1 : Int), .string x.2.1]) (KeepV V) (fun ys => ys.map (fun p => p.2.1) = ss.reverse) (fun _ => True) n w := fun l J Jx W hW _ _ hY h0 => by
  have hc' := (hW.cell (p := ⟨Bs, 0, none⟩) (hV _ hVB)).trans hBs
  exact back1_in F N hF hro hN l Bs A n c ss hn V hVB hle J Jx hY W hc' (hc.below hW) h0

end Go.Proofs.YtojincohnjophaaGreatDoor
