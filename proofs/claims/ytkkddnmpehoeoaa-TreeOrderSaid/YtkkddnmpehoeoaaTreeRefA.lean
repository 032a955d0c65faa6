/- The walks of layer 20's reference, lists of cells: Get, Without, Range, With, Same. -/
import Derived.Test.YtkkddnmpehoeoaaTreeFind
import Derived.Test.YtkkddnmpehoeoaaTreeLaws
namespace Go.Proofs.Ytkkddnmpehoeoaa
open Go.RowKit
open TreeP (Kt Cell kl flat flatL)
set_option linter.unusedVariables false
attribute [local go_sem ↓] Go.wp_at_zero Go.wp_at_succ

/-- the cells that are taken, of the first k -/
def filtK (p : Cell → Bool) (l : List Cell) (k : Nat) : List Cell := (l.take k).filter p
theorem filtK_zero (p : Cell → Bool) (l : List Cell) : filtK p l 0 = [] := rfl
theorem filtK_yes {p : Cell → Bool} {l : List Cell} {k : Nat} {c : Cell} (h : l[k]? = some c) (hp : p c = true) : filtK p l k ++ [c] = filtK p l (k + 1) := by
  have h1 : k < l.length := (List.getElem?_eq_some_iff.1 h).1
  have h2 : l[k] = c := (List.getElem?_eq_some_iff.1 h).2
  unfold filtK
  rw [List.take_succ_eq_append_getElem h1, List.filter_append, h2]
  simp [hp]
theorem filtK_no {p : Cell → Bool} {l : List Cell} {k : Nat} {c : Cell} (h : l[k]? = some c) (hp : p c = false) : filtK p l k = filtK p l (k + 1) := by
  have h1 : k < l.length := (List.getElem?_eq_some_iff.1 h).1
  have h2 : l[k] = c := (List.getElem?_eq_some_iff.1 h).2
  unfold filtK
  rw [List.take_succ_eq_append_getElem h1, List.filter_append, h2]
  simp [hp]
theorem filtK_all {p : Cell → Bool} {l : List Cell} {k : Nat} (h : l.length = k) : filtK p l k = l.filter p := by
  unfold filtK; rw [List.take_of_length_le (by omega)]
theorem filtK_le (p : Cell → Bool) (l : List Cell) (k : Nat) : (filtK p l k).length ≤ k := by
  unfold filtK
  have := List.length_filter_le p (l.take k)
  rw [List.length_take] at this; omega

/-- an own list of cells -/
def OwnC (w : World) (base : Nat) (v : Value) (l : List Cell) : Prop := w.ownsRow base 44 2 v l.length (cellsV l)
theorem OwnC.mk {w : World} {base : Nat} {v : Value} {l : List Cell} (h : w.ownsRow base 44 2 v l.length (cellsV l)) : OwnC w base v l := h
theorem OwnC.nil (w : World) (base : Nat) : OwnC w base (.slice none 0 0) [] := World.ownsRow_nil w _ _ _
theorem OwnC.of_app {w : World} {base : Nat} {v : Value} {l m : List Cell} {c : Cell} {n : Nat} (h : w.ownsRow base 44 2 v (n + 1) (cellsV l ++ [.string c.1, .string c.2])) (hn : n = l.length) (e : l ++ [c] = m) : OwnC w base v m := by
  subst e hn
  unfold OwnC
  rw [cellsV_append, List.length_append]
  exact h
theorem one2 (a b : ByteArray) : ∀ u ∈ [Value.string a, Value.string b], u.oneCell' = true := by
  intro u hu
  simp only [List.mem_cons, List.not_mem_nil, or_false] at hu
  rcases hu with rfl | rfl <;> rfl
theorem OwnC.sl {w : World} {base : Nat} {v : Value} {l : List Cell} (h : OwnC w base v l) : ∃ A c, v = .slice A l.length c ∧ Sl w (fun _ => True) 2 A l.length (cellsV l) := by
  obtain ⟨A, c, e, _, hs⟩ := SlV.own (V := fun _ => True) (show w.ownsRow base 44 2 v l.length (cellsV l) from h) (fun _ _ => trivial)
  exact ⟨A, c, e, hs⟩
theorem OwnC.below {w w' : World} {base : Nat} {v : Value} {l : List Cell} (h : OwnC w base v l) (hb : Below w.heap.size w w') : OwnC w' base v l := own_below h hb
theorem OwnC.mono {w : World} {base base' : Nat} {v : Value} {l : List Cell} (h : OwnC w base v l) (hb : base' ≤ base) : OwnC w base' v l := ⟨h.1, h.2.imp id fun ⟨g, cap, cur, a, b, c⟩ => ⟨g, cap, cur, a, Nat.le_trans hb b, c⟩⟩
theorem cat_one (l : List Cell) (a b : ByteArray) : cellsV l ++ [.string a, .string b] = cellsV (l ++ [(a, b)]) := by rw [cellsV_append]; rfl

set_option maxRecDepth 100000 in
set_option maxHeartbeats 800000 in
theorem rwithout_any (A : Option Addr) (n c : Nat) (l : List Cell) (key : ByteArray) (V : Nat → Prop) (w : World) (h : Sl w V 2 A n (cellsV l)) (hn : n ≤ 1000000000) :
    Calls Try.prog 23 #[.slice A n c, .string key] w fun e w' => ∃ v, e = .returned v ∧ OwnC w' w.heap.size v (TreeP.without l key) ∧ Below w.heap.size w w' := by
  have hlen : l.length = n := h.cells
  obtain ⟨p, hp⟩ : ∃ p : Cell → Bool, p = fun d => decide (d.1 ≠ key) := ⟨_, rfl⟩
  have hR : TreeP.without l key = l.filter p := by rw [hp]; rfl
  rw [hR]
  have hpd : ∀ d : Cell, p d = !(d.1.toList == key.toList) := fun d => by rw [hp, TreeP.toList_beq]; simp
  have HPD := hide hpd
  have HL := hide hlen
  clear hlen hR hp hpd
  go_enter Try.func23, Try.ntmps23
  go_wp2_with fail
  go_loopw [5, 6] (fun v i wr => ∃ k : Nat, k ≤ n ∧ i = .int .i64 k ∧ wr.ownsRow w.heap.size 44 2 v (filtK p l k).length (cellsV (filtK p l k)) ∧ Below w.heap.size w wr) (fun _ i _ => n - (intOf i).toNat)
  case atStart => exact ⟨0, Nat.zero_le _, rfl, OwnC.nil _ _, Below.refl _ _⟩
  case round =>
    obtain ⟨k, hkn, rfl, hown, hb⟩ := hrel
    have hle := filtK_le p l k
    by_cases hlt : k < n
    · obtain ⟨ad, x, hA, hx, hc1, hc2⟩ := (h.below hb).cell hlt
      subst hA
      have HX := hide hx
      clear hx h
      cases e : p x with
      | true =>
        have e1 : (!(x.1.toList == key.toList)) = true := by rw [← HPD.out]; exact e
        have E := hide (filtK_yes HX.out e)
        clear e
        go_wp2_with (at_builtin; refine appn_C rfl _ _ rfl w.heap.size _ _ _ hown rfl [.string x.1, .string x.2] rfl rfl (one2 _ _) (by omega) hb.size ?_; intro v' w2 hA)
        have hb2 := hA.below hown hb (Nat.le_refl _) hb.size
        have ho2 : OwnC w2 w.heap.size v' (filtK p l (k + 1)) := OwnC.of_app hA.own rfl E.out
        go_roundw
        case rel => exact ⟨k + 1, by omega, by go_num, ho2, hb2⟩
        case measure => simp [intOf]; omega
      | false =>
        have e1 : (!(x.1.toList == key.toList)) = false := by rw [← HPD.out]; exact e
        have E := hide (filtK_no HX.out e)
        clear e
        go_wp2_with fail
        rw [E.out] at hown
        go_roundw
        case rel => exact ⟨k + 1, by omega, by go_num, hown, hb⟩
        case measure => simp [intOf]; omega
    · obtain rfl : k = n := by omega
      rw [filtK_all HL.out] at hown
      go_wp2_with fail
      go_ret
      exact ⟨_, rfl, hown, hb⟩

theorem empty_list {s : ByteArray} : s.toList.isEmpty = decide (s = .empty) := by
  have h : (ByteArray.empty).toList = [] := by rw [ByteArray.toList_eq]; rfl
  rw [Bool.eq_iff_iff, List.isEmpty_iff, decide_eq_true_eq, ← h]
  exact ⟨TreeP.toList_inj, fun e => by rw [e]⟩

theorem get_at {l : List Cell} {k : Nat} {key : ByteArray} {x : Cell} (h : TreeP.get (l.drop k) key = TreeP.get l key) (hx : l[k]? = some x) :
    (x.1 = key → TreeP.get l key = some x.2) ∧ (x.1 ≠ key → TreeP.get (l.drop (k + 1)) key = TreeP.get l key) := by
  have h1 : k < l.length := (List.getElem?_eq_some_iff.1 hx).1
  have h2 : l[k] = x := (List.getElem?_eq_some_iff.1 hx).2
  have e : l.drop k = x :: l.drop (k + 1) := by rw [List.drop_eq_getElem_cons h1, h2]
  rw [e] at h
  constructor
  · intro q
    rw [← h]; simp [TreeP.get, q]
  · intro q
    rw [← h]; simp [TreeP.get, q]

set_option maxRecDepth 100000 in
set_option maxHeartbeats 800000 in
theorem rget_any (A : Option Addr) (n c : Nat) (l : List Cell) (key : ByteArray) (V : Nat → Prop) (w : World) (h : Sl w V 2 A n (cellsV l)) (hn : n ≤ 1000000000) :
    Calls Try.prog 20 #[.slice A n c, .string key] w fun e w' => e = .returned (.tuple #[.string ((TreeP.get l key).getD .empty), .bool (TreeP.get l key).isSome]) ∧ w' = w := by
  have hlen : l.length = n := h.cells
  have HL := hide hlen
  obtain ⟨R, hR⟩ : ∃ R, R = TreeP.get l key := ⟨_, rfl⟩
  rw [← hR]
  have HR := hide hR
  clear hlen hR
  go_enter Try.func20, Try.ntmps20
  go_wp2_with fail
  go_loop [6] (fun i => ∃ k : Nat, k ≤ n ∧ i = .int .i64 k ∧ TreeP.get (l.drop k) key = TreeP.get l key) (fun i => n - (intOf i).toNat)
  case atStart => exact ⟨0, Nat.zero_le _, rfl, rfl⟩
  case round =>
    obtain ⟨k, hkn, rfl, hg⟩ := hrel
    have HG := hide hg
    clear hg
    by_cases hlt : k < n
    · obtain ⟨ad, x, hA, hx, hc1, hc2⟩ := h.cell hlt
      subst hA
      have HX := hide hx
      clear hx h
      by_cases e : x.1 = key
      · have e1 : (x.1.toList == key.toList) = true := by rw [TreeP.toList_beq]; simp [e]
        have hv : R = some x.2 := HR.out.trans ((get_at HG.out HX.out).1 e)
        subst hv
        clear e
        go_wp2_with fail
        go_ret2
        exact ⟨rfl, rfl⟩
      · have e1 : (x.1.toList == key.toList) = false := by rw [TreeP.toList_beq]; simp [e]
        have hv := hide ((get_at HG.out HX.out).2 e)
        clear e
        go_wp2_with fail
        go_round
        case rel => exact ⟨k + 1, by omega, by go_num, hv.out⟩
        case measure => simp [intOf]; omega
    · obtain rfl : k = n := by omega
      have hv : R = none := by
        rw [HR.out, ← HG.out, List.drop_of_length_le (by have := HL.out; omega)]; rfl
      subst hv
      go_wp2_with fail
      go_ret2
      exact ⟨rfl, rfl⟩

set_option maxRecDepth 100000 in
set_option maxHeartbeats 800000 in
theorem rrange_any (A : Option Addr) (n c : Nat) (l : List Cell) (frm to : ByteArray) (V : Nat → Prop) (w : World) (h : Sl w V 2 A n (cellsV l)) (hn : n ≤ 1000000000) :
    Calls Try.prog 25 #[.slice A n c, .string frm, .string to] w fun e w' => ∃ v, e = .returned v ∧ OwnC w' w.heap.size v (TreeP.rangeP frm to l) ∧ Below w.heap.size w w' := by
  have hlen : l.length = n := h.cells
  obtain ⟨p, hp⟩ : ∃ p : Cell → Bool, p = fun c => !kl c.1 frm && (decide (to = .empty) || kl c.1 to) := ⟨_, rfl⟩
  have hR : TreeP.rangeP frm to l = l.filter p := by rw [hp]; rfl
  rw [hR]
  have HP := hide hp
  have HL := hide hlen
  clear hlen hR hp
  go_enter Try.func25, Try.ntmps25
  go_wp2_with fail
  go_loopw [7, 8] (fun v i wr => ∃ k : Nat, k ≤ n ∧ i = .int .i64 k ∧ wr.ownsRow w.heap.size 44 2 v (filtK p l k).length (cellsV (filtK p l k)) ∧ Below w.heap.size w wr) (fun _ i _ => n - (intOf i).toNat)
  case atStart => exact ⟨0, Nat.zero_le _, rfl, OwnC.nil _ _, Below.refl _ _⟩
  case round =>
    obtain ⟨k, hkn, rfl, hown, hb⟩ := hrel
    have hle := filtK_le p l k
    by_cases hlt : k < n
    · obtain ⟨ad, x, hA, hx, hc1, hc2⟩ := (h.below hb).cell hlt
      subst hA
      have HX := hide hx
      clear hx h
      obtain ⟨b1, e1⟩ : ∃ b, Op.bytesLess x.1.toList frm.toList = b := ⟨_, rfl⟩
      obtain ⟨b2, e2⟩ : ∃ b, to.toList.isEmpty = b := ⟨_, rfl⟩
      obtain ⟨b3, e3⟩ : ∃ b, Op.bytesLess x.1.toList to.toList = b := ⟨_, rfl⟩
      have hpx : p x = (!b1 && (b2 || b3)) := by
        rw [HP.out, ← e1, ← e2, ← e3, empty_list]; rfl
      cases b1 with
      | true =>
        have hp1 : p x = false := by rw [hpx]; rfl
        have E := hide (filtK_no HX.out hp1)
        clear hpx hp1
        go_wp2_with fail
        rw [E.out] at hown
        go_roundw
        case rel => exact ⟨k + 1, by omega, by go_num, hown, hb⟩
        case measure => simp [intOf]; omega
      | false =>
        cases b2 with
        | true =>
          have e4 : to.toList = [] := List.isEmpty_iff.1 e2
          clear e2 e3
          have hp1 : p x = true := by rw [hpx]; rfl
          have E := hide (filtK_yes HX.out hp1)
          clear hpx hp1
          go_wp2_with (at_builtin; refine appn_C rfl _ _ rfl w.heap.size _ _ _ hown rfl [.string x.1, .string x.2] rfl rfl (one2 _ _) (by omega) hb.size ?_; intro v' w2 hA)
          have hb2 := hA.below hown hb (Nat.le_refl _) hb.size
          have ho2 : OwnC w2 w.heap.size v' (filtK p l (k + 1)) := OwnC.of_app hA.own rfl E.out
          go_roundw
          case rel => exact ⟨k + 1, by omega, by go_num, ho2, hb2⟩
          case measure => simp [intOf]; omega
        | false =>
          cases b3 with
          | true =>
            have hp1 : p x = true := by rw [hpx]; rfl
            have E := hide (filtK_yes HX.out hp1)
            clear hpx hp1
            go_wp2_with (at_builtin; refine appn_C rfl _ _ rfl w.heap.size _ _ _ hown rfl [.string x.1, .string x.2] rfl rfl (one2 _ _) (by omega) hb.size ?_; intro v' w2 hA)
            have hb2 := hA.below hown hb (Nat.le_refl _) hb.size
            have ho2 : OwnC w2 w.heap.size v' (filtK p l (k + 1)) := OwnC.of_app hA.own rfl E.out
            go_roundw
            case rel => exact ⟨k + 1, by omega, by go_num, ho2, hb2⟩
            case measure => simp [intOf]; omega
          | false =>
            have hp1 : p x = false := by rw [hpx]; rfl
            have E := hide (filtK_no HX.out hp1)
            clear hpx hp1
            go_wp2_with fail
            rw [E.out] at hown
            go_roundw
            case rel => exact ⟨k + 1, by omega, by go_num, hown, hb⟩
            case measure => simp [intOf]; omega
    · obtain rfl : k = n := by omega
      rw [filtK_all HL.out] at hown
      go_wp2_with fail
      go_ret
      exact ⟨_, rfl, hown, hb⟩
end Go.Proofs.Ytkkddnmpehoeoaa
