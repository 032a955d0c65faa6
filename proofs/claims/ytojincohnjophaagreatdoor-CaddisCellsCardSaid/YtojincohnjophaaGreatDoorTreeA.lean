/- The walks of layer 20's places: where a key is in a leaf, the way of a key in an inner knot. -/
import Derived.Test.YtojincohnjophaaGreatDoorTreeMem
namespace Go.Proofs.YtojincohnjophaaGreatDoor
open Go.RowKit
open TreeP (Kt Cell kl flat flatL)
set_option linter.unusedVariables false

theorem cell_next {w w1 : World} {a : Addr} {v : Value} (h : w.cell? a = some v) (hb : Below w.heap.size w w1) : w1.cell? a = some v :=
  (hb.cell (p := a) (World.block_lt_of_cell? w a h)).trans h

set_option maxHeartbeats 400000 in
theorem place1_any (a : Addr) (key : ByteArray) (k v : ByteArray) (w : World) (hk : w.cell? a = some (.string key)) :
    Calls Tryz.prog 80 #[.agg #[.string k, .string v], .pointer (some a)] w fun e w' => e = .returned (.bool (!kl k key)) ∧ Below w.heap.size w w' := by
  have hk1 : ∀ o, (w.alloc o).cell? a = some (.string key) := fun o => cell_next hk ((Below.refl _ w).alloc (Nat.le_refl _) o)
  clear hk
  go_enter Tryz.func80, Tryz.ntmps80
  go_wp2_with fail
  go_ret
  exact ⟨rfl, (Below.refl _ _).alloc (Nat.le_refl _) _⟩

theorem place_lt {l : List Cell} {key : ByteArray} {k : Nat} {c : Cell} (hc : l[k]? = some c) (h : k ≤ TreeP.place l key) (e : kl c.1 key = true) : k + 1 ≤ TreeP.place l key := by
  rcases Nat.lt_or_ge k (TreeP.place l key) with h1 | h1
  · omega
  · have h2 : TreeP.place l key = k := by omega
    have hlt : k < l.length := (List.getElem?_eq_some_iff.1 hc).1
    have h3 : TreeP.place l key < l.length := by omega
    have := List.findIdx_getElem (xs := l) (p := fun c : Cell => !kl c.1 key) (w := h3)
    have h4 : l[TreeP.place l key]? = some c := by rw [h2]; exact hc
    have h5 : l[List.findIdx (fun c : Cell => !kl c.1 key) l]'h3 = c := (List.getElem?_eq_some_iff.1 h4).2
    rw [h5] at this
    simp [e] at this
theorem place_eq {l : List Cell} {key : ByteArray} {k : Nat} {c : Cell} (hc : l[k]? = some c) (h : k ≤ TreeP.place l key) (e : kl c.1 key = false) : TreeP.place l key = k := by
  rcases Nat.lt_or_ge k (TreeP.place l key) with h1 | h1
  · have := List.not_of_lt_findIdx h1
    have hlt : k < l.length := (List.getElem?_eq_some_iff.1 hc).1
    rw [(List.getElem?_eq_some_iff.1 hc).2] at this
    simp [e] at this
  · omega

/-- what IndexFunc answers -/
def idxR (p n : Nat) : Int := if p < n then (p : Int) else -1

set_option maxHeartbeats 400000 in
theorem indexC_any (A : Option Addr) (n c : Nat) (l : List Cell) (V : Nat → Prop) (a : Addr) (key : ByteArray) (w : World) (h : Sl w V 2 A n (cellsV l)) (hn : n ≤ 1000000000) (hk : w.cell? a = some (.string key)) :
    Calls Tryz.prog 79 #[.slice A n c, .func (Fn.func 80) #[] #[.pointer (some a)]] w
      fun e w' => e = .returned (.int .i64 (idxR (TreeP.place l key) n)) ∧ Below w.heap.size w w' := by
  have hlen : l.length = n := h.cells
  have HL := hide hlen
  clear hlen
  go_enter Tryz.func79, Tryz.ntmps79
  go_wp2_with fail
  go_loopw [8] (fun i wr => ∃ k : Nat, k ≤ n ∧ i = .int .i64 k ∧ k ≤ TreeP.place l key ∧ Below w.heap.size w wr) (fun i _ => n - (intOf i).toNat)
  case atStart => exact ⟨0, Nat.zero_le _, rfl, Nat.zero_le _, Below.refl _ _⟩
  case round =>
    obtain ⟨k, hkn, rfl, hpl, hb⟩ := hrel
    by_cases hlt : k < n
    · obtain ⟨ad, x, hA, hx, hc1, hc2⟩ := (h.below hb).cell hlt
      subst hA
      have hk' := cell_next hk hb
      have HX := hide hx
      clear hx h hk
      cases e : kl x.1 key with
      | true =>
        have := place_lt HX.out hpl e
        have HE := hide e
        clear e
        go_wp2_with fail
        refine (place1_any a key x.1 x.2 _ hk').mono ?_
        rw [HE.out]
        rintro e w' ⟨rfl, hb'⟩
        have hb2 := hb.trans (hb'.mono hb.size)
        go_wp2_with fail
        go_roundw
        case rel => exact ⟨k + 1, by omega, by go_num, by omega, hb2⟩
        case measure => simp [intOf]; omega
      | false =>
        have := place_eq HX.out hpl e
        have HE := hide e
        have HP := hide this
        clear e this
        go_wp2_with fail
        refine (place1_any a key x.1 x.2 _ hk').mono ?_
        rw [HE.out]
        rintro e w' ⟨rfl, hb'⟩
        have hb2 := hb.trans (hb'.mono hb.size)
        go_wp2_with fail
        go_ret
        exact ⟨by rw [HP.out, idxR, if_pos hlt]; rfl, hb2⟩
    · obtain rfl : k = n := by omega
      go_wp2_with fail
      go_ret
      have hx : ¬ TreeP.place l key < k := by omega
      exact ⟨by rw [idxR, if_neg hx]; rfl, hb⟩

set_option maxHeartbeats 400000 in
theorem place_any (v1 v2 v3 : Value) (t : Kt) (key : ByteArray) (V : Nat → Prop) (w : World) (h : Kn w V 1000 v1 v2 v3 t) :
    Calls Tryz.prog 42 #[.agg #[v1, v2, v3], .string key] w fun e w' => e = .returned (.tuple #[.int .i64 (TreeP.place t.cells key : Nat), .bool (TreeP.placed t.cells key)]) ∧ Below w.heap.size w w' := by
  obtain ⟨cells, keys, kids⟩ := t
  obtain ⟨⟨A1, c1, e1, h1, g1, s1⟩, ⟨A2, c2, e2, h2, g2, s2⟩, A3, c3, vals, e3, h3, g3, s3, k3⟩ := kn_mk.1 h
  subst e1 e2 e3
  clear h s2 s3 k3
  simp only [Kt.cells]
  have hpl := TreeP.place_le cells key
  have hb0 : ∀ o1 o2, Below w.heap.size w ((w.alloc o1).alloc o2) := fun o1 o2 => ((Below.refl _ w).alloc (Nat.le_refl _) o1).alloc (by simp) o2
  have hidx := fun o1 o2 hk => indexC_any A1 cells.length c1 cells V ⟨w.heap.size + 1, 0, none⟩ key ((w.alloc o1).alloc o2) (s1.below (hb0 o1 o2)) (by omega) hk
  by_cases hlt : TreeP.place cells key < cells.length
  · obtain ⟨x, hx⟩ : ∃ x, cells[TreeP.place cells key]? = some x := ⟨_, List.getElem?_eq_getElem hlt⟩
    have hq : TreeP.placed cells key = decide (x.1 = key) := by simp [TreeP.placed, hx]
    rw [hq]
    simp only [idxR, if_pos hlt] at hidx
    generalize TreeP.place cells key = p at *
    have HX := hide hx
    clear hx hq
    go_enter Tryz.func42, Tryz.ntmps42
    go_wp2_with fail
    refine (hidx _ _ (by go_simp)).mono ?_
    rintro e w' ⟨rfl, hb'⟩
    have hb2 := (hb0 _ _).trans (hb'.mono (hb0 _ _).size)
    have bx0 : w'.cell? ⟨w.heap.size, 0, none⟩ = some (.slice A1 cells.length c1) := cell_next (by go_simp) hb'
    have bx1 : w'.cell? ⟨w.heap.size + 1, 0, none⟩ = some (.string key) := cell_next (by go_simp) hb'
    obtain ⟨a, x', hA, hx', hc1, hc2⟩ := (s1.below hb2).cell hlt
    have hxe : x' = x := by rw [HX.out] at hx'; injection hx' with hx'; exact hx'.symm
    subst hxe hA
    clear hx' HX s1 hidx
    have hi0 : (0 : Int) ≤ (p : Int) := by omega
    have hi1 : (p : Int) < (cells.length : Int) := by omega
    go_wp2_with fail
    go_quiet (fail)
    go_wp2_with fail
    go_ret2
    exact ⟨by rw [← TreeP.toList_beq]; rfl, below_drewN hb2 _⟩
  · have hp : TreeP.place cells key = cells.length := by omega
    have hq : TreeP.placed cells key = false := by simp [TreeP.placed, hp]
    rw [hq, hp]
    simp only [idxR, if_neg hlt] at hidx
    clear hq hp hlt hpl s1
    go_enter Tryz.func42, Tryz.ntmps42
    go_wp2_with fail
    refine (hidx _ _ (by go_simp)).mono ?_
    rintro e w' ⟨rfl, hb'⟩
    have hb2 := (hb0 _ _).trans (hb'.mono (hb0 _ _).size)
    have bx0 : w'.cell? ⟨w.heap.size, 0, none⟩ = some (.slice A1 cells.length c1) := cell_next (by go_simp) hb'
    clear hidx
    go_wp2_with fail
    go_ret2
    exact ⟨rfl, hb2⟩

/-! ### The way -/
theorem gtr_kl (a b : ByteArray) : (!(Op.bytesLess a.toList b.toList || a.toList == b.toList)) = kl b a := by
  cases e : kl b a with
  | true =>
    have h1 : Op.bytesLess a.toList b.toList = false := TreeP.kl_asymm e
    have h2 : (a.toList == b.toList) = false := by rw [TreeP.toList_beq]; simpa using (TreeP.kl_ne e).symm
    rw [h1, h2]; rfl
  | false =>
    cases e2 : kl a b with
    | true => rw [show Op.bytesLess a.toList b.toList = true from e2]; rfl
    | false => rw [TreeP.kl_total e2 e]; simp
theorem leq_kl (a b : ByteArray) : (Op.bytesLess a.toList b.toList || a.toList == b.toList) = !kl b a := by rw [← gtr_kl]; simp

set_option maxHeartbeats 400000 in
theorem way1_any (a : Addr) (key : ByteArray) (k : ByteArray) (w : World) (hk : w.cell? a = some (.string key)) :
    Calls Tryz.prog 84 #[.string k, .pointer (some a)] w fun e w' => e = .returned (.bool (kl key k)) ∧ Below w.heap.size w w' := by
  go_enter Tryz.func84, Tryz.ntmps84
  go_wp2_with fail
  go_ret
  exact ⟨by rw [← gtr_kl, Bool.not_or]; rfl, Below.refl _ _⟩

theorem way_lt {l : List ByteArray} {key : ByteArray} {k : Nat} {c : ByteArray} (hc : l[k]? = some c) (h : k ≤ TreeP.way l key) (e : kl key c = false) : k + 1 ≤ TreeP.way l key := by
  rcases Nat.lt_or_ge k (TreeP.way l key) with h1 | h1
  · omega
  · have h2 : TreeP.way l key = k := by omega
    have hlt : k < l.length := (List.getElem?_eq_some_iff.1 hc).1
    have h3 : TreeP.way l key < l.length := by omega
    have := List.findIdx_getElem (xs := l) (p := fun k => kl key k) (w := h3)
    have h4 : l[TreeP.way l key]? = some c := by rw [h2]; exact hc
    have h5 : l[List.findIdx (fun k => kl key k) l]'h3 = c := (List.getElem?_eq_some_iff.1 h4).2
    rw [h5] at this
    simp [e] at this
theorem way_eq {l : List ByteArray} {key : ByteArray} {k : Nat} {c : ByteArray} (hc : l[k]? = some c) (h : k ≤ TreeP.way l key) (e : kl key c = true) : TreeP.way l key = k := by
  rcases Nat.lt_or_ge k (TreeP.way l key) with h1 | h1
  · have := List.not_of_lt_findIdx h1
    rw [(List.getElem?_eq_some_iff.1 hc).2] at this
    simp [e] at this
  · omega

set_option maxHeartbeats 400000 in
theorem indexS_any (A : Option Addr) (n c : Nat) (l : List ByteArray) (V : Nat → Prop) (a : Addr) (key : ByteArray) (w : World) (h : Sl w V 1 A n (strs l)) (hn : n ≤ 1000000000) (hk : w.cell? a = some (.string key)) :
    Calls Tryz.prog 83 #[.slice A n c, .func (Fn.func 84) #[] #[.pointer (some a)]] w
      fun e w' => e = .returned (.int .i64 (idxR (TreeP.way l key) n)) ∧ Below w.heap.size w w' := by
  have hlen : l.length = n := h.len
  have HL := hide hlen
  clear hlen
  go_enter Tryz.func83, Tryz.ntmps83
  go_wp2_with fail
  go_loopw [8] (fun i wr => ∃ k : Nat, k ≤ n ∧ i = .int .i64 k ∧ k ≤ TreeP.way l key ∧ Below w.heap.size w wr) (fun i _ => n - (intOf i).toNat)
  case atStart => exact ⟨0, Nat.zero_le _, rfl, Nat.zero_le _, Below.refl _ _⟩
  case round =>
    obtain ⟨k, hkn, rfl, hpl, hb⟩ := hrel
    by_cases hlt : k < n
    · obtain ⟨ad, x, hA, hx, hc1⟩ := (h.below hb).str hlt
      subst hA
      have hk' := cell_next hk hb
      have HX := hide hx
      clear hx h hk
      cases e : kl key x with
      | false =>
        have := way_lt HX.out hpl e
        have HE := hide e
        clear e
        go_wp2_with fail
        refine (way1_any a key x _ hk').mono ?_
        rw [HE.out]
        rintro e w' ⟨rfl, hb'⟩
        have hb2 := hb.trans (hb'.mono hb.size)
        go_wp2_with fail
        go_roundw
        case rel => exact ⟨k + 1, by omega, by go_num, by omega, hb2⟩
        case measure => simp [intOf]; omega
      | true =>
        have := way_eq HX.out hpl e
        have HE := hide e
        have HP := hide this
        clear e this
        go_wp2_with fail
        refine (way1_any a key x _ hk').mono ?_
        rw [HE.out]
        rintro e w' ⟨rfl, hb'⟩
        have hb2 := hb.trans (hb'.mono hb.size)
        go_wp2_with fail
        go_ret
        exact ⟨by rw [HP.out, idxR, if_pos hlt]; rfl, hb2⟩
    · obtain rfl : k = n := by omega
      go_wp2_with fail
      go_ret
      have hx : ¬ TreeP.way l key < k := by omega
      exact ⟨by rw [idxR, if_neg hx]; rfl, hb⟩

set_option maxHeartbeats 400000 in
theorem way_any (v1 v2 v3 : Value) (t : Kt) (key : ByteArray) (V : Nat → Prop) (w : World) (h : Kn w V 1000 v1 v2 v3 t) :
    Calls Tryz.prog 45 #[.agg #[v1, v2, v3], .string key] w fun e w' => e = .returned (.int .i64 (TreeP.way t.keys key : Nat)) ∧ Below w.heap.size w w' := by
  obtain ⟨cells, keys, kids⟩ := t
  obtain ⟨⟨A1, c1, e1, h1, g1, s1⟩, ⟨A2, c2, e2, h2, g2, s2⟩, A3, c3, vals, e3, h3, g3, s3, k3⟩ := kn_mk.1 h
  subst e1 e2 e3
  clear h s1 s3 k3
  simp only [Kt.keys]
  have hpl := TreeP.way_le keys key
  have hb0 : ∀ o1 o2, Below w.heap.size w ((w.alloc o1).alloc o2) := fun o1 o2 => ((Below.refl _ w).alloc (Nat.le_refl _) o1).alloc (by simp) o2
  have hidx := fun o1 o2 hk => indexS_any A2 keys.length c2 keys V ⟨w.heap.size + 1, 0, none⟩ key ((w.alloc o1).alloc o2) (s2.below (hb0 o1 o2)) (by omega) hk
  clear s2
  by_cases hlt : TreeP.way keys key < keys.length
  · simp only [idxR, if_pos hlt] at hidx
    generalize TreeP.way keys key = p at *
    have hi0 : ¬ (p : Int) < 0 := by omega
    go_enter Tryz.func45, Tryz.ntmps45
    go_wp2_with fail
    refine (hidx _ _ (by go_simp)).mono ?_
    rintro e w' ⟨rfl, hb'⟩
    have hb2 := (hb0 _ _).trans (hb'.mono (hb0 _ _).size)
    clear hidx
    go_wp2_with fail
    go_ret
    exact ⟨rfl, hb2⟩
  · have hp : TreeP.way keys key = keys.length := by omega
    rw [hp]
    simp only [idxR, if_neg hlt] at hidx
    clear hp hlt hpl
    go_enter Tryz.func45, Tryz.ntmps45
    go_wp2_with fail
    refine (hidx _ _ (by go_simp)).mono ?_
    rintro e w' ⟨rfl, hb'⟩
    have hb2 := (hb0 _ _).trans (hb'.mono (hb0 _ _).size)
    have bx0 : w'.cell? ⟨w.heap.size, 1, none⟩ = some (.slice A2 keys.length c2) := cell_next (by go_simp) hb'
    clear hidx
    go_wp2_with fail
    go_ret
    exact ⟨rfl, hb2⟩
end Go.Proofs.YtojincohnjophaaGreatDoor
