/- The walks of layer 3's octets and runs (seat c). -/
import Derived.Test.YtojincohnjophaaGreatDoorTreeRefA
import Derived.Test.YtojincohnjophaaGreatDoorTreePure
import Derived.Deep.DeepCutAuto
import Derived.Deep.CutBlock
import Derived.Deep.RegionHeld3
/-! The walk of layer 20's cells: the tree's cells behind others. -/
namespace Go.Proofs.YtojincohnjophaaGreatDoor
open Go.RowKit
open TreeP (Kt Cell kl flat flatL WS Inv InvL InB)
set_option linter.unusedVariables false
attribute [local go_sem ↓] Go.wp_at_zero Go.wp_at_succ

theorem BoxK.grownO {w w' : World} {row : Option Nat} {k : Nat} {v1 v2 v3 : Value} (h : BoxK w k v1 v2 v3) (hg : w.grownBy w' row) (hne : row ≠ some k) : BoxK w' k v1 v2 v3 := by
  unfold BoxK at *
  rw [hg.block k (Array.getElem?_eq_some_iff.1 h).1 (Ne.symm hne)]; exact h
theorem apd_trans {w w1 w1' w2 : World} {base : Nat} {e : TypeId} {size : Nat} {v v1 v2 : Value} {n1 n2 : Nat} {xs1 xs2 : List Value} (h1 : Apd w w1 base e size v v1 n1 xs1) (hg : w1.grownBy w1' none) (h2 : Apd w1' w2 base e size v1 v2 n2 xs2) : Apd w w2 base e size v v2 n2 xs2 := by
  refine ⟨h2.own, ⟨(h2.grown.os.trans hg.os).trans h1.grown.os, (h2.grown.tape.trans hg.tape).trans h1.grown.tape, (h2.grown.output.trans hg.output).trans h1.grown.output, Nat.le_trans h1.grown.size (Nat.le_trans hg.size h2.grown.size), fun k hk hne => ?_⟩, ?_⟩
  · have hk1 : k < w1.heap.size := Nat.lt_of_lt_of_le hk h1.grown.size
    rw [h2.grown.block k (Nat.lt_of_lt_of_le hk1 hg.size) ?_, hg.block k hk1 (by simp), h1.grown.block k hk hne]
    rcases h1.at_ with e | ⟨g, e, hge⟩
    · rw [e]; exact hne
    · rw [e]; intro h; injection h with h; omega
  · rcases h2.at_ with e | ⟨g, e, hge⟩
    · rw [e]; exact h1.at_
    · exact .inr ⟨g, e, Nat.le_trans h1.grown.size (Nat.le_trans hg.size hge)⟩
theorem apd_of_alloc {w w' : World} {o : Obj} {base : Nat} {e : TypeId} {size : Nat} {v v' : Value} {n : Nat} {xs : List Value} (h : Apd (w.alloc o) w' base e size v v' n xs) : Apd w w' base e size v v' n xs :=
  ⟨h.own, (World.grownBy_alloc w o v.ownBlock).trans h.grown, by
    rcases h.at_ with e | ⟨g, e, hge⟩
    · exact .inl e
    · exact .inr ⟨g, e, Nat.le_trans (by simp) hge⟩⟩

theorem flatL_take_succ {l : List Kt} {k : Nat} {x : Kt} (h : l[k]? = some x) : flatL (l.take (k + 1)) = flatL (l.take k) ++ flat x := by
  induction l generalizing k with
  | nil => simp at h
  | cons a l ih =>
    cases k with
    | zero =>
      simp only [List.getElem?_cons_zero, Option.some.injEq] at h
      subst h
      simp [flatL]
    | succ k =>
      simp only [List.getElem?_cons_succ] at h
      rw [List.take_succ_cons, List.take_succ_cons, flatL, flatL, ih h, List.append_assoc]
theorem flatL_take_le {l : List Kt} {k : Nat} : (flatL (l.take k)).length ≤ (flatL l).length := by
  induction l generalizing k with
  | nil => simp
  | cons a l ih =>
    cases k with
    | zero => simp [flatL]
    | succ k =>
      rw [List.take_succ_cons, flatL, flatL]
      have := ih (k := k)
      simp only [List.length_append]; omega

set_option maxRecDepth 100000 in
set_option maxHeartbeats 1600000 in
theorem cells_any (t : Kt) : ∀ (base : Nat) (v : Value) (n : Nat) (xs : List Value) (v1 v2 v3 : Value) (w : World), w.ownsRow base 36 2 v n xs → base ≤ w.heap.size → Kn w (fun k => k < base) 1000 v1 v2 v3 t → n + (flat t).length ≤ 1000000000 →
    Calls Tryz.prog 22 #[v, .agg #[v1, v2, v3]] w fun e w' => ∃ v', e = .returned v' ∧ Apd w w' base 36 2 v v' (n + (flat t).length) (xs ++ cellsV (flat t)) := by
  refine TreeP.ind (P := fun t => ∀ (base : Nat) (v : Value) (n : Nat) (xs : List Value) (v1 v2 v3 : Value) (w : World), w.ownsRow base 36 2 v n xs → base ≤ w.heap.size → Kn w (fun k => k < base) 1000 v1 v2 v3 t → n + (flat t).length ≤ 1000000000 →
    Calls Tryz.prog 22 #[v, .agg #[v1, v2, v3]] w fun e w' => ∃ v', e = .returned v' ∧ Apd w w' base 36 2 v v' (n + (flat t).length) (xs ++ cellsV (flat t))) ?_ t
  intro cells keys kids ih base v n xs v1 v2 v3 w hown hbase hkn hlen
  rw [flat] at hlen ⊢
  obtain ⟨⟨A1, c1, rfl, g1, g1', s1⟩, ⟨A2, c2, rfl, g2, _, s2⟩, A3, c3, vals, rfl, g3, g3', s3, k3⟩ := kn_mk.1 hkn
  obtain ⟨nc, hnc⟩ : ∃ nc, nc = cells.length := ⟨_, rfl⟩
  obtain ⟨nd, hnd⟩ : ∃ nd, nd = kids.length := ⟨_, rfl⟩
  rw [← hnc] at g1 g1' s1 ⊢
  rw [← hnd] at g3 g3' s3 ⊢
  generalize keys.length = nk at *
  have hownA := own_below hown ((Below.refl _ w).alloc (Nat.le_refl _) (.cells #[.slice A1 nc c1, .slice A2 nk c2, .slice A3 nd c3] 29))
  have hbA : Below base w (w.alloc (.cells #[.slice A1 nc c1, .slice A2 nk c2, .slice A3 nd c3] 29)) := (Below.refl base w).alloc hbase _
  have s1A := s1.below ((Below.refl _ w).alloc (Nat.le_refl _) (.cells #[.slice A1 nc c1, .slice A2 nk c2, .slice A3 nd c3] 29))
  have s3A := s3.below ((Below.refl _ w).alloc (Nat.le_refl _) (.cells #[.slice A1 nc c1, .slice A2 nk c2, .slice A3 nd c3] 29))
  have k3A := k3.below ((Below.refl _ w).alloc (Nat.le_refl _) (.cells #[.slice A1 nc c1, .slice A2 nk c2, .slice A3 nd c3] 29))
  have kB : BoxK (w.alloc (.cells #[.slice A1 nc c1, .slice A2 nk c2, .slice A3 nd c3] 29)) w.heap.size (.slice A1 nc c1) (.slice A2 nk c2) (.slice A3 nd c3) := blk_top rfl
  have hszA : w.heap.size < (w.alloc (.cells #[.slice A1 nc c1, .slice A2 nk c2, .slice A3 nd c3] 29)).heap.size := by simp
  have hne : v.ownBlock ≠ some w.heap.size := by
    intro e
    have := (hown.lt _ e).2
    omega
  have hone := cellsV_one cells
  have HO := hide hone
  have HNC := hide hnc
  have HND := hide hnd
  have HLEN := hide hlen
  have hnn : n + nc ≤ 1000000000000 := by simp only [List.length_append] at hlen; omega
  have IH := hide ih
  have S3 := hide s3
  have K3 := hide k3
  have HOWN := hide hown
  clear hone hnc hnd hlen hkn s1 s2 s3 k3 ih hown s3A k3A
  go_enter Tryz.func22, Tryz.ntmps22
  go_wp2_with (at_builtin; refine app_C rfl _ _ rfl base _ _ _ hownA rfl _ _ _ _ (cellsV cells) rfl s1A HO.out hnn (by omega) ?_; intro vA wB hA; have kB1 := kB.grownO hA.grown hne; obtain ⟨l1, l2, l3⟩ := kB1.cell)
  have hbB : Below base w wB := hA.below hownA hbA (Nat.le_refl _) (by omega)
  have hszB : w.heap.size < wB.heap.size := Nat.lt_of_lt_of_le hszA hA.grown.size
  have HA := hide (apd_of_alloc hA)
  clear hA hownA s1A hbA kB
  go_loopw [0, 6, 14] (fun x y i wr => ∃ (k : Nat), k ≤ nd ∧ i = .int .i64 k ∧ Apd w wr base 36 2 v x (n + (cells ++ flatL (kids.take k)).length) (xs ++ cellsV (cells ++ flatL (kids.take k)))) (fun _ _ i _ => nd - (intOf i).toNat)
  case atStart => exact ⟨0, Nat.zero_le _, rfl, by simpa [flatL, HNC.out] using HA.out⟩
  case round =>
    clear HA l1 l2 l3
    obtain ⟨k, hk, rfl, hA⟩ := hrel
    by_cases hlt : k < nd
    · obtain ⟨kid, hkid⟩ : ∃ kid, kids[k]? = some kid := ⟨_, List.getElem?_eq_getElem (by have := HND.out; omega)⟩
      have hbr := hA.below HOWN.out (Below.refl base w) (Nat.le_refl _) hbase
      have s3r : Sl wr (fun k => k < base) 3 A3 nd vals := S3.out.keep hbr.size (fun b hb _ => hbr.block b hb)
      have k3r : KnL wr (fun k => k < base) 1000 vals kids := knL_keep (Nat.le_refl _) hbr.size (fun b hb _ => hbr.block b hb) (fun b hb _ => hb) K3.out
      obtain ⟨ad, x1, x2, x3, e, f1, f2, f3, f4⟩ := kid_at s3r k3r hkid
      subst e
      obtain ⟨B1, m1, d1, B2, m2, d2, B3, m3, d3, rfl, rfl, rfl⟩ := kn_shape f4
      have hft := flatL_take_succ hkid
      have hfl := flatL_take_le (l := kids) (k := k + 1)
      have hL := HLEN.out
      rw [List.length_append] at hL
      have hsum : n + (cells ++ flatL (kids.take k)).length + (flat kid).length ≤ 1000000000 := by
        rw [hft, List.length_append] at hfl
        rw [List.length_append]; omega
      have hc := IH.out kid (List.mem_of_getElem? hkid) base u0 _ _ _ _ _ (wr.alloc (.cells #[.slice B1 m1 d1, .slice B2 m2 d2, .slice B3 m3 d3] 29)) (hA.own.alloc _) (by have := hbr.size; simp; omega) (f4.below ((Below.refl _ wr).alloc (Nat.le_refl _) _)) hsum
      have HC := hide hc
      have HFT := hide hft
      have HAr := hide hA
      have hge : (0 : Int) ≤ (k : Int) := by omega
      have hgl : (k : Int) < (nd : Int) := by omega
      clear hc hft hfl hL hsum s3r k3r f4 hkid hA hbr S3 K3 IH HO HLEN HOWN
      go_wp2_with fail
      refine HC.out.mono ?_
      rintro e w2 ⟨v2, rfl, hA2⟩
      have hA3 := apd_trans HAr.out (World.grownBy.refl _ _) (apd_of_alloc hA2)
      have e1 : n + (cells ++ flatL (kids.take k)).length + (flat kid).length = n + (cells ++ flatL (kids.take (k + 1))).length := by
        rw [HFT.out]; simp only [List.length_append]; omega
      have e2 : xs ++ cellsV (cells ++ flatL (kids.take k)) ++ cellsV (flat kid) = xs ++ cellsV (cells ++ flatL (kids.take (k + 1))) := by
        rw [HFT.out]; simp only [cellsV_append, List.append_assoc]
      rw [e1, e2] at hA3
      have HA3 := hide hA3
      clear hA3 hA2 e1 e2
      go_wp2_with fail
      go_roundw
      case rel => exact ⟨k + 1, by omega, by go_num, HA3.out⟩
      case measure => simp [intOf]; omega
    · obtain rfl : k = nd := by omega
      rw [HND.out, List.take_length] at hA
      go_wp2_with fail
      go_ret
      exact ⟨_, rfl, hA⟩
end Go.Proofs.YtojincohnjophaaGreatDoor

/-! The walks of layer 20's All and Range, and of the reference's Cells. -/
namespace Go.Proofs.YtojincohnjophaaGreatDoor
open Go.RowKit
open TreeP (Kt Cell kl flat flatL WS Inv InvL InB)
set_option linter.unusedVariables false
attribute [local go_sem ↓] Go.wp_at_zero Go.wp_at_succ

/-- All's answer -/
def allP (t : Kt) : List Cell := if chkP t = 0 then flat t else []
set_option maxRecDepth 100000 in
set_option maxHeartbeats 800000 in
theorem all_any (t : Kt) (v1 v2 v3 : Value) (w : World) (hkn : Kn w (fun _ => True) 1000 v1 v2 v3 t) (hlen : (flat t).length ≤ 1000000000) :
    Calls Tryz.prog 5 #[.agg #[v1, v2, v3]] w fun e w' => ∃ v, e = .returned v ∧ OwnC w' w.heap.size v (allP t) ∧ Below w.heap.size w w' := by
  obtain ⟨R, hR⟩ : ∃ R, R = allP t := ⟨_, rfl⟩
  rw [← hR]
  have HR := hide hR
  obtain ⟨A1, n1, c1, A2, n2, c2, A3, n3, c3, rfl, rfl, rfl⟩ := kn_shape hkn
  have hbA := (Below.refl w.heap.size w).alloc (Nat.le_refl _) (.cells #[.slice A1 n1 c1, .slice A2 n2 c2, .slice A3 n3 c3] 29)
  have hknA := hkn.lt.below hbA
  have kB : BoxK (w.alloc (.cells #[.slice A1 n1 c1, .slice A2 n2 c2, .slice A3 n3 c3] 29)) w.heap.size (.slice A1 n1 c1) (.slice A2 n2 c2) (.slice A3 n3 c3) := blk_top rfl
  have HK := hide hknA
  have HA := hide hbA
  have KB := hide kB
  clear hkn hbA hknA kB hR
  go_enter Tryz.func5, Tryz.ntmps5
  go_wp2_with fail
  refine (check_any t _ _ _ _ ?_).mono ?_
  · exact kn_keep (by omega) (Nat.le_refl _) (fun _ _ _ => rfl) (fun b h _ => trivial) HK.out
  rintro e w1 ⟨rfl, hb1⟩
  obtain ⟨k1, k2, k3⟩ := (KB.out.below hb1).cell
  have hkn1 := HK.out.below hb1
  have hbB := HA.out.trans (hb1.mono HA.out.size)
  have HK1 := hide hkn1
  have HB1 := hide hbB
  clear hkn1 hbB hb1
  by_cases hc : chkP t = 0
  · have hx : R = flat t := by rw [HR.out, allP, if_pos hc]
    subst hx
    rw [hc]
    clear hc HR HK HA KB
    go_wp2_with fail
    refine (cells_any t w.heap.size _ 0 [] _ _ _ _ (World.ownsRow_nil _ _ _ _) HB1.out.size HK1.out (by omega)).mono ?_
    rintro e w2 ⟨v, rfl, hA⟩
    have hb2 := hA.below (World.ownsRow_nil _ _ _ _) HB1.out (Nat.le_refl _) HB1.out.size
    have ho : OwnC w2 w.heap.size v (flat t) := by
      have := hA.own
      rw [Nat.zero_add, List.nil_append] at this
      exact this
    clear hA
    go_wp2_with fail
    go_ret
    exact ⟨_, rfl, ho, hb2⟩
  · have hx : R = [] := by rw [HR.out, allP, if_neg hc]
    subst hx
    have hc1 := chkP_no hc
    rw [hc1]
    clear hc hc1 HR
    go_wp2_with fail
    go_ret
    exact ⟨_, rfl, OwnC.nil _ _, HB1.out⟩

end Go.Proofs.YtojincohnjophaaGreatDoor

/-! The walks of layer 3's octets and runs (seat c). -/
namespace Go.Proofs.YtojincohnjophaaGreatDoor
open Go.RowKit
set_option linter.unusedVariables false

def letterB (c : Nat) : Bool := (decide (97 ≤ c) && decide (c ≤ 122)) || (decide (65 ≤ c) && decide (c ≤ 90))
def digitB (c : Nat) : Bool := decide (48 ≤ c) && decide (c ≤ 57)
def partB (c : Nat) : Bool := letterB c || digitB c || decide (c = 95)

set_option maxRecDepth 100000 in
theorem letter_any (c : Nat) (w : World) : Calls Tryz.prog 177 #[.int .u8 (c : Nat)] w fun q w' => q = .returned (.bool (letterB c)) ∧ w = w' := by
  by_cases h1 : 97 ≤ c
  · by_cases h2 : c ≤ 122
    · have e : letterB c = true := by simp [letterB, h1, h2]
      have a1 : (97 : Int) ≤ (c : Int) := by omega
      have a2 : (c : Int) ≤ 122 := by omega
      go_enter Tryz.func177, Tryz.ntmps177
      go_wp2_with fail
      go_ret
      exact ⟨by first | rfl | (rw [e]; rfl), rfl⟩
    · have e : letterB c = false := by simp [letterB, h1, h2]; omega
      have a1 : (97 : Int) ≤ (c : Int) := by omega
      have a2 : ¬ (c : Int) ≤ 122 := by omega
      have a3 : (65 : Int) ≤ (c : Int) := by omega
      have a4 : ¬ (c : Int) ≤ 90 := by omega
      go_enter Tryz.func177, Tryz.ntmps177
      go_wp2_with fail
      go_ret
      exact ⟨by first | rfl | (rw [e]; rfl), rfl⟩
  · have a1 : ¬ (97 : Int) ≤ (c : Int) := by omega
    by_cases h2 : 65 ≤ c
    · have a3 : (65 : Int) ≤ (c : Int) := by omega
      by_cases h3 : c ≤ 90
      · have e : letterB c = true := by simp [letterB, h2, h3]
        have a4 : (c : Int) ≤ 90 := by omega
        go_enter Tryz.func177, Tryz.ntmps177
        go_wp2_with fail
        go_ret
        exact ⟨by first | rfl | (rw [e]; rfl), rfl⟩
      · have e : letterB c = false := by simp [letterB, h1, h3]
        have a4 : ¬ (c : Int) ≤ 90 := by omega
        go_enter Tryz.func177, Tryz.ntmps177
        go_wp2_with fail
        go_ret
        exact ⟨by first | rfl | (rw [e]; rfl), rfl⟩
    · have e : letterB c = false := by simp [letterB, h1, h2]
      have a3 : ¬ (65 : Int) ≤ (c : Int) := by omega
      go_enter Tryz.func177, Tryz.ntmps177
      go_wp2_with fail
      go_ret
      exact ⟨by first | rfl | (rw [e]; rfl), rfl⟩
set_option maxRecDepth 100000 in
theorem digit_any (c : Nat) (w : World) : Calls Tryz.prog 178 #[.int .u8 (c : Nat)] w fun q w' => q = .returned (.bool (digitB c)) ∧ w = w' := by
  by_cases h1 : 48 ≤ c
  · have a1 : (48 : Int) ≤ (c : Int) := by omega
    by_cases h2 : c ≤ 57
    · have e : digitB c = true := by simp [digitB, h1, h2]
      have a2 : (c : Int) ≤ 57 := by omega
      go_enter Tryz.func178, Tryz.ntmps178
      go_wp2_with fail
      go_ret
      exact ⟨by first | rfl | (rw [e]; rfl), rfl⟩
    · have e : digitB c = false := by simp [digitB, h2]
      have a2 : ¬ (c : Int) ≤ 57 := by omega
      go_enter Tryz.func178, Tryz.ntmps178
      go_wp2_with fail
      go_ret
      exact ⟨by first | rfl | (rw [e]; rfl), rfl⟩
  · have a1 : ¬ (48 : Int) ≤ (c : Int) := by omega
    have e : digitB c = false := by simp [digitB, h1]
    go_enter Tryz.func178, Tryz.ntmps178
    go_wp2_with fail
    go_ret
    exact ⟨by first | rfl | (rw [e]; rfl), rfl⟩
set_option maxRecDepth 100000 in
theorem part_any (c : Nat) (w : World) : Calls Tryz.prog 176 #[.int .u8 (c : Nat)] w fun q w' => q = .returned (.bool (partB c)) ∧ w = w' := by
  have HL := hide (letter_any c w)
  have HD := hide (digit_any c w)
  obtain ⟨bl, hbl⟩ : ∃ b, b = letterB c := ⟨_, rfl⟩
  obtain ⟨bd, hbd⟩ : ∃ b, b = digitB c := ⟨_, rfl⟩
  have hp : partB c = (bl || bd || decide (c = 95)) := by rw [hbl, hbd]; rfl
  rw [← hbl] at HL
  rw [← hbd] at HD
  rw [hp]
  clear hbl hbd hp
  go_enter Tryz.func176, Tryz.ntmps176
  go_wp2_with fail
  refine HL.out.mono ?_
  rintro q w' ⟨rfl, rfl⟩
  cases bl with
  | true =>
    go_wp2_with fail
    go_ret
    exact ⟨by first | rfl | simp, rfl⟩
  | false =>
    go_wp2_with fail
    refine HD.out.mono ?_
    rintro q w' ⟨rfl, rfl⟩
    cases bd with
    | true =>
      go_wp2_with fail
      go_ret
      exact ⟨by first | rfl | simp, rfl⟩
    | false =>
      by_cases h : c = 95
      · have a1 : ((c : Int) == 95) = true := by simp; omega
        have a2 : (c : Int) = 95 := by omega
        have H := hide h
        clear h
        go_wp2_with fail
        go_ret
        exact ⟨by rw [H.out]; rfl, rfl⟩
      · have a1 : ((c : Int) == 95) = false := by simp; omega
        have a2 : ¬ (c : Int) = 95 := by omega
        go_wp2_with fail
        go_ret
        exact ⟨by rw [decide_eq_false h]; rfl, rfl⟩
end Go.Proofs.YtojincohnjophaaGreatDoor
