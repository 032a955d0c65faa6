/- The walk of the law SlotFew. (merged: SlotAwake SlotFreeW SlotFewW) -/
import Derived.Test.YteoiadfcchalfaaSlotFill
import Derived.Test.YteoiadfcchalfaaSlotRRead
/-! The walk of layer 19's awake: the chapter's examples. -/
namespace Go.Proofs.Yteoiadfcchalfaa
open Go.RowKit
set_option linter.unusedVariables false

def exA : List ByteArray := [⟨#[97, 98]⟩, ⟨#[99]⟩]
theorem exA_fits : SlotP.fits (octs exA) = true := by decide +kernel
theorem exA_lay : (SlotP.lay (octs exA)).length = 1024 ∧ (SlotP.lay (octs exA)).take 6 = [0, 2, 0, 2, 0, 1] ∧ (SlotP.lay (octs exA)).drop 1021 = [99, 97, 98] := by decide +kernel
theorem ex_read : SlotP.read (List.replicate 1024 0) = ([], 0) := by decide +kernel
theorem ex_fill : SlotP.fill [List.replicate 500 97, List.replicate 500 98, List.replicate 500 99] = [[List.replicate 500 97, List.replicate 500 98], [List.replicate 500 99]] := by decide +kernel

/-- so many octets -/
def repB (c : UInt8) (n : Nat) : ByteArray := ⟨(List.replicate n c).toArray⟩
theorem oct_repB (c : UInt8) (n : Nat) : oct (repB c n) = List.replicate n c := oct_mk _
theorem size_repB (c : UInt8) (n : Nat) : (repB c n).size = n := by rw [← oct_length, oct_repB, List.length_replicate]
theorem many_at (x y : Int) (c : UInt8) (n : Nat) (hx : x = c.toNat) (hy : y = n) (hn : n ≤ 100000) (w : World) :
    Calls Try.prog 28 #[.int .u8 x, .int .i64 y] w fun e w' => e = .returned (.string (repB c n)) ∧ Below w.heap.size w w' := by
  subst hx; subst hy
  exact many_any c n w hn
def exB : List ByteArray := [repB 97 500, repB 98 500, repB 99 500]
theorem ex_shape {ll : List (List ByteArray)} (h : ll.map octs = SlotP.fill (octs exB)) : ∃ l0 l1, ll = [l0, l1] ∧ l0.length = 2 := by
  have e : octs exB = [List.replicate 500 97, List.replicate 500 98, List.replicate 500 99] := by
    simp only [exB, octs_cons, octs_nil, oct_repB]
  rw [e, ex_fill] at h
  have hlen := congrArg List.length h
  rw [List.length_map] at hlen
  have h0 := congrArg (fun l => (l.getD 0 []).length) h
  match ll, hlen, h0 with
  | [l0, l1], _, h0 =>
    refine ⟨l0, l1, rfl, ?_⟩
    have h1 : (octs l0).length = 2 := h0
    rw [octs_length] at h1
    exact h1
theorem fill_exB (w : World) :
    Calls Try.prog 26 #[.slice (some ⟨w.heap.size, 0, none⟩) 3 3] (w.alloc (.cells #[.string (repB 97 500), .string (repB 98 500), .string (repB 99 500)] 9)) fun e w' =>
      ∃ g cap A c, e = .returned (.tuple #[.slice (some ⟨g, 0, none⟩) 2 cap, .int .i64 0]) ∧ w'.cell? ⟨g, 0, none⟩ = some (.slice A 2 c) ∧ Below (w.heap.size + 1) (w.alloc (.cells #[.string (repB 97 500), .string (repB 98 500), .string (repB 99 500)] 9)) w' := by
  have hA := World.ownsRow_lit (base := w.heap.size) (e := 9) (size := 1) w #[.string (repB 97 500), .string (repB 98 500), .string (repB 99 500)] 3 (Nat.le_refl _) (by simp [maxLen]) rfl
  refine (fill_yes _ 3 3 exB _ _ (Sl.of_own hA) (by omega) (by
    intro s hs
    simp only [exB, List.mem_cons, List.not_mem_nil, or_false] at hs
    rcases hs with rfl | rfl | rfl <;> rw [size_repB] <;> omega)).mono ?_
  rintro e w' ⟨v, vals, ll, rfl, how, hrw, hfill, hb⟩
  obtain ⟨l0, l1, rfl, hl0⟩ := ex_shape hfill
  obtain ⟨g, cap, hv, _, _⟩ := how.form (by simp)
  subst hv
  obtain ⟨A, c, h1, _⟩ := hrw.2 0 l0 rfl
  refine ⟨g, cap, A, c, rfl, ?_, by rw [World.size_alloc] at hb; exact hb⟩
  have := how.cellAt 0 (by simp)
  rw [this, h1, hl0]
theorem read_zero (w : World) : Calls Try.prog 19 #[.string (repB 0 1024)] w fun e w' => ∃ A c, e = .returned (.tuple #[.slice A 0 c, .int .i64 0]) ∧ Below w.heap.size w w' := by
  refine (read_any (repB 0 1024) w (by rw [size_repB]; omega)).mono ?_
  rintro e w' ⟨v, ts, rfl, how, h1, hb⟩
  rw [oct_repB, ex_read] at *
  have h0 : ts = [] := by cases ts with
    | nil => rfl
    | cons x l => simp [octs] at h1
  subst h0
  obtain ⟨A, c, hv⟩ := own_shape how
  subst hv
  exact ⟨A, c, rfl, hb⟩

set_option maxRecDepth 100000 in
set_option maxHeartbeats 4000000 in
theorem awake19_any (w : World) :
    Calls Try.prog 23 #[] w fun e w' => e = .returned (.bool true) ∧ Below w.heap.size w w' := by
  have hA := World.ownsRow_lit (base := w.heap.size) (e := 9) (size := 1) w #[.string ⟨#[97, 98]⟩, .string ⟨#[99]⟩] 2 (Nat.le_refl _) (by simp [maxLen]) rfl
  have hly := lay_yes _ 2 2 exA _ (Sl.of_own hA).any exA_fits
  have hb0 : Below w.heap.size w (w.alloc (.cells #[.string ⟨#[97, 98]⟩, .string ⟨#[99]⟩] 9)) := (Below.refl _ w).alloc (Nat.le_refl _) _
  have hpo : oct ⟨(SlotP.lay (octs exA)).toArray⟩ = SlotP.lay (octs exA) := oct_mk _
  generalize (⟨(SlotP.lay (octs exA)).toArray⟩ : ByteArray) = pg at hly hpo
  obtain ⟨q1, q2, q3⟩ := exA_lay
  rw [← hpo] at q1 q2 q3
  rw [oct_length] at q1
  have q1' : ((pg.size : Int) == 1024) = true := by simp [q1]
  have Q1 := hide q1
  have Q2 := hide q2
  have Q3 := hide q3
  have hge : (1021 : Int) ≤ pg.size := by omega
  have hx1 : (pg.extract 0 6).toList = [0, 2, 0, 2, 0, 1] := by rw [ByteArray.toList_eq, show (pg.extract 0 6).data.toList = oct (pg.extract 0 6) from rfl, oct_extract, List.drop_zero]; exact q2
  have hx2 : (pg.extract 1021 pg.size).toList = [99, 97, 98] := by rw [ByteArray.toList_eq, show (pg.extract 1021 pg.size).data.toList = oct (pg.extract 1021 pg.size) from rfl, oct_extract, List.take_of_length_le (by rw [List.length_drop, oct_length]; omega)]; exact q3
  clear q1 q2 q3 hpo hA
  go_enter Try.func23, Try.ntmps23
  go_wp2_with (go_at_call 22; refine hly.mono ?_; rintro e w1 ⟨rfl, hb1⟩)
  refine (many_at _ _ 97 500 rfl rfl (by omega) _).mono ?_
  rintro e w2 ⟨rfl, hb2⟩
  go_wp2_with fail
  refine (many_at _ _ 98 500 rfl rfl (by omega) _).mono ?_
  rintro e w3 ⟨rfl, hb3⟩
  go_wp2_with fail
  refine (many_at _ _ 99 500 rfl rfl (by omega) _).mono ?_
  rintro e w4 ⟨rfl, hb4⟩
  go_wp2_with fail
  refine (fill_exB _).mono ?_
  rintro e w5 ⟨g, cap, A, c, rfl, hcell, hb5⟩
  go_wp2_with fail
  refine (many_at _ _ 0 1024 rfl rfl (by omega) _).mono ?_
  rintro e w6 ⟨rfl, hb6⟩
  go_wp2_with fail
  refine (read_zero _).mono ?_
  rintro e w7 ⟨A7, c7, rfl, hb7⟩
  have hcell7 : w7.cell? ⟨g, 0, none⟩ = some (.slice A 2 c) := by
    have hlt := World.block_lt_of_cell? w5 _ hcell
    exact (hb7.cell (p := ⟨g, 0, none⟩) (by have := hb6.size; simp at *; omega)).trans ((hb6.cell (p := ⟨g, 0, none⟩) hlt).trans hcell)
  go_wp2_with fail
  go_ret
  refine ⟨rfl, ?_⟩
  have c1 := hb0.trans (hb1.mono hb0.size)
  have c2 := c1.trans (hb2.mono c1.size)
  have c3 := c2.trans (hb3.mono c2.size)
  have c4 := c3.trans (hb4.mono c3.size)
  have c5 := (c4.alloc c4.size (.cells #[.string (repB 97 500), .string (repB 98 500), .string (repB 99 500)] 9)).trans (hb5.mono (by have := c4.size; omega))
  have c6 := c5.trans (hb6.mono c5.size)
  exact c6.trans (hb7.mono c6.size)

end Go.Proofs.Yteoiadfcchalfaa

/-! The walk of the law SlotFree. -/
namespace Go.Proofs.Yteoiadfcchalfaa
open Go.RowKit
set_option linter.unusedVariables false

/-- 'append(l, m...)', l a []string of one's own -/
theorem wp_app_strs {w : World} {ops : Array Oper} {rest : List Oper} {o : Oper} {a : Act} {Q : Exit → Act → World → Prop} (hgd : o.guard = none) (s x : Operand)
    (ho : o.op = .call { callee := .builtin .append, args := #[s, x], argTypes := #[22, 22] })
    (base : Nat) (v : Value) (n : Nat) (ss : List ByteArray) (hown : w.ownsRow base 9 1 v n (strs ss)) (hs : a.eval s = v)
    (V : Nat → Prop) (A : Option Addr) (m c : Nat) (ts : List ByteArray) (hr : Sl w V 1 A m (strs ts)) (hx : a.eval x = .slice A m c) (hn : n + m ≤ 1000000000000) (hbase : base ≤ w.heap.size)
    (h : ∀ v' w', Apd w w' base 9 1 v v' (n + m) (strs (ss ++ ts)) → wpList Try.prog ops Q rest (a.put o.dst v') w') : wpList Try.prog ops Q (o :: rest) a w := by
  obtain ⟨i0, hi, hz0, hz1, hz2⟩ := info_parts Try.info9
  refine wp_app (P := Try.prog) hgd s x 22 ho base 9 i0 (.string .empty) 1 16 Try.underlying22 hi hz0 hz1 hz2 rfl (by decide) v n (strs ss) hown hs V A m c (strs ts) hx hr (strs_one ts)
    (by simp only [maxLen]; omega) (by omega) hbase fun v' w' hA => h v' w' ?_
  rw [strs_append]
  exact hA

theorem wp_unguard {P : Program} {w : World} {ops : Array Oper} {rest : List Oper} {o : Oper} {a : Act} {Q : Exit → Act → World → Prop} (h0 : Region.wanted o (yielded ops a.tmps) = true)
    (h : wpList P ops Q ({ o with guard := none } :: rest) a w) : wpList P ops Q (o :: rest) a w := by
  unfold wpList at h ⊢
  rw [if_pos (by simp [Region.wanted])] at h
  rw [if_pos h0]
  exact h

theorem own_empty (w : World) : (w.alloc (.cells #[] 9)).ownsRow w.heap.size 9 1 (.slice (some ⟨w.heap.size, 0, none⟩) 0 0) 0 (strs []) :=
  World.ownsRow_lit (base := w.heap.size) (e := 9) (size := 1) w #[] 0 (Nat.le_refl _) (by simp [maxLen]) rfl

theorem awake_end {w0 w : World} (hb : Below w0.heap.size w0 w) : Calls Try.prog 23 #[] w fun e w' => e = .returned (.bool true) ∧ Below w0.heap.size w0 w' :=
  (awake19_any w).mono fun _ _ ⟨h1, h2⟩ => ⟨h1, hb.trans (h2.mono hb.size)⟩

theorem lay_dec (A : Option Addr) (n c : Nat) (ss : List ByteArray) (w : World) (h : Sl w (fun _ => True) 1 A n (strs ss)) (hn : n ≤ 9223372036854775807) :
    ∃ (pg : ByteArray) (x : Int), Calls Try.prog 22 #[.slice A n c] w fun e w'' => e = .returned (.tuple #[.string pg, .int .i64 x]) ∧ Below w.heap.size w w'' := by
  cases hf : SlotP.fits (octs ss) with
  | true => exact ⟨_, _, lay_yes A n c ss w h hf⟩
  | false => exact ⟨_, _, (lay_no A n c ss _ w h hn hf).mono fun _ _ ⟨h1, h2⟩ => ⟨h1, by subst h2; exact Below.refl _ _⟩⟩

set_option maxRecDepth 100000 in
set_option maxHeartbeats 8000000 in
theorem slotFree_walk (A B : Option Addr) (n m c d k : Nat) (ss ts : List ByteArray) (w : World) (h : Sl w (fun _ => True) 1 A n (strs ss)) (g : Sl w (fun _ => True) 1 B m (strs ts)) (hn : n ≤ 9223372036854775807) (hm : m ≤ 9223372036854775807) (hk : k ≤ 65535) :
    Calls Try.prog 6 #[.slice A n c, .slice B m d, .int .u16 k] w fun e w' => e = .returned (.bool true) ∧ Below w.heap.size w w' := by
  go_enter Try.func6, Try.ntmps6
  go_wp2_with fail
  refine (few_any A n c ss _ _ h hn).mono ?_
  rintro e w1 ⟨v1, rfl, ho1, hb1⟩
  obtain ⟨A1, c1, hv1⟩ := own_shape ho1
  subst hv1
  go_wp2_with fail
  refine (few_any B m d ts _ _ (g.below hb1) hm).mono ?_
  rintro e w2 ⟨v2, rfl, ho2, hb2⟩
  obtain ⟨A2, c2, hv2⟩ := own_shape ho2
  subst hv2
  have hL := fewP_length ss
  have hM := fewP_length ts
  have hs1 := (Sl.of_own ho1).any.below hb2
  have hs2 := (Sl.of_own ho2).any
  have hbb : Below w.heap.size w w2 := hb1.trans (hb2.mono hb1.size)
  clear hb1 hb2 ho1 ho2 h g
  generalize fewP ss = L at *
  generalize fewP ts = M at *
  obtain ⟨nl, hnl⟩ : ∃ nl, nl = L.length := ⟨_, rfl⟩
  obtain ⟨nm, hnm⟩ : ∃ nm, nm = M.length := ⟨_, rfl⟩
  rw [← hnl] at hL hs1 ⊢
  rw [← hnm] at hM hs2 ⊢
  have HNL := hide hnl
  clear hnl hnm
  cases hf1 : SlotP.fits (octs L) with
  | false =>
    have hfr := free_no hf1
    have hfree := free_any A1 nl c1 L _ _ hs1 (by omega)
    rw [hfr] at hfree
    have hln := lay_no A1 nl c1 L _ _ hs1 (by omega) hf1
    obtain ⟨pm, x, hlm⟩ := lay_dec A2 nm c2 M _ hs2 (by omega)
    clear hfr hf1
    go_wp2_with fail
    refine hfree.mono ?_
    rintro e w3 ⟨rfl, rfl⟩
    go_wp2_with fail
    refine hln.mono ?_
    rintro e w4 ⟨rfl, rfl⟩
    go_wp2_with fail
    refine hlm.mono ?_
    rintro e w5 ⟨rfl, hb5⟩
    go_wp2_with fail
    refine (awake_end (hbb.trans (hb5.mono hbb.size))).mono ?_
    rintro e w6 ⟨rfl, hb6⟩
    go_wp2_with fail
    go_ret
    exact ⟨rfl, hb6⟩
  | true =>
    have hfree := free_any A1 nl c1 L _ _ hs1 (by omega)
    have hly := lay_yes A1 nl c1 L _ hs1 hf1
    have hpo : oct ⟨(SlotP.lay (octs L)).toArray⟩ = SlotP.lay (octs L) := oct_mk _
    generalize (⟨(SlotP.lay (octs L)).toArray⟩ : ByteArray) = pg at hly hpo
    have hfb := SlotP.free_bounds _ hf1
    have hff := fun cc => SlotP.fits_free (octs L) cc hf1
    generalize hfl : SlotP.free (octs L) = fl at *
    obtain ⟨hfb0, hfb1⟩ := hfb
    have HFF := hide hff
    have HF1 := hide hf1
    have HPO := hide hpo
    clear hff hfl hf1 hpo
    go_wp2_with fail
    refine hfree.mono ?_
    rintro e w3 ⟨rfl, rfl⟩
    go_wp2_with fail
    refine hly.mono ?_
    rintro e w4 ⟨rfl, hb4⟩
    have hs1' := hs1.below hb4
    have hs2' := hs2.below hb4
    have hbb4 := hbb.trans (hb4.mono hbb.size)
    clear hs1 hs2 hb4 hbb hfree hly
    cases hf2 : SlotP.fits (octs M) with
    | false =>
      go_wp2_with fail
      refine (lay_no A2 nm c2 M _ w4 hs2' (by omega) hf2).mono ?_
      rintro e w5 ⟨rfl, rfl⟩
      have hb5 := Below.refl w4.heap.size w4
      clear hf2
      obtain ⟨w5, hw5⟩ : ∃ w5, w5 = w4 := ⟨_, rfl⟩
      rw [← hw5] at hb5 hbb4 hs1' hs2' ⊢
      clear hw5
      have hs1 := hs1'.below hb5
      have hbb := hbb4.trans (hb5.mono hbb4.size)
      have hs1a := hs1.below ((Below.refl _ _).alloc (Nat.le_refl _) (.cells #[] 9))
      have hbba := hbb.alloc hbb.size (.cells #[] 9)
      clear hs1' hs2' hb5 hbb4 hs1
      go_wp2_with (at_builtin; refine wp_app_strs rfl _ _ rfl w5.heap.size _ _ [] (own_empty w5) rfl _ _ _ _ L hs1a rfl (by omega) (by simp) ?_; intro v6 w6 hA6; rw [Nat.zero_add, List.nil_append] at hA6; obtain ⟨A6, c6, hv6⟩ := own_shape hA6.own; subst hv6)
      have hb6 := hA6.below (own_empty w5) hbba hbb.size hbba.size
      have hs6 := hA6.grown.size
      refine (many_at _ _ 120 (k % 1001) rfl (by omega) (by omega) _).mono ?_
      rintro e w7 ⟨rfl, hb7⟩
      have ho7 := own_below hA6.own hb7
      have hb7' := hb6.trans (hb7.mono hb6.size)
      have hs7 := hb7.size
      clear hA6 hb6 hb7
      go_wp2_with (at_builtin; refine wp_app_str rfl _ _ rfl w5.heap.size _ _ _ ho7 rfl (repB 120 (k % 1001)) rfl (by omega) (by have := World.size_alloc w5 (.cells #[] 9); omega) ?_; intro v8 w8 hA8; obtain ⟨A8, c8, hv8⟩ := own_shape hA8.own; subst hv8)
      all_goals have hb8 := hA8.below ho7 hb7' hbb.size hb7'.size
      · refine (awake_end hb8).mono ?_
        rintro e w9 ⟨rfl, hb9⟩
        go_wp2_with fail
        go_ret
        exact ⟨rfl, hb9⟩
      · have hne : ((k : Int) % 1001 == 0) = false := by assumption
        have hfit := fits_any A8 _ c8 _ _ w8 (Sl.of_own hA8.own) (by omega)
        have hval : SlotP.fits (octs (L ++ [repB 120 (k % 1001)])) = decide ((k : Int) % 1001 ≤ fl) := by
          rw [octs_append, octs_cons, octs_nil, HFF.out (oct (repB 120 (k % 1001))) (by rw [oct_length, size_repB]; simp at hne; omega), oct_length, size_repB]
          congr 1
        rw [hval] at hfit
        clear hval hne
        refine hfit.mono ?_
        rintro e w9 ⟨rfl, rfl⟩
        cases hd : decide ((k : Int) % 1001 ≤ fl) with
        | true =>
          go_wp2_with fail
          refine (awake_end hb8).mono ?_
          rintro e w10 ⟨rfl, hb10⟩
          go_wp2_with fail
          go_ret
          exact ⟨rfl, hb10⟩
        | false =>
          go_wp2_with fail
          refine (awake_end hb8).mono ?_
          rintro e w10 ⟨rfl, hb10⟩
          go_wp2_with fail
          go_ret
          exact ⟨rfl, hb10⟩
    | true =>
      have hym := lay_yes A2 nm c2 M w4 hs2' hf2
      have hpm : oct ⟨(SlotP.lay (octs M)).toArray⟩ = SlotP.lay (octs M) := oct_mk _
      generalize (⟨(SlotP.lay (octs M)).toArray⟩ : ByteArray) = pm at hym hpm
      have hcmp : (pg.toList == pm.toList) = decide (octs L = octs M) := by
        rw [toList_cmp, HPO.out, hpm]
        rw [Bool.eq_iff_iff]
        simp only [decide_eq_true_eq]
        exact SlotP.lay_inj _ _ HF1.out hf2
      clear hf2 hpm
      go_wp2_with fail
      refine hym.mono ?_
      rintro e w5 ⟨rfl, hb5⟩
      have hsame := same_any A1 A2 nl nm c1 c2 L M _ _ w5 (hs1'.below hb5) (hs2'.below hb5) (by omega)
      generalize hbq : decide (octs L = octs M) = bq at hcmp hsame
      clear hbq hym
      cases bq with
      | true =>
        go_wp2_with fail
        refine hsame.mono ?_
        rintro e wx ⟨rfl, q, rfl⟩
        obtain ⟨wq, hwq⟩ : ∃ wq, wq = w5.drewN q := ⟨_, rfl⟩
        have hb5 : Below w4.heap.size w4 wq := by rw [hwq]; exact below_drewN hb5 q
        rw [← hwq]
        clear hwq hsame hcmp
        obtain ⟨w5, rfl⟩ : ∃ w5, w5 = wq := ⟨_, rfl⟩
        have hs1 := hs1'.below hb5
        have hbb := hbb4.trans (hb5.mono hbb4.size)
        have hs1a := hs1.below ((Below.refl _ _).alloc (Nat.le_refl _) (.cells #[] 9))
        have hbba := hbb.alloc hbb.size (.cells #[] 9)
        clear hs1' hs2' hb5 hbb4 hs1
        go_wp2_with (at_builtin; refine wp_app_strs rfl _ _ rfl w5.heap.size _ _ [] (own_empty w5) rfl _ _ _ _ L hs1a rfl (by omega) (by simp) ?_; intro v6 w6 hA6; rw [Nat.zero_add, List.nil_append] at hA6; obtain ⟨A6, c6, hv6⟩ := own_shape hA6.own; subst hv6)
        have hb6 := hA6.below (own_empty w5) hbba hbb.size hbba.size
        have hs6 := hA6.grown.size
        refine (many_at _ _ 120 (k % 1001) rfl (by omega) (by omega) _).mono ?_
        rintro e w7 ⟨rfl, hb7⟩
        have ho7 := own_below hA6.own hb7
        have hb7' := hb6.trans (hb7.mono hb6.size)
        have hs7 := hb7.size
        clear hA6 hb6 hb7
        go_wp2_with (at_builtin; refine wp_app_str rfl _ _ rfl w5.heap.size _ _ _ ho7 rfl (repB 120 (k % 1001)) rfl (by omega) (by have := World.size_alloc w5 (.cells #[] 9); omega) ?_; intro v8 w8 hA8; obtain ⟨A8, c8, hv8⟩ := own_shape hA8.own; subst hv8)
        all_goals have hb8 := hA8.below ho7 hb7' hbb.size hb7'.size
        · refine (awake_end hb8).mono ?_
          rintro e w9 ⟨rfl, hb9⟩
          go_wp2_with fail
          go_ret
          exact ⟨rfl, hb9⟩
        · have hne : ((k : Int) % 1001 == 0) = false := by assumption
          have hfit := fits_any A8 _ c8 _ _ w8 (Sl.of_own hA8.own) (by omega)
          have hval : SlotP.fits (octs (L ++ [repB 120 (k % 1001)])) = decide ((k : Int) % 1001 ≤ fl) := by
            rw [octs_append, octs_cons, octs_nil, HFF.out (oct (repB 120 (k % 1001))) (by rw [oct_length, size_repB]; simp at hne; omega), oct_length, size_repB]
            congr 1
          rw [hval] at hfit
          clear hval hne
          refine hfit.mono ?_
          rintro e w9 ⟨rfl, rfl⟩
          cases hd : decide ((k : Int) % 1001 ≤ fl) with
          | true =>
            go_wp2_with fail
            refine (awake_end hb8).mono ?_
            rintro e w10 ⟨rfl, hb10⟩
            go_wp2_with fail
            go_ret
            exact ⟨rfl, hb10⟩
          | false =>
            go_wp2_with fail
            refine (awake_end hb8).mono ?_
            rintro e w10 ⟨rfl, hb10⟩
            go_wp2_with fail
            go_ret
            exact ⟨rfl, hb10⟩
      | false =>
        go_wp2_with fail
        refine hsame.mono ?_
        rintro e wx ⟨rfl, q, rfl⟩
        obtain ⟨wq, hwq⟩ : ∃ wq, wq = w5.drewN q := ⟨_, rfl⟩
        have hb5 : Below w4.heap.size w4 wq := by rw [hwq]; exact below_drewN hb5 q
        rw [← hwq]
        clear hwq hsame hcmp
        obtain ⟨w5, rfl⟩ : ∃ w5, w5 = wq := ⟨_, rfl⟩
        have hs1 := hs1'.below hb5
        have hbb := hbb4.trans (hb5.mono hbb4.size)
        have hs1a := hs1.below ((Below.refl _ _).alloc (Nat.le_refl _) (.cells #[] 9))
        have hbba := hbb.alloc hbb.size (.cells #[] 9)
        clear hs1' hs2' hb5 hbb4 hs1
        go_wp2_with (at_builtin; refine wp_app_strs rfl _ _ rfl w5.heap.size _ _ [] (own_empty w5) rfl _ _ _ _ L hs1a rfl (by omega) (by simp) ?_; intro v6 w6 hA6; rw [Nat.zero_add, List.nil_append] at hA6; obtain ⟨A6, c6, hv6⟩ := own_shape hA6.own; subst hv6)
        have hb6 := hA6.below (own_empty w5) hbba hbb.size hbba.size
        have hs6 := hA6.grown.size
        refine (many_at _ _ 120 (k % 1001) rfl (by omega) (by omega) _).mono ?_
        rintro e w7 ⟨rfl, hb7⟩
        have ho7 := own_below hA6.own hb7
        have hb7' := hb6.trans (hb7.mono hb6.size)
        have hs7 := hb7.size
        clear hA6 hb6 hb7
        go_wp2_with (at_builtin; refine wp_app_str rfl _ _ rfl w5.heap.size _ _ _ ho7 rfl (repB 120 (k % 1001)) rfl (by omega) (by have := World.size_alloc w5 (.cells #[] 9); omega) ?_; intro v8 w8 hA8; obtain ⟨A8, c8, hv8⟩ := own_shape hA8.own; subst hv8)
        all_goals have hb8 := hA8.below ho7 hb7' hbb.size hb7'.size
        · refine (awake_end hb8).mono ?_
          rintro e w9 ⟨rfl, hb9⟩
          go_wp2_with fail
          go_ret
          exact ⟨rfl, hb9⟩
        · have hne : ((k : Int) % 1001 == 0) = false := by assumption
          have hfit := fits_any A8 _ c8 _ _ w8 (Sl.of_own hA8.own) (by omega)
          have hval : SlotP.fits (octs (L ++ [repB 120 (k % 1001)])) = decide ((k : Int) % 1001 ≤ fl) := by
            rw [octs_append, octs_cons, octs_nil, HFF.out (oct (repB 120 (k % 1001))) (by rw [oct_length, size_repB]; simp at hne; omega), oct_length, size_repB]
            congr 1
          rw [hval] at hfit
          clear hval hne
          refine hfit.mono ?_
          rintro e w9 ⟨rfl, rfl⟩
          cases hd : decide ((k : Int) % 1001 ≤ fl) with
          | true =>
            go_wp2_with fail
            refine (awake_end hb8).mono ?_
            rintro e w10 ⟨rfl, hb10⟩
            go_wp2_with fail
            go_ret
            exact ⟨rfl, hb10⟩
          | false =>
            go_wp2_with fail
            refine (awake_end hb8).mono ?_
            rintro e w10 ⟨rfl, hb10⟩
            go_wp2_with fail
            go_ret
            exact ⟨rfl, hb10⟩

end Go.Proofs.Yteoiadfcchalfaa

/-! The walk of the law SlotFew. -/
namespace Go.Proofs.Yteoiadfcchalfaa
open Go.RowKit
set_option linter.unusedVariables false

set_option maxRecDepth 100000 in
theorem run_app_strs {w : World} (ty : TypeId) (base : Nat) (v : Value) (n : Nat) (ss : List ByteArray) (hown : w.ownsRow base 9 1 v n (strs ss))
    (V : Nat → Prop) (A : Option Addr) (m c : Nat) (ts : List ByteArray) (hr : Sl w V 1 A m (strs ts)) (hn : n + m ≤ 1000000000000) (hbase : base ≤ w.heap.size) :
    ∃ v' w', (Builtin.append_ #[22, 22] ty #[v, .slice A m c]).run Try.prog w = .ok v' w' ∧ Apd w w' base 9 1 v v' (n + m) (strs (ss ++ ts)) := by
  obtain ⟨i0, hi, hz0, hz1, hz2⟩ := info_parts Try.info9
  have ht := Try.underlying22
  rw [strs_append]
  rcases A with _ | ad
  · have hm : m = 0 := by
      rcases Nat.eq_zero_or_pos m with h0 | h0
      · exact h0
      · obtain ⟨a, e, _⟩ := hr.2 h0; cases e
    subst hm
    have hn0 : ts = [] := List.eq_nil_of_length_eq_zero hr.len
    subst hn0
    refine ⟨v, w, ?_, by simpa [strs] using hown, World.grownBy.refl w _, .inl rfl⟩
    rcases hown.2 with ⟨rfl, rfl⟩ | ⟨g, cap, cur, rfl, _, _, hnc, _⟩
    · simp [Builtin.append_, run_underlying ht, sizeOf, typeInfo, hi, Builtin.lenOf, Builtin.firstCells]
    · simp [Builtin.append_, run_underlying ht, sizeOf, typeInfo, hi, Builtin.lenOf, Builtin.firstCells, hnc, storeCells]
  · have hcells : ∀ j u, (strs ts)[j]? = some u → w.cell? (ad.add j) = some u := by
      intro j u hu
      have hp : 0 < m := by
        rcases Nat.eq_zero_or_pos m with h0 | h0
        · have h2 := (List.getElem?_eq_some_iff.1 hu).1
          rw [hr.1, h0] at h2; omega
        · exact h0
      obtain ⟨a', e', _, _, hc⟩ := hr.2 hp
      injection e' with e'; subst e'
      exact hc j u hu
    obtain ⟨v', w', hrun, q1, q2, _, q4⟩ := run_append_own_at (P := Try.prog) w base 22 ty 9 i0 (.string .empty) 1 16 ht hi hz0 hz1 hz2 rfl (by decide) v n (strs ss) hown ad m c (strs ts) hr.1 hcells (strs_one ts)
      (by simp only [maxLen]; omega) (by omega) hbase
    exact ⟨v', w', hrun, q1, q2, q4.imp id fun q => ⟨_, q, Nat.le_refl _⟩⟩

/-- 'append(s, x...)' of two lists of strings, as a step of a region that draws -/
theorem step_app_strs {w : World} {ops : Array Oper} {K : Act → World → Prop} {E : Prop} {o : Oper} {a : Act} {Q : Exit → Act → World → Prop} (hgd : o.guard = none) (s x : Operand)
    (ho : o.op = .call { callee := .builtin .append, args := #[s, x], argTypes := #[22, 22] })
    (base : Nat) (v : Value) (n : Nat) (ss : List ByteArray) (hown : w.ownsRow base 9 1 v n (strs ss)) (hs : a.eval s = v)
    (V : Nat → Prop) (A : Option Addr) (m c : Nat) (ts : List ByteArray) (hr : Sl w V 1 A m (strs ts)) (hx : a.eval x = .slice A m c) (hn : n + m ≤ 1000000000000) (hbase : base ≤ w.heap.size)
    (h : ∀ v' w', Apd w w' base 9 1 v v' (n + m) (strs (ss ++ ts)) → K (a.put o.dst v') w') : if Region.wanted o (yielded ops a.tmps) = true then Oper.wp Try.prog o a w K Q else E := by
  have hw : Region.wanted o (yielded ops a.tmps) = true := by simp [Region.wanted, hgd]
  rw [if_pos hw]
  obtain ⟨v', w', hr, hA⟩ := run_app_strs o.type base v n ss hown V A m c ts hr hn hbase
  unfold Oper.wp execOp
  simp only [ho, resolve, invoke, builtin, Sem.run_bind, Sem.run_pure, Result.andThen_ok, List.map_toArray, List.map_cons, List.map_nil, hs, hx, hr]
  exact h v' w' hA

/-- a guard: the step's result goes into slot n -/
theorem at_dst (n : Nat) {P : Program} {op : Op} {t : TypeId} {pos : String} {after : Array Edge} {gd : Option (Nat × Bool)} {y : Nat → Option Bool} {a : Act} {w : World} {K : Act → World → Prop} {Q : Exit → Act → World → Prop} {E : Prop}
    (h : if Region.wanted ⟨some n, op, t, pos, after, gd⟩ y = true then Oper.wp P ⟨some n, op, t, pos, after, gd⟩ a w K Q else E) :
    if Region.wanted ⟨some n, op, t, pos, after, gd⟩ y = true then Oper.wp P ⟨some n, op, t, pos, after, gd⟩ a w K Q else E := h
theorem strs_take (L : List ByteArray) (k : Nat) : strs (L.take k) = (strs L).take k := by simp [strs]
theorem strs_drop (L : List ByteArray) (k : Nat) : strs (L.drop k) = (strs L).drop k := by simp [strs]
theorem strs_len (L : List ByteArray) : (strs L).length = L.length := by simp [strs]

/-- what the loop has counted after k cells -/
def few2 (L : List ByteArray) (k : Nat) : Nat := 2 * SlotP.cost (octs (L.take k))
theorem few2_succ {L : List ByteArray} {k : Nat} {s : ByteArray} (h : L[k]? = some s) : few2 L (k + 1) = few2 L k + (2 * s.size + 4) := by
  have h1 : k < L.length := (List.getElem?_eq_some_iff.1 h).1
  have h2 : L[k] = s := (List.getElem?_eq_some_iff.1 h).2
  rw [few2, few2, List.take_succ_eq_append_getElem h1, octs_append, SlotP.cost_append, h2, octs_cons, octs_nil]
  simp [SlotP.cost, SlotP.sumLen]
  omega
theorem cost_le (L : List ByteArray) (h : ∀ s ∈ L, s.size ≤ 1001) : SlotP.cost (octs L) ≤ 1003 * L.length := by
  induction L with
  | nil => simp [octs, SlotP.cost, SlotP.sumLen]
  | cons s L ih =>
    have h1 := h s (by simp)
    have h2 := ih fun t ht => h t (by simp [ht])
    have := SlotP.cost_append [oct s] (octs L)
    have h3 : SlotP.cost [oct s] = 2 + s.size := by simp [SlotP.cost, SlotP.sumLen]
    rw [octs_cons, show oct s :: octs L = [oct s] ++ octs L from rfl, this, h3, List.length_cons]
    omega
theorem few2_take_le (L : List ByteArray) (k : Nat) (h : ∀ s ∈ L, s.size ≤ 1001) : few2 L k ≤ 2006 * L.length := by
  have := cost_le (L.take k) fun s hs => h s (List.mem_of_mem_take hs)
  have h2 := List.length_take_le k L
  have h3 : (L.take k).length ≤ L.length := by rw [List.length_take]; omega
  simp only [few2]
  omega

set_option maxRecDepth 100000 in
set_option maxHeartbeats 8000000 in
theorem slotFew_walk (A : Option Addr) (n c : Nat) (ss : List ByteArray) (z : Int) (w : World) (h : Sl w (fun _ => True) 1 A n (strs ss)) (hn : n ≤ 9223372036854775807) (hz0 : 0 ≤ z) (hz1 : z ≤ 255) :
    Calls Try.prog 4 #[.slice A n c, .int .u8 z] w fun e w' => e = .returned (.bool true) ∧ Below w.heap.size w w' := by
  go_enter Try.func4, Try.ntmps4
  go_wp2_with fail
  refine (few_any A n c ss _ _ h hn).mono ?_
  rintro e w1 ⟨v1, rfl, ho1, hb1⟩
  obtain ⟨A1, c1, hv1⟩ := own_shape ho1
  subst hv1
  have hL := fewP_length ss
  have hLs := fewP_size ss
  have hs1 := (Sl.of_own ho1).any
  have hcap1 := ho1.form
  clear h
  generalize fewP ss = L at *
  obtain ⟨nl, hnl⟩ : ∃ nl, nl = L.length := ⟨_, rfl⟩
  rw [← hnl] at hL hs1 ho1 hcap1 ⊢
  have HNL := hide hnl
  have HLS := hide hLs
  have HCAP := hide hcap1
  clear hnl hLs hcap1
  have hfitA := fits_any A1 nl c1 L _ w1 hs1 (by omega)
  cases hf1 : SlotP.fits (octs L) with
  | false =>
    rw [hf1] at hfitA
    have hln := lay_no A1 nl c1 L _ _ hs1 (by omega) hf1
    clear hf1
    go_wp2_with fail
    refine hfitA.mono ?_
    rintro e w4 ⟨rfl, rfl⟩
    go_wp2_with fail
    refine hln.mono ?_
    rintro e w4 ⟨rfl, rfl⟩
    go_wp2_with fail
    refine (awake_end hb1).mono ?_
    rintro e w6 ⟨rfl, hb6⟩
    go_wp2_with fail
    go_ret
    exact ⟨rfl, hb6⟩
  | true =>
    rw [hf1] at hfitA
    have hle : ∀ s ∈ L ++ L, s.size ≤ 1000 := by
      intro s hs
      have hm : oct s ∈ octs L := mem_octs.2 ⟨s, by rcases List.mem_append.1 hs with h | h <;> exact h, rfl⟩
      have := (SlotP.fits_iff _).1 hf1
      have := this.2.1 _ hm
      rwa [oct_length] at this
    have HLE := hide hle
    have HF1 := hide hf1
    clear hf1 hle
    go_wp2_with fail
    refine hfitA.mono ?_
    rintro e w4 ⟨rfl, rfl⟩
    clear hfitA
    have hs1a := hs1.below ((Below.refl _ w1).alloc (Nat.le_refl _) (.cells #[] 9))
    have hbba := hb1.alloc hb1.size (.cells #[] 9)
    have hbBa := (Below.refl w1.heap.size w1).alloc (Nat.le_refl _) (.cells #[] 9)
    go_wp2_with (at_builtin; refine wp_app_strs rfl _ _ rfl w1.heap.size _ _ [] (own_empty w1) rfl _ _ _ _ L hs1a rfl (by omega) (by simp) ?_; intro v6 w6 hA6; rw [Nat.zero_add, List.nil_append] at hA6; obtain ⟨A6, c6, hv6⟩ := own_shape hA6.own; subst hv6; have hb6 := hA6.below (own_empty w1) hbba hb1.size hbba.size; have hbB6 := hA6.below (own_empty w1) hbBa (Nat.le_refl _) hbBa.size; have hs6 := hs1.below hbB6; have ho6 := hA6.own; have hz6 := hbB6.size; clear hA6; go_wp2_with (at_builtin; refine wp_app_strs rfl _ _ rfl w1.heap.size _ _ _ ho6 rfl _ _ _ _ L hs6 rfl (by omega) (by omega) ?_; intro v7 w7 hA7; obtain ⟨A7, c7, hv7⟩ := own_shape hA7.own; subst hv7))
    have hb7 := hA7.below ho6 hb6 hb1.size hb6.size
    have hbB7 := hA7.below ho6 hbB6 (Nat.le_refl _) hbB6.size
    have hs7 := (Sl.of_own hA7.own).any
    clear hA7 ho6
    refine (fill_yes A7 (nl + nl) c7 (L ++ L) _ _ hs7 (by omega) HLE.out).mono ?_
    rintro e w8 ⟨v8, vals, ll, rfl, ho8, _, hll, hb8⟩
    obtain ⟨A8, c8, hv8⟩ := own_shape ho8
    subst hv8
    have hb8' := hb7.trans (hb8.mono hb7.size)
    have hbB8 := hbB7.trans (hb8.mono hbB7.size)
    have hs8 := hs1.below hbB8
    have hfo := SlotP.fill_ok (octs (L ++ L)) (fun c hc => by obtain ⟨s, hs, rfl⟩ := mem_octs.1 hc; rw [oct_length]; exact HLE.out s hs)
    rw [← hll] at hfo
    obtain ⟨hfo1, hfo2⟩ := hfo
    have hcost := SlotP.cost_flatten_le _ fun l hl => (hfo1 l hl).1
    have hflat := SlotP.length_le_flatten _ fun l hl => (hfo1 l hl).2
    rw [hfo2] at hcost hflat
    rw [octs_append, SlotP.cost_append, List.length_map] at hcost
    rw [octs_length, List.length_append, ← HNL.out, List.length_map] at hflat
    have hq : ∃ q, q = SlotP.cost (octs L) := ⟨_, rfl⟩
    obtain ⟨q, hq⟩ := hq
    rw [← hq] at hcost
    have HQ := hide hq
    clear hll hfo1 hfo2 hq ho8
    generalize ll.length = m8 at *
    go_wp2_with fail
    go_loopw [9, 10] (fun v i wr => ∃ k : Nat, k ≤ nl ∧ i = .int .i64 k ∧ v = .int .i64 (few2 L k : Nat) ∧ wr = w8) (fun _ i _ => nl - (intOf i).toNat)
    case atStart => exact ⟨0, Nat.zero_le _, rfl, by simp [few2, SlotP.cost, SlotP.sumLen, octs], rfl⟩
    case round =>
      obtain ⟨k, hk, rfl, rfl, rfl⟩ := hrel
      by_cases hend : k = nl
      · subst hend
        have hfin : few2 L k = 2 * q := by rw [few2, HNL.out, List.take_length, HQ.out]
        rw [hfin]
        by_cases h0 : k = 0
        · subst h0
          go_wp2_with fail
          refine (awake_end hb8').mono ?_
          rintro e w9 ⟨rfl, hb9⟩
          go_wp2_with fail
          go_ret
          exact ⟨rfl, hb9⟩
        · have hmod : z % k < k ∧ 0 ≤ z % k := ⟨Int.emod_lt_of_pos _ (by omega), Int.emod_nonneg _ (by omega)⟩
          go_wp2_with fail
          obtain ⟨d, hd, hdk⟩ : ∃ d : Nat, z % (k : Int) = (d : Int) ∧ d < k := ⟨(z % (k : Int)).toNat, by omega, by omega⟩
          rw [hd]
          clear hd hmod
          have HCOST := hide hcost
          have HFLAT := hide hflat
          clear hcost hflat
          have hcd := own_cap ho1
          have hsT : Sl (wr.alloc (.cells #[] 9)) (fun _ => True) 1 A1 d (strs (L.take d)) := by
            rw [strs_take]
            exact (hs8.below ((Below.refl _ wr).alloc (Nat.le_refl _) (.cells #[] 9))).take (Nat.le_of_lt hdk)
          have hbbx := hb8'.alloc hb8'.size (.cells #[] 9)
          have hbBx := (Below.refl wr.heap.size wr).alloc (Nat.le_refl _) (.cells #[] 9)
          have hsub : SlotP.fits (octs (L.take d ++ L.drop (d + 1))) = true := by
            have h1 := HF1.out
            have hd1 : d < L.length := by have := HNL.out; omega
            rw [← List.take_append_drop d L, List.drop_eq_getElem_cons hd1, octs_append, octs_cons] at h1
            rw [octs_append]
            exact SlotP.fits_sub _ [oct L[d]] _ (by simpa using h1)
          have HSUB := hide hsub
          clear hsub
          have hlenT : (L.take d).length = d := by have := HNL.out; rw [List.length_take]; omega
          have hlenD : (L.drop (d + 1)).length = k - (d + 1) := by have := HNL.out; rw [List.length_drop]; omega
          have hdc1 : d ≤ c1 := by omega
          have hdci : (d : Int) ≤ (c1 : Int) := by omega
          have hdk1 : d + 1 ≤ k := by omega
          have hdki : (d : Int) + 1 ≤ (k : Int) := by omega
          have hd0 : 0 + d ≤ 1000000000000 := by omega
          have hdD : d + (k - (d + 1)) ≤ 1000000000000 := by omega
          have hdF : d + (k - (d + 1)) ≤ 9223372036854775807 := by omega
          clear hfin
          have hsDx : ∀ w9, Below wr.heap.size wr w9 → Sl w9 (fun _ => True) 1 (if c1 = d + 1 then A1 else Option.map (fun x => x.add (d + 1)) A1) (k - (d + 1)) (strs (L.drop (d + 1))) := by
            intro w9 h9
            have h := (hs8.below h9).cut (k := d + 1) (m := k) (cap := c1) (by omega) (Nat.le_refl _) hcd
            simp only [Nat.mul_one] at h
            rw [strs_drop]
            have e : (((strs L).drop (d + 1)).take (k - (d + 1))) = (strs L).drop (d + 1) := by
              rw [List.take_of_length_le]
              rw [List.length_drop, strs_len, ← HNL.out]; exact Nat.le_refl _
            rw [e] at h
            exact h
          have hdt : ((d : Int) + 1).toNat = d + 1 := by omega
          have hdp : 0 ≤ (d : Int) + 1 := by omega
          have hdw : IntKind.i64.wrap ((d : Int) + 1) = (d : Int) + 1 := IntWalk.i64_in _ (by omega)
          go_region_law (first
            | ((with_reducible refine at_dst 81 ?_); refine step_app_strs rfl _ _ rfl wr.heap.size _ _ [] (own_empty wr).drew rfl _ _ _ _ (L.take d) hsT.drew rfl hd0 (Nat.le_of_lt (by simp)) ?_; intro v9 w9 hA9; rw [Nat.zero_add, List.nil_append] at hA9; obtain ⟨A9, c9, hv9⟩ := own_shape hA9.own; subst hv9; have hb9 := hA9.below (own_empty wr).drew hbbx.drew hb8'.size hbbx.drew.size; have hbB9 := hA9.below (own_empty wr).drew hbBx.drew (Nat.le_refl _) hbBx.drew.size; have hsD := hsDx w9 hbB9; have ho9 := hA9.own; have hz9 := hbB9.size; have hz99 := hb9.size; clear hA9 hsDx)
            | ((with_reducible refine at_dst 86 ?_); refine step_app_strs rfl _ _ rfl wr.heap.size _ _ _ ho9 rfl _ _ _ _ (L.drop (d + 1)) hsD rfl hdD hz9 ?_; intro v10 w10 hA10; obtain ⟨A10, c10, hv10⟩ := own_shape hA10.own; subst hv10; have hb10 := hA10.below ho9 hb9 hb8'.size hz99; have hs10 := (Sl.of_own hA10.own).any; clear hA10)
            | ((with_reducible refine at_dst 87 ?_); go_simp; go_at_call 25; refine (fits_any _ _ _ _ _ _ hs10 hdF).mono ?_; rw [HSUB.out]; rintro e w11 ⟨rfl, rfl⟩)
            | ((with_reducible refine at_dst 89 ?_); go_simp; go_at_call 23; refine (awake_end hb10).mono ?_; rintro e w12 ⟨rfl, hb12⟩))
          all_goals go_wp2_with fail
          all_goals go_ret
          all_goals exact ⟨rfl, hb12⟩
      · have hlt : k < nl := by omega
        obtain ⟨a, s, hA, hg, hc⟩ := Sl.str hs8 hlt
        have hn1 := few2_succ hg
        have hb1 := few2_take_le L (k + 1) HLS.out
        rw [← HNL.out] at hb1
        subst hA
        obtain ⟨x, hx⟩ : ∃ x, few2 L k = x := ⟨_, rfl⟩
        rw [hx] at hn1 ⊢
        rw [hn1] at hb1
        have hw2 : wrap64 (2 * (s.size : Int)) = 2 * (s.size : Int) := IntWalk.wrap64_in _ (by omega)
        have hw3 : wrap64 (2 * (s.size : Int) + 4) = 2 * (s.size : Int) + 4 := IntWalk.wrap64_in _ (by omega)
        have hw4 : wrap64 ((x : Int) + (2 * (s.size : Int) + 4)) = (x : Int) + (2 * (s.size : Int) + 4) := IntWalk.wrap64_in _ (by omega)
        have HN1 := hide hn1
        clear hn1 hx hb1 hg hcost hflat hs1 hs1a hbba hbBa hb6 hbB6 hs6 hb7 hbB7 hs7 hb8 hbB8 ho1 hs8
        go_wp2_with fail
        go_roundw
        case rel => exact ⟨k + 1, by omega, by go_num, by have h1 := HN1.out; rw [h1]; go_num, trivial⟩
        case measure => simp [intOf]; omega

end Go.Proofs.Yteoiadfcchalfaa
