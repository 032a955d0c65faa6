/- The walk of the law SlotFree. -/
import Derived.Test.YteoiadfcchalfaaSlotAwake
namespace Go.Proofs.Yteoiadfcchalfaa
open Go.RowKit
set_option linter.unusedVariables false

/-- 'append(l, m...)', l a []string of one's own -/
theorem wp_app_strs {w : World} {ops : Array Oper} {rest : List Oper} {o : Oper} {a : Act} {Q : Exit → Act → World → Prop} (hgd : o.guard = none) (s x : Operand)
    (ho : o.op = .call { callee := .builtin .append, args := #[s, x], argTypes := #[22, 22] })
    (base : Nat) (v : Value) (n : Nat) (ss : List ByteArray) (hown : w.ownsRow base 9 1 v n (strs ss)) (hs : a.eval s = v)
    (V : Nat → Prop) (A : Option Addr) (m c : Nat) (ts : List ByteArray) (hr : Sl w V 1 A m (strs ts)) (hx : a.eval x = .slice A m c) (hn : n + m ≤ 1000000000000) (hbase : base ≤ w.heap.size)
    (h : ∀ v' w', Apd w w' base 9 1 v v' (n + m) (strs (ss ++ ts)) → wpList Try.prog ops Q rest (a.put o.dst v') w') : wpList Try.prog ops Q (o :: rest) a w := by
  obtain ⟨i0, hi, hz0, hz1, hz2⟩ := info_parts Try.info9
  refine wp_app (P := Try.prog) hgd s x 22 ho base 9 i0 (.string .empty) 1 16 Try.underlying22 hi hz0 hz1 hz2 rfl (by decide) v n (strs ss) hown hs V A m c (strs ts) hx hr (strs_one ts)
    (by simp only [maxLen]; omega) (by omega) hbase fun v' w' hA => h v' w' ?_
  rw [strs_append]
  exact hA

theorem wp_unguard {P : Program} {w : World} {ops : Array Oper} {rest : List Oper} {o : Oper} {a : Act} {Q : Exit → Act → World → Prop} (h0 : Region.wanted o (yielded ops a.tmps) = true)
    (h : wpList P ops Q ({ o with guard := none } :: rest) a w) : wpList P ops Q (o :: rest) a w := by
  unfold wpList at h ⊢
  rw [if_pos (by simp [Region.wanted])] at h
  rw [if_pos h0]
  exact h

theorem own_empty (w : World) : (w.alloc (.cells #[] 9)).ownsRow w.heap.size 9 1 (.slice (some ⟨w.heap.size, 0, none⟩) 0 0) 0 (strs []) :=
  World.ownsRow_lit (base := w.heap.size) (e := 9) (size := 1) w #[] 0 (Nat.le_refl _) (by simp [maxLen]) rfl

theorem awake_end {w0 w : World} (hb : Below w0.heap.size w0 w) : Calls Try.prog 23 #[] w fun e w' => e = .returned (.bool true) ∧ Below w0.heap.size w0 w' :=
  (awake19_any w).mono fun _ _ ⟨h1, h2⟩ => ⟨h1, hb.trans (h2.mono hb.size)⟩

theorem lay_dec (A : Option Addr) (n c : Nat) (ss : List ByteArray) (w : World) (h : Sl w (fun _ => True) 1 A n (strs ss)) (hn : n ≤ 9223372036854775807) :
    ∃ (pg : ByteArray) (x : Int), Calls Try.prog 22 #[.slice A n c] w fun e w'' => e = .returned (.tuple #[.string pg, .int .i64 x]) ∧ Below w.heap.size w w'' := by
  cases hf : SlotP.fits (octs ss) with
  | true => exact ⟨_, _, lay_yes A n c ss w h hf⟩
  | false => exact ⟨_, _, (lay_no A n c ss _ w h hn hf).mono fun _ _ ⟨h1, h2⟩ => ⟨h1, by subst h2; exact Below.refl _ _⟩⟩

set_option maxRecDepth 100000 in
set_option maxHeartbeats 8000000 in
theorem slotFree_walk (A B : Option Addr) (n m c d k : Nat) (ss ts : List ByteArray) (w : World) (h : Sl w (fun _ => True) 1 A n (strs ss)) (g : Sl w (fun _ => True) 1 B m (strs ts)) (hn : n ≤ 9223372036854775807) (hm : m ≤ 9223372036854775807) (hk : k ≤ 65535) :
    Calls Try.prog 6 #[.slice A n c, .slice B m d, .int .u16 k] w fun e w' => e = .returned (.bool true) ∧ Below w.heap.size w w' := by
  go_enter Try.func6, Try.ntmps6
  go_wp2_with fail
  refine (few_any A n c ss _ _ h hn).mono ?_
  rintro e w1 ⟨v1, rfl, ho1, hb1⟩
  obtain ⟨A1, c1, hv1⟩ := own_shape ho1
  subst hv1
  go_wp2_with fail
  refine (few_any B m d ts _ _ (g.below hb1) hm).mono ?_
  rintro e w2 ⟨v2, rfl, ho2, hb2⟩
  obtain ⟨A2, c2, hv2⟩ := own_shape ho2
  subst hv2
  have hL := fewP_length ss
  have hM := fewP_length ts
  have hs1 := (Sl.of_own ho1).any.below hb2
  have hs2 := (Sl.of_own ho2).any
  have hbb : Below w.heap.size w w2 := hb1.trans (hb2.mono hb1.size)
  clear hb1 hb2 ho1 ho2 h g
  generalize fewP ss = L at *
  generalize fewP ts = M at *
  obtain ⟨nl, hnl⟩ : ∃ nl, nl = L.length := ⟨_, rfl⟩
  obtain ⟨nm, hnm⟩ : ∃ nm, nm = M.length := ⟨_, rfl⟩
  rw [← hnl] at hL hs1 ⊢
  rw [← hnm] at hM hs2 ⊢
  have HNL := hide hnl
  clear hnl hnm
  cases hf1 : SlotP.fits (octs L) with
  | false =>
    have hfr := free_no hf1
    have hfree := free_any A1 nl c1 L _ _ hs1 (by omega)
    rw [hfr] at hfree
    have hln := lay_no A1 nl c1 L _ _ hs1 (by omega) hf1
    obtain ⟨pm, x, hlm⟩ := lay_dec A2 nm c2 M _ hs2 (by omega)
    clear hfr hf1
    go_wp2_with fail
    refine hfree.mono ?_
    rintro e w3 ⟨rfl, rfl⟩
    go_wp2_with fail
    refine hln.mono ?_
    rintro e w4 ⟨rfl, rfl⟩
    go_wp2_with fail
    refine hlm.mono ?_
    rintro e w5 ⟨rfl, hb5⟩
    go_wp2_with fail
    refine (awake_end (hbb.trans (hb5.mono hbb.size))).mono ?_
    rintro e w6 ⟨rfl, hb6⟩
    go_wp2_with fail
    go_ret
    exact ⟨rfl, hb6⟩
  | true =>
    have hfree := free_any A1 nl c1 L _ _ hs1 (by omega)
    have hly := lay_yes A1 nl c1 L _ hs1 hf1
    have hpo : oct ⟨(SlotP.lay (octs L)).toArray⟩ = SlotP.lay (octs L) := oct_mk _
    generalize (⟨(SlotP.lay (octs L)).toArray⟩ : ByteArray) = pg at hly hpo
    have hfb := SlotP.free_bounds _ hf1
    have hff := fun cc => SlotP.fits_free (octs L) cc hf1
    generalize hfl : SlotP.free (octs L) = fl at *
    obtain ⟨hfb0, hfb1⟩ := hfb
    have HFF := hide hff
    have HF1 := hide hf1
    have HPO := hide hpo
    clear hff hfl hf1 hpo
    go_wp2_with fail
    refine hfree.mono ?_
    rintro e w3 ⟨rfl, rfl⟩
    go_wp2_with fail
    refine hly.mono ?_
    rintro e w4 ⟨rfl, hb4⟩
    have hs1' := hs1.below hb4
    have hs2' := hs2.below hb4
    have hbb4 := hbb.trans (hb4.mono hbb.size)
    clear hs1 hs2 hb4 hbb hfree hly
    cases hf2 : SlotP.fits (octs M) with
    | false =>
      go_wp2_with fail
      refine (lay_no A2 nm c2 M _ w4 hs2' (by omega) hf2).mono ?_
      rintro e w5 ⟨rfl, rfl⟩
      have hb5 := Below.refl w4.heap.size w4
      clear hf2
      obtain ⟨w5, hw5⟩ : ∃ w5, w5 = w4 := ⟨_, rfl⟩
      rw [← hw5] at hb5 hbb4 hs1' hs2' ⊢
      clear hw5
      have hs1 := hs1'.below hb5
      have hbb := hbb4.trans (hb5.mono hbb4.size)
      have hs1a := hs1.below ((Below.refl _ _).alloc (Nat.le_refl _) (.cells #[] 9))
      have hbba := hbb.alloc hbb.size (.cells #[] 9)
      clear hs1' hs2' hb5 hbb4 hs1
      go_wp2_with (at_builtin; refine wp_app_strs rfl _ _ rfl w5.heap.size _ _ [] (own_empty w5) rfl _ _ _ _ L hs1a rfl (by omega) (by simp) ?_; intro v6 w6 hA6; rw [Nat.zero_add, List.nil_append] at hA6; obtain ⟨A6, c6, hv6⟩ := own_shape hA6.own; subst hv6)
      have hb6 := hA6.below (own_empty w5) hbba hbb.size hbba.size
      have hs6 := hA6.grown.size
      refine (many_at _ _ 120 (k % 1001) rfl (by omega) (by omega) _).mono ?_
      rintro e w7 ⟨rfl, hb7⟩
      have ho7 := own_below hA6.own hb7
      have hb7' := hb6.trans (hb7.mono hb6.size)
      have hs7 := hb7.size
      clear hA6 hb6 hb7
      go_wp2_with (at_builtin; refine wp_app_str rfl _ _ rfl w5.heap.size _ _ _ ho7 rfl (repB 120 (k % 1001)) rfl (by omega) (by have := World.size_alloc w5 (.cells #[] 9); omega) ?_; intro v8 w8 hA8; obtain ⟨A8, c8, hv8⟩ := own_shape hA8.own; subst hv8)
      all_goals have hb8 := hA8.below ho7 hb7' hbb.size hb7'.size
      · refine (awake_end hb8).mono ?_
        rintro e w9 ⟨rfl, hb9⟩
        go_wp2_with fail
        go_ret
        exact ⟨rfl, hb9⟩
      · have hne : ((k : Int) % 1001 == 0) = false := by assumption
        have hfit := fits_any A8 _ c8 _ _ w8 (Sl.of_own hA8.own) (by omega)
        have hval : SlotP.fits (octs (L ++ [repB 120 (k % 1001)])) = decide ((k : Int) % 1001 ≤ fl) := by
          rw [octs_append, octs_cons, octs_nil, HFF.out (oct (repB 120 (k % 1001))) (by rw [oct_length, size_repB]; simp at hne; omega), oct_length, size_repB]
          congr 1
        rw [hval] at hfit
        clear hval hne
        refine hfit.mono ?_
        rintro e w9 ⟨rfl, rfl⟩
        cases hd : decide ((k : Int) % 1001 ≤ fl) with
        | true =>
          go_wp2_with fail
          refine (awake_end hb8).mono ?_
          rintro e w10 ⟨rfl, hb10⟩
          go_wp2_with fail
          go_ret
          exact ⟨rfl, hb10⟩
        | false =>
          go_wp2_with fail
          refine (awake_end hb8).mono ?_
          rintro e w10 ⟨rfl, hb10⟩
          go_wp2_with fail
          go_ret
          exact ⟨rfl, hb10⟩
    | true =>
      have hym := lay_yes A2 nm c2 M w4 hs2' hf2
      have hpm : oct ⟨(SlotP.lay (octs M)).toArray⟩ = SlotP.lay (octs M) := oct_mk _
      generalize (⟨(SlotP.lay (octs M)).toArray⟩ : ByteArray) = pm at hym hpm
      have hcmp : (pg.toList == pm.toList) = decide (octs L = octs M) := by
        rw [toList_cmp, HPO.out, hpm]
        rw [Bool.eq_iff_iff]
        simp only [decide_eq_true_eq]
        exact SlotP.lay_inj _ _ HF1.out hf2
      clear hf2 hpm
      go_wp2_with fail
      refine hym.mono ?_
      rintro e w5 ⟨rfl, hb5⟩
      have hsame := same_any A1 A2 nl nm c1 c2 L M _ _ w5 (hs1'.below hb5) (hs2'.below hb5) (by omega)
      generalize hbq : decide (octs L = octs M) = bq at hcmp hsame
      clear hbq hym
      cases bq with
      | true =>
        go_wp2_with fail
        refine hsame.mono ?_
        rintro e wx ⟨rfl, q, rfl⟩
        obtain ⟨wq, hwq⟩ : ∃ wq, wq = w5.drewN q := ⟨_, rfl⟩
        have hb5 : Below w4.heap.size w4 wq := by rw [hwq]; exact below_drewN hb5 q
        rw [← hwq]
        clear hwq hsame hcmp
        obtain ⟨w5, rfl⟩ : ∃ w5, w5 = wq := ⟨_, rfl⟩
        have hs1 := hs1'.below hb5
        have hbb := hbb4.trans (hb5.mono hbb4.size)
        have hs1a := hs1.below ((Below.refl _ _).alloc (Nat.le_refl _) (.cells #[] 9))
        have hbba := hbb.alloc hbb.size (.cells #[] 9)
        clear hs1' hs2' hb5 hbb4 hs1
        go_wp2_with (at_builtin; refine wp_app_strs rfl _ _ rfl w5.heap.size _ _ [] (own_empty w5) rfl _ _ _ _ L hs1a rfl (by omega) (by simp) ?_; intro v6 w6 hA6; rw [Nat.zero_add, List.nil_append] at hA6; obtain ⟨A6, c6, hv6⟩ := own_shape hA6.own; subst hv6)
        have hb6 := hA6.below (own_empty w5) hbba hbb.size hbba.size
        have hs6 := hA6.grown.size
        refine (many_at _ _ 120 (k % 1001) rfl (by omega) (by omega) _).mono ?_
        rintro e w7 ⟨rfl, hb7⟩
        have ho7 := own_below hA6.own hb7
        have hb7' := hb6.trans (hb7.mono hb6.size)
        have hs7 := hb7.size
        clear hA6 hb6 hb7
        go_wp2_with (at_builtin; refine wp_app_str rfl _ _ rfl w5.heap.size _ _ _ ho7 rfl (repB 120 (k % 1001)) rfl (by omega) (by have := World.size_alloc w5 (.cells #[] 9); omega) ?_; intro v8 w8 hA8; obtain ⟨A8, c8, hv8⟩ := own_shape hA8.own; subst hv8)
        all_goals have hb8 := hA8.below ho7 hb7' hbb.size hb7'.size
        · refine (awake_end hb8).mono ?_
          rintro e w9 ⟨rfl, hb9⟩
          go_wp2_with fail
          go_ret
          exact ⟨rfl, hb9⟩
        · have hne : ((k : Int) % 1001 == 0) = false := by assumption
          have hfit := fits_any A8 _ c8 _ _ w8 (Sl.of_own hA8.own) (by omega)
          have hval : SlotP.fits (octs (L ++ [repB 120 (k % 1001)])) = decide ((k : Int) % 1001 ≤ fl) := by
            rw [octs_append, octs_cons, octs_nil, HFF.out (oct (repB 120 (k % 1001))) (by rw [oct_length, size_repB]; simp at hne; omega), oct_length, size_repB]
            congr 1
          rw [hval] at hfit
          clear hval hne
          refine hfit.mono ?_
          rintro e w9 ⟨rfl, rfl⟩
          cases hd : decide ((k : Int) % 1001 ≤ fl) with
          | true =>
            go_wp2_with fail
            refine (awake_end hb8).mono ?_
            rintro e w10 ⟨rfl, hb10⟩
            go_wp2_with fail
            go_ret
            exact ⟨rfl, hb10⟩
          | false =>
            go_wp2_with fail
            refine (awake_end hb8).mono ?_
            rintro e w10 ⟨rfl, hb10⟩
            go_wp2_with fail
            go_ret
            exact ⟨rfl, hb10⟩
      | false =>
        go_wp2_with fail
        refine hsame.mono ?_
        rintro e wx ⟨rfl, q, rfl⟩
        obtain ⟨wq, hwq⟩ : ∃ wq, wq = w5.drewN q := ⟨_, rfl⟩
        have hb5 : Below w4.heap.size w4 wq := by rw [hwq]; exact below_drewN hb5 q
        rw [← hwq]
        clear hwq hsame hcmp
        obtain ⟨w5, rfl⟩ : ∃ w5, w5 = wq := ⟨_, rfl⟩
        have hs1 := hs1'.below hb5
        have hbb := hbb4.trans (hb5.mono hbb4.size)
        have hs1a := hs1.below ((Below.refl _ _).alloc (Nat.le_refl _) (.cells #[] 9))
        have hbba := hbb.alloc hbb.size (.cells #[] 9)
        clear hs1' hs2' hb5 hbb4 hs1
        go_wp2_with (at_builtin; refine wp_app_strs rfl _ _ rfl w5.heap.size _ _ [] (own_empty w5) rfl _ _ _ _ L hs1a rfl (by omega) (by simp) ?_; intro v6 w6 hA6; rw [Nat.zero_add, List.nil_append] at hA6; obtain ⟨A6, c6, hv6⟩ := own_shape hA6.own; subst hv6)
        have hb6 := hA6.below (own_empty w5) hbba hbb.size hbba.size
        have hs6 := hA6.grown.size
        refine (many_at _ _ 120 (k % 1001) rfl (by omega) (by omega) _).mono ?_
        rintro e w7 ⟨rfl, hb7⟩
        have ho7 := own_below hA6.own hb7
        have hb7' := hb6.trans (hb7.mono hb6.size)
        have hs7 := hb7.size
        clear hA6 hb6 hb7
        go_wp2_with (at_builtin; refine wp_app_str rfl _ _ rfl w5.heap.size _ _ _ ho7 rfl (repB 120 (k % 1001)) rfl (by omega) (by have := World.size_alloc w5 (.cells #[] 9); omega) ?_; intro v8 w8 hA8; obtain ⟨A8, c8, hv8⟩ := own_shape hA8.own; subst hv8)
        all_goals have hb8 := hA8.below ho7 hb7' hbb.size hb7'.size
        · refine (awake_end hb8).mono ?_
          rintro e w9 ⟨rfl, hb9⟩
          go_wp2_with fail
          go_ret
          exact ⟨rfl, hb9⟩
        · have hne : ((k : Int) % 1001 == 0) = false := by assumption
          have hfit := fits_any A8 _ c8 _ _ w8 (Sl.of_own hA8.own) (by omega)
          have hval : SlotP.fits (octs (L ++ [repB 120 (k % 1001)])) = decide ((k : Int) % 1001 ≤ fl) := by
            rw [octs_append, octs_cons, octs_nil, HFF.out (oct (repB 120 (k % 1001))) (by rw [oct_length, size_repB]; simp at hne; omega), oct_length, size_repB]
            congr 1
          rw [hval] at hfit
          clear hval hne
          refine hfit.mono ?_
          rintro e w9 ⟨rfl, rfl⟩
          cases hd : decide ((k : Int) % 1001 ≤ fl) with
          | true =>
            go_wp2_with fail
            refine (awake_end hb8).mono ?_
            rintro e w10 ⟨rfl, hb10⟩
            go_wp2_with fail
            go_ret
            exact ⟨rfl, hb10⟩
          | false =>
            go_wp2_with fail
            refine (awake_end hb8).mono ?_
            rintro e w10 ⟨rfl, hb10⟩
            go_wp2_with fail
            go_ret
            exact ⟨rfl, hb10⟩

end Go.Proofs.Yteoiadfcchalfaa
