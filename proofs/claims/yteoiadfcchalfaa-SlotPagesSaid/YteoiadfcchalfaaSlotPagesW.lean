/- The walk of the law SlotPages. -/
import Derived.Test.YteoiadfcchalfaaSlotFreeW
namespace Go.Proofs.Yteoiadfcchalfaa
open Go.RowKit
set_option linter.unusedVariables false

set_option maxRecDepth 100000 in
set_option maxHeartbeats 8000000 in
theorem slotPages_walk (A : Option Addr) (n c : Nat) (ss : List ByteArray) (w : World) (h : Sl w (fun _ => True) 1 A n (strs ss)) (hn : n ≤ 9223372036854775807) :
    Calls Try.prog 5 #[.slice A n c] w fun e w' => e = .returned (.bool true) ∧ Below w.heap.size w w' := by
  go_enter Try.func5, Try.ntmps5
  go_wp2_with fail
  refine (few_any A n c ss _ _ h hn).mono ?_
  rintro e w1 ⟨v1, rfl, ho1, hb1⟩
  obtain ⟨A1, c1, hv1⟩ := own_shape ho1
  subst hv1
  have hL := fewP_length ss
  have hs1 := (Sl.of_own ho1).any
  clear ho1 h
  generalize fewP ss = L at *
  obtain ⟨nl, hnl⟩ : ∃ nl, nl = L.length := ⟨_, rfl⟩
  rw [← hnl] at hL hs1 ⊢
  have HNL := hide hnl
  clear hnl
  have hfitR := rfits_any A1 nl c1 L _ w1 hs1 (by omega)
  have hfitA := fits_any A1 nl c1 L _ w1 hs1 (by omega)
  cases hf1 : SlotP.fits (octs L) with
  | false =>
    have hfree := free_any A1 nl c1 L _ _ hs1 (by omega)
    rw [free_no hf1] at hfree
    rw [hf1] at hfitR hfitA
    have hln := lay_no A1 nl c1 L _ _ hs1 (by omega) hf1
    clear hf1
    go_wp2_with fail
    refine hln.mono ?_
    rintro e w4 ⟨rfl, rfl⟩
    go_wp2_with fail
    refine hfitR.mono ?_
    rintro e w4 ⟨rfl, rfl⟩
    go_wp2_with fail
    refine hfitA.mono ?_
    rintro e w4 ⟨rfl, rfl⟩
    go_wp2_with fail
    refine hfitR.mono ?_
    rintro e w4 ⟨rfl, rfl⟩
    go_wp2_with fail
    refine hfree.mono ?_
    rintro e w4 ⟨rfl, rfl⟩
    go_wp2_with fail
    refine hfitR.mono ?_
    rintro e w4 ⟨rfl, rfl⟩
    go_wp2_with fail
    refine (awake_end hb1).mono ?_
    rintro e w6 ⟨rfl, hb6⟩
    go_wp2_with fail
    go_ret
    exact ⟨rfl, hb6⟩
  | true =>
    have hly := lay_yes A1 nl c1 L _ hs1 hf1
    have hrd := SlotP.read_lay _ hf1
    have hlen := SlotP.lay_length _ hf1
    obtain ⟨pg, hpg⟩ : ∃ pg : ByteArray, (⟨(SlotP.lay (octs L)).toArray⟩ : ByteArray) = pg := ⟨_, rfl⟩
    have hpo : oct pg = SlotP.lay (octs L) := by rw [← hpg]
    rw [hpg] at hly
    rw [← hpo] at hrd hlen
    rw [oct_length] at hlen
    have hfb := SlotP.free_bounds _ hf1
    have hff := fun cc => SlotP.fits_free (octs L) cc hf1
    obtain ⟨fl, hfl⟩ : ∃ fl, SlotP.free (octs L) = fl := ⟨_, rfl⟩
    rw [hfl] at hfb
    obtain ⟨hfb0, hfb1⟩ := hfb
    have HFF := hide hff
    have HF1 := hide hf1
    have HPG := hide hpg
    have HRD := hide hrd
    have HFL := hide hfl
    rw [hf1] at hfitR
    have hpsz : pg.size ≤ 9223372036854775807 := by omega
    clear hff hfl hf1 hpo hpg hrd hfitA hlen
    go_wp2_with fail
    refine hly.mono ?_
    rintro e w4 ⟨rfl, hb4⟩
    have hfitR4 := rfits_any A1 nl c1 L _ w4 (hs1.below hb4) (by omega)
    rw [HF1.out] at hfitR4
    have hbb4 := hb1.trans (hb4.mono hb1.size)
    go_wp2_with fail
    refine hfitR4.mono ?_
    rintro e w4' ⟨rfl, rfl⟩
    clear hfitR hfitR4 hly
    go_wp2_with fail
    go_loopw [5] (fun v wr => ∃ f : Nat, (f : Int) ≤ fl ∧ v = .int .i64 f ∧ Below w.heap.size w wr ∧ Below w1.heap.size w1 wr) (fun v _ => 1000 - (intOf v).toNat)
    case atStart => exact ⟨0, by omega, rfl, hbb4, hb4⟩
    case round =>
      clear hb4 hbb4
      obtain ⟨f, hfl, rfl, hb, hbL⟩ := hrel
      have hbE := hb
      obtain ⟨W0, hW0⟩ : ∃ W0, W0 = wr := ⟨_, rfl⟩
      by_cases hgo : f < 1000
      · have hs1a := (hs1.below hbL).below ((Below.refl _ _).alloc (Nat.le_refl _) (.cells #[] 9))
        have hbba := hb.alloc hb.size (.cells #[] 9)
        have hbLa := hbL.alloc hbL.size (.cells #[] 9)
        have HW0 := hide hW0
        clear hW0
        go_wp2_with (at_builtin; refine wp_unguard (by simp [Region.wanted, yielded]) ?_; refine wp_app_strs rfl _ _ rfl wr.heap.size _ _ [] (own_empty wr) rfl _ _ _ _ L hs1a rfl (by omega) (by simp) ?_; intro v6 w6 hA6; rw [Nat.zero_add, List.nil_append] at hA6; obtain ⟨A6, c6, hv6⟩ := own_shape hA6.own; subst hv6)
        have hb6 := hA6.below (own_empty wr) hbba hb.size hbba.size
        have hb6L := hA6.below (own_empty wr) hbLa hbL.size hbLa.size
        have hs6 := hA6.grown.size
        refine (many_at _ _ 120 (f + 1) rfl (by omega) (by omega) _).mono ?_
        rintro e w7 ⟨rfl, hb7⟩
        have ho7 := own_below hA6.own hb7
        have hb7' := hb6.trans (hb7.mono hb6.size)
        have hb7L := hb6L.trans (hb7.mono hb6L.size)
        have hs7 := hb7.size
        clear hA6 hb6 hb7 hb6L
        go_wp2_with (at_builtin; refine wp_unguard (by simp [Region.wanted, yielded]) ?_; refine wp_app_str rfl _ _ rfl wr.heap.size _ _ _ ho7 rfl (repB 120 (f + 1)) rfl (by omega) (by have := World.size_alloc wr (.cells #[] 9); omega) ?_; intro v8 w8 hA8; obtain ⟨A8, c8, hv8⟩ := own_shape hA8.own; subst hv8)
        have hb8 := hA8.below ho7 hb7' hb.size hb7'.size
        have hb8L := hA8.below ho7 hb7L hbL.size hb7L.size
        have hfit := rfits_any A8 _ c8 _ _ w8 (Sl.of_own hA8.own) (by omega)
        have hval : SlotP.fits (octs (L ++ [repB 120 (f + 1)])) = decide ((f : Int) + 1 ≤ fl) := by
          rw [octs_append, octs_cons, octs_nil, HFF.out (oct (repB 120 (f + 1))) (by rw [oct_length, size_repB]; omega), oct_length, size_repB, HFL.out]
          congr 1
        rw [hval] at hfit
        clear hval hA8 ho7 hb7' hb7L
        refine hfit.mono ?_
        rintro e w9 ⟨rfl, rfl⟩
        by_cases hmore : (f : Int) + 1 ≤ fl
        · rw [decide_eq_true hmore]
          go_wp2_with fail
          go_roundw
          case rel => exact ⟨f + 1, by omega, by go_num, hb8, hb8L⟩
          case measure => simp [intOf]; omega
        · rw [decide_eq_false hmore]
          go_wp2_with fail
          obtain ⟨W0, rfl⟩ : ∃ W0, W0 = w8 := ⟨_, rfl⟩
          have hbE := hb8
          have hbL := hb8L
          obtain ⟨hbw, hfeq⟩ : Below w.heap.size w W0 ∧ ((fl != (f : Int)) = false) := ⟨hbE, by simp; omega⟩
          have hs := hs1.below (hbL)
          have hfitA := fits_any A1 nl c1 L _ W0 hs (by omega)
          have hfitR := rfits_any A1 nl c1 L _ W0 hs (by omega)
          have hfree := free_any A1 nl c1 L _ W0 hs (by omega)
          rw [HF1.out] at hfitA hfitR
          rw [HFL.out] at hfree
          clear hb hbE hbL
          go_wp2_with fail
          refine hfitA.mono ?_
          rintro e x1 ⟨rfl, rfl⟩
          go_wp2_with fail
          refine hfitR.mono ?_
          rintro e x2 ⟨rfl, rfl⟩
          go_wp2_with fail
          refine hfree.mono ?_
          rintro e x3 ⟨rfl, rfl⟩
          go_wp2_with fail
          refine hfitR.mono ?_
          rintro e x4 ⟨rfl, rfl⟩
          clear hfitA hfitR hfree
          go_wp2_with fail
          refine (read_any pg _ (by omega)).mono ?_
          rw [HRD.out]
          rintro e x5 ⟨v5, ts, rfl, ho5, hts, hb5⟩
          obtain ⟨A5, c5, hv5⟩ := own_shape ho5
          subst hv5
          have HTS := hide hts
          clear hts
          have hs5 := hs.below hb5
          have hb5' := hbw.trans (hb5.mono hbw.size)
          have hst5 := (Sl.of_own ho5).any
          have hrl := rlay_any A1 nl c1 L _ x5 hs5 HF1.out
          rw [HPG.out] at hrl
          go_wp2_with fail
          refine hrl.mono ?_
          rintro e x6 ⟨rfl, hb6⟩
          have hb6' := hb5'.trans (hb6.mono hb5'.size)
          have hsame := same_any A5 A1 ts.length nl c5 c1 ts L _ _ x6 (hst5.below hb6) (hs5.below hb6) (by have h1 := octs_length ts; have h2 := HNL.out; rw [HTS.out, octs_length] at h1; omega)
          rw [HTS.out, decide_eq_true rfl] at hsame
          clear hrl
          go_wp2_with fail
          refine hsame.mono ?_
          rintro e x7 ⟨rfl, q, rfl⟩
          go_wp2_with fail
          refine (awake_end (below_drewN hb6' q)).mono ?_
          rintro e x8 ⟨rfl, hb8⟩
          go_wp2_with fail
          go_ret
          exact ⟨rfl, hb8⟩
      · subst hW0
        go_wp2_with fail
        obtain ⟨hbw, hfeq⟩ : Below w.heap.size w W0 ∧ ((fl != (f : Int)) = false) := ⟨hbE, by simp; omega⟩
        have hs := hs1.below (hbL)
        have hfitA := fits_any A1 nl c1 L _ W0 hs (by omega)
        have hfitR := rfits_any A1 nl c1 L _ W0 hs (by omega)
        have hfree := free_any A1 nl c1 L _ W0 hs (by omega)
        rw [HF1.out] at hfitA hfitR
        rw [HFL.out] at hfree
        clear hb hbE hbL
        go_wp2_with fail
        refine hfitA.mono ?_
        rintro e x1 ⟨rfl, rfl⟩
        go_wp2_with fail
        refine hfitR.mono ?_
        rintro e x2 ⟨rfl, rfl⟩
        go_wp2_with fail
        refine hfree.mono ?_
        rintro e x3 ⟨rfl, rfl⟩
        go_wp2_with fail
        refine hfitR.mono ?_
        rintro e x4 ⟨rfl, rfl⟩
        clear hfitA hfitR hfree
        go_wp2_with fail
        refine (read_any pg _ (by omega)).mono ?_
        rw [HRD.out]
        rintro e x5 ⟨v5, ts, rfl, ho5, hts, hb5⟩
        obtain ⟨A5, c5, hv5⟩ := own_shape ho5
        subst hv5
        have HTS := hide hts
        clear hts
        have hs5 := hs.below hb5
        have hb5' := hbw.trans (hb5.mono hbw.size)
        have hst5 := (Sl.of_own ho5).any
        have hrl := rlay_any A1 nl c1 L _ x5 hs5 HF1.out
        rw [HPG.out] at hrl
        go_wp2_with fail
        refine hrl.mono ?_
        rintro e x6 ⟨rfl, hb6⟩
        have hb6' := hb5'.trans (hb6.mono hb5'.size)
        have hsame := same_any A5 A1 ts.length nl c5 c1 ts L _ _ x6 (hst5.below hb6) (hs5.below hb6) (by have h1 := octs_length ts; have h2 := HNL.out; rw [HTS.out, octs_length] at h1; omega)
        rw [HTS.out, decide_eq_true rfl] at hsame
        clear hrl
        go_wp2_with fail
        refine hsame.mono ?_
        rintro e x7 ⟨rfl, q, rfl⟩
        go_wp2_with fail
        refine (awake_end (below_drewN hb6' q)).mono ?_
        rintro e x8 ⟨rfl, hb8⟩
        go_wp2_with fail
        go_ret
        exact ⟨rfl, hb8⟩

end Go.Proofs.Yteoiadfcchalfaa
