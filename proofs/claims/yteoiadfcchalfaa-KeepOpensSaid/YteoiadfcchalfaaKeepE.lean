/- The walk of layer 21's pages: a text's cells, filled on pages. -/
import Derived.Test.YteoiadfcchalfaaKeepD
import Derived.Test.YteoiadfcchalfaaSlotFill
import Derived.Test.YteoiadfcchalfaaSlotLay
namespace Go.Proofs.Yteoiadfcchalfaa
open Go.RowKit
open DiskP (Bytes Disk Wr Fate)
open KeepP (Cut Head okC okH piecesK pieces pagesP cells)
set_option linter.unusedVariables false

theorem octs_map_mkB (l : List Bytes) : octs (l.map mkB) = l := by
  induction l with
  | nil => rfl
  | cons b l ih => rw [List.map_cons, octs_cons, ih, oct_mkB]
theorem secV_snocB (l : List Bytes) (s : ByteArray) : strs (l.map mkB ++ [s]) = secV (l ++ [oct s]) := by
  simp [secV, strs, mkB_oct]
theorem piece_next (t : Bytes) (j : Nat) (r : ByteArray) (hr : oct r = t.drop (300 * j)) (n : Nat) (hn : n = min r.size 300) :
    oct (r.extract 0 n) = (t.drop (300 * j)).take 300 ∧ oct (r.extract n r.size) = t.drop (300 * (j + 1)) := by
  have hz : (t.drop (300 * j)).length = r.size := by rw [← hr, oct_length]
  refine ⟨?_, ?_⟩
  · rw [oct_extract, hr, List.drop_zero, Nat.sub_zero, hn]
    by_cases h : r.size ≤ 300
    · rw [Nat.min_eq_left h, List.take_of_length_le (by omega), List.take_of_length_le (by omega)]
    · rw [Nat.min_eq_right (by omega)]
  · rw [oct_extract, hr, List.drop_drop, List.take_of_length_le (by rw [List.length_drop]; rw [List.length_drop] at hz; omega)]
    by_cases h : r.size ≤ 300
    · rw [List.length_drop] at hz
      rw [List.drop_of_length_le (by omega), List.drop_of_length_le (by omega)]
    · rw [hn, Nat.min_eq_right (by omega)]; rfl

/-- the cells that stand ahead of the round j, and what is left of the text -/
def PgR (w0 : World) (t : Bytes) (j : Nat) (tv cv : Value) (wr : World) : Prop :=
  ∃ r : ByteArray, tv = .string r ∧ oct r = t.drop (300 * j) ∧ j ≤ cells t.length ∧ wr.ownsRow w0.heap.size 9 1 cv j (secV (piecesK t j)) ∧ Below w0.heap.size w0 wr

set_option maxRecDepth 100000 in
set_option maxHeartbeats 3200000 in
theorem pages_any (s : ByteArray) (w : World) (hs : s.size ≤ 1000000) :
    Calls Try.prog 85 #[.string s] w fun q w' => ∃ v, q = .returned v ∧ w'.ownsRow w.heap.size 9 1 v (pagesP (oct s)).length (secV (pagesP (oct s))) ∧ Below w.heap.size w w' := by
  obtain ⟨t, ht⟩ : ∃ t, t = oct s := ⟨_, rfl⟩
  have htl : t.length ≤ 1000000 := by rw [ht, oct_length]; exact hs
  have HP0 : Hid (PgR w t 0 (.string s) (.slice none 0 0) w) := ⟨s, rfl, by rw [ht]; rfl, Nat.zero_le _, ⟨rfl, .inl ⟨rfl, rfl⟩⟩, Below.refl _ _⟩
  rw [← ht]
  clear ht hs
  go_enter Try.func85, Try.ntmps85
  go_upto_block 0 with (fail)
  go_cut [0, 3] from 4 to 26 (fun tv cv wc => PgR w t (cells t.length) tv cv wc)
  case first =>
    go_wp2_with fail
    go_loopw [0, 3] (fun tv cv wr => ∃ j, PgR w t j tv cv wr) (fun tv _ _ => (match tv with | .string r => r.size | _ => 0))
    case atStart => exact ⟨0, HP0.out⟩
    case round =>
      clear HP0
      obtain ⟨j, r, rfl, hr, hj, hown, hb⟩ := hrel
      have hz : (t.drop (300 * j)).length = r.size := by rw [← hr, oct_length]
      rw [List.length_drop] at hz
      by_cases h0 : r.size = 0
      · have hjc : j = cells t.length := by unfold cells at *; omega
        subst hjc
        have x1 : ¬ 0 < r.size := by omega
        have x2 : (r.size : Int) = 0 := by omega
        have HF : Hid (PgR w t (cells t.length) (.string r) u3 wr) := ⟨r, rfl, hr, Nat.le_refl _, hown, hb⟩
        clear hr hown hb hz hj
        go_wp2_with fail
        go_meet
        exact HF.out
      · have hp : (0 : Int) < (r.size : Int) := by omega
        have hp2 : 0 < r.size := by omega
        obtain ⟨n, hn⟩ : ∃ n, n = min r.size 300 := ⟨_, rfl⟩
        obtain ⟨e1, e2⟩ := piece_next t j r hr n hn
        have hnb : n ≤ r.size ∧ 1 ≤ n := by omega
        have hj1 : j + 1 ≤ cells t.length := by unfold cells; omega
        have hmin : min (r.size : Int) 300 = (n : Int) := by omega
        have hown' : wr.ownsRow w.heap.size 9 1 u3 j (strs ((piecesK t j).map mkB)) := hown
        have hbs := hb.size
        have hrl : j ≤ 1000000000000 := by unfold cells at hj; omega
        have HB := hide hb
        have E1 := hide e1
        have E2 := hide e2
        have N1 : (n : Int) ≤ (r.size : Int) := by omega
        obtain ⟨r2, hr2⟩ : ∃ r2, r2 = r.extract n r.size := ⟨_, rfl⟩
        have hz2 : r2.size < r.size := by rw [hr2, ← oct_length, oct_extract, List.length_take, List.length_drop, oct_length]; omega
        clear hr hz hn hown hb e1 e2 h0 hj
        go_wp2_with (at_builtin; refine wp_app_str rfl _ _ rfl w.heap.size _ _ _ hown' rfl _ rfl hrl hbs ?_; intro v2 w5 hA)
        have ho2 := hA.own
        rw [secV_snocB, E1.out, ← KeepP.piecesK_snoc] at ho2
        have hb2 := hA.below hown' HB.out (Nat.le_refl _) hbs
        rw [← hr2]
        have HF : Hid (PgR w t (j + 1) (.string r2) v2 w5) := ⟨r2, rfl, by rw [hr2]; exact E2.out, hj1, ho2, hb2⟩
        clear ho2 hb2 hA
        go_roundw
        case rel => exact ⟨j + 1, HF.out⟩
        case measure => exact hz2
  case rest =>
    clear HP0
    revert wc
    intro wL hcut
    obtain ⟨r, rfl, hr, _, hown, hb⟩ := hcut
    have hpk : piecesK t (cells t.length) = pieces t := rfl
    rw [hpk] at hown
    have hpl : (pieces t).length = cells t.length := KeepP.piecesK_len t _
    obtain ⟨A3, c3, rfl⟩ := own_shape hown
    have hsl : Sl wL (fun b => w.heap.size ≤ b) 1 A3 (cells t.length) (strs ((pieces t).map mkB)) := Sl.of_own hown
    have hcl : cells t.length ≤ 100000 := by unfold cells; omega
    have hfill := fill_yes A3 (cells t.length) c3 ((pieces t).map mkB) _ wL hsl (by omega) (fun s hs => by
      simp only [List.mem_map] at hs
      obtain ⟨b, hb, rfl⟩ := hs
      rw [mkB_size]
      have := KeepP.piecesK_le t _ b hb
      omega)
    rw [octs_map_mkB] at hfill
    obtain ⟨F, hF⟩ : ∃ F, F = SlotP.fill (pieces t) := ⟨_, rfl⟩
    have hfit := (KeepP.fill_pieces t).1
    have hpg : pagesP t = F.map SlotP.lay := by rw [hF]; rfl
    rw [← hF] at hfill hfit
    have hFl : F.length ≤ 100000 := by
      have h1 := SlotP.length_le_flatten F fun l hl => (hfit l hl).2
      have h2 : F.flatten = pieces t := by rw [hF]; exact (KeepP.fill_pieces t).2
      rw [h2, hpl] at h1
      omega
    have HPG := hide hpg
    have HFIT := hide hfit
    have HFL := hide hfill
    clear hfit hfill hF hpg hpk hpl hr hown hsl
    go_wp2_with fail
    refine HFL.out.mono ?_
    rintro q w2 ⟨v, vals, ll, rfl, ho, hrows, hll, hb2⟩
    obtain ⟨A5, c5, rfl⟩ := own_shape ho
    have hlen : ll.length = F.length := by rw [← hll, List.length_map]
    obtain ⟨m, hm⟩ : ∃ m, m = F.length := ⟨_, rfl⟩
    rw [hlen, ← hm] at ho
    rw [hlen, ← hm]
    have hbw2 := hb.trans (hb2.mono hb.size)
    have HO := hide (Sl.of_own ho)
    have HROWS := hide hrows
    have HLL := hide hll
    have HM := hide hm
    have HLEN := hide hlen
    have HB0 : Hid (w2.ownsRow w2.heap.size 9 1 (.slice none 0 0) 0 (secV ((F.map SlotP.lay).take 0))) := ⟨rfl, .inl ⟨rfl, rfl⟩⟩
    have hm2 : m ≤ 100000 := by omega
    clear ho hrows hll hm hlen hb2 HFL
    go_wp2_with fail
    go_loopw [7, 34] (fun lv iv wr => ∃ i : Nat, iv = .int .i64 i ∧ i ≤ m ∧ wr.ownsRow w2.heap.size 9 1 lv i (secV ((F.map SlotP.lay).take i)) ∧ Below w2.heap.size w2 wr) (fun _ iv _ => m - (intOf iv).toNat)
    case atStart => exact ⟨0, rfl, by omega, HB0.out, Below.refl _ _⟩
    case round =>
      clear HB0
      obtain ⟨i, rfl, him, hown, hbr⟩ := hrel
      by_cases hi : i < m
      · have d1 : decide (i < m) = true := by simpa using hi
        have hiI : (i : Int) < (m : Int) := by omega
        have hFi : i < F.length := by rw [← HM.out]; exact hi
        have hlli : i < ll.length := by rw [HLEN.out]; exact hFi
        obtain ⟨Al, cl, hv1, hs1⟩ := HROWS.out.2 i ll[i] (List.getElem?_eq_getElem hlli)
        obtain ⟨aS, u, eA, hx, hcS⟩ := (HO.out.below hbr).at_ hi
        rw [hv1] at hx
        obtain rfl := Option.some.inj hx
        have hoct : octs ll[i] = F[i] := by
          have h1 : (ll.map octs)[i]? = F[i]? := by rw [HLL.out]
          rw [List.getElem?_map, List.getElem?_eq_getElem hlli, List.getElem?_eq_getElem hFi] at h1
          exact Option.some.inj h1
        have hlay := fun (ww : World) (hS : Sl ww (fun _ => True) 1 Al ll[i].length (strs ll[i])) => lay_yes Al ll[i].length cl ll[i] ww hS (by rw [hoct]; exact (HFIT.out _ (List.getElem_mem hFi)).1)
        rw [hoct] at hlay
        obtain ⟨pg, hpg⟩ : ∃ pg : ByteArray, pg = ⟨(SlotP.lay F[i]).toArray⟩ := ⟨_, rfl⟩
        rw [← hpg] at hlay
        have hsn : secV ((F.map SlotP.lay).take i ++ [oct pg]) = secV ((F.map SlotP.lay).take (i + 1)) := by
          rw [List.take_succ_eq_append_getElem (by rw [List.length_map]; exact hFi), hpg, oct_mk, List.getElem_map]
        have HSN := hide hsn
        have HLAY := hide (hlay wr (hs1.any.below hbr))
        obtain ⟨kl, hkl⟩ : ∃ kl, kl = ll[i].length := ⟨_, rfl⟩
        rw [← hkl] at HLAY hcS
        have HOWN := hide hown
        have hbs := hbr.size
        subst eA
        clear hpg hsn hlay hoct hs1 hv1 hkl hown
        go_wp2_with fail
        refine HLAY.out.mono ?_
        rintro q w5 ⟨rfl, hb5⟩
        have hown5 : w5.ownsRow w2.heap.size 9 1 u7 i (strs (((F.map SlotP.lay).take i).map mkB)) := own_below HOWN.out hb5
        have hbE := hbr.trans (hb5.mono hbs)
        have hbsE := hbE.size
        have hil : i ≤ 1000000000000 := by omega
        clear hcS hb5
        go_wp2_with (at_builtin; refine wp_app_str rfl _ _ rfl w2.heap.size _ _ _ hown5 rfl _ rfl hil hbsE ?_; intro v2 w6 hA)
        have ho6 := hA.own
        rw [secV_snocB, HSN.out] at ho6
        have hb6 := hA.below hown5 hbE (Nat.le_refl _) hbsE
        have HO6 := hide ho6
        have HB6 := hide hb6
        clear ho6 hb6 hA
        go_roundw
        case rel => exact ⟨i + 1, by go_num, by omega, HO6.out, HB6.out⟩
        case measure => simp [intOf]; omega
      · have hieq : i = m := by omega
        subst hieq
        have hfin : (F.map SlotP.lay).take i = F.map SlotP.lay := List.take_of_length_le (by rw [List.length_map, HM.out]; exact Nat.le_refl _)
        rw [hfin] at hown
        have HOWN := hide (own_mono hown hbw2.size)
        have hbF := hbw2.trans (hbr.mono hbw2.size)
        clear hown hfin hi
        go_wp2_with fail
        go_ret
        exact ⟨_, rfl, by rw [HPG.out, List.length_map, ← HM.out]; exact HOWN.out, hbF⟩
end Go.Proofs.Yteoiadfcchalfaa
