/- The walk of KeepPlays. (printed by pl.py) -/
import Derived.Test.YteoiadfcchalfaaKeepS
import Derived.Test.YteoiadfcchalfaaKeepT
import Derived.Test.YteoiadfcchalfaaOpenW
import Derived.Test.YteoiadfcchalfaaRegE
namespace Go.Proofs.Yteoiadfcchalfaa
open Go.RowKit
open DiskP (Bytes Disk Wr Fate noughts)
open KeepP (Cut Head K Kept okC okH pagesP saveP beginP openP)
open LogP (Log zeroL Live okL Holds)
set_option linter.unusedVariables false

/-- what is kept behind i acts, where no budget is set -/
structure Pk (c : Cut) (i : Nat) (k : K) : Prop where
  kept : Kept k
  cut : k.cut = c
  gen : k.head.gen ≤ 1 + i
  seq : k.head.seq + k.records.length ≤ 1 + i
  left : k.drive.left = -1
theorem Pk.le {c : Cut} {i j : Nat} {k : K} (h : Pk c i k) (hi : i ≤ j) : Pk c j k := ⟨h.kept, h.cut, Nat.le_trans h.gen (by omega), Nat.le_trans h.seq (by omega), h.left⟩
theorem Pk.crash {c : Cut} {i : Nat} {k : K} (h : Pk c i k) (f : Fate) : Pk c i { k with drive := DiskP.crash k.drive f } :=
  ⟨h.kept.crash f, h.cut, h.gen, h.seq, by show (DiskP.crash k.drive f).left = -1; rw [DiskP.crash_quiet f h.kept.log.live.may h.kept.log.quiet]⟩
theorem Pk.maxq {c : Cut} {i : Nat} {k : K} (h : Pk c i k) (hi : i ≤ 1000) : k.head.seq + k.records.length ≤ LogP.maxSeq ∧ k.records.length ≤ 1001 := by
  have := h.seq
  unfold LogP.maxSeq
  omega
theorem Pk.room {c : Cut} {i : Nat} {k : K} (h : Pk c i k) (hi : i ≤ 1000) (t : Bytes) : svRoom k t ↔ (pagesP t).length ≤ c.pages := by
  have h1 := h.gen
  have h2 := h.seq
  unfold svRoom
  rw [h.cut, kept_seq h.kept]
  unfold LogP.maxSeq
  exact ⟨fun h => h.1, fun h => ⟨h, by omega, by omega⟩⟩
theorem kept_sum {k : K} (hk : Kept k) : LogP.sum k.records ≤ 400 ∧ ∀ t ∈ k.records, t.length ≤ 4000 := by
  have h1 := hk.log.has.room
  have h2 := hk.cut.2.1
  exact ⟨by omega, fun t ht => (hk.log.has.recs t ht)⟩
theorem Pk.add {c : Cut} {i : Nat} {k k' : K} {s : Bytes} {e : Nat} (h : Pk c i k) (ha : AddE k s k' e) :
    Pk c (i + 1) k' ∧ k'.text = k.text ∧ ((e = 0 ∧ s.length ≤ 4000 ∧ LogP.sum k.records + LogP.secs s.length < c.log ∧ k'.records = k.records ++ [s]) ∨ (e = 13 ∧ s.length ≤ 4000 ∧ ¬ LogP.sum k.records + LogP.secs s.length < c.log ∧ k' = k) ∨ (e = 1 ∧ 4000 < s.length ∧ k' = k)) := by
  have hc := h.cut
  rcases ha with ⟨rfl, h1, rfl⟩ | ⟨rfl, h1, h2, rfl⟩ | ⟨rfl, h1, h2, d', l', rfl, h3, h4⟩ | ⟨_, h1, _⟩
  · exact ⟨h.le (by omega), rfl, .inr (.inr ⟨rfl, h1, rfl⟩)⟩
  · exact ⟨h.le (by omega), rfl, .inr (.inl ⟨rfl, h1, by rw [← hc]; exact h2, rfl⟩)⟩
  · refine ⟨⟨h3, h.cut, Nat.le_trans h.gen (by omega), ?_, h4 h.left⟩, rfl, .inl ⟨rfl, h1, by rw [← hc]; exact h2, rfl⟩⟩
    have := h.seq
    show k.head.seq + (k.records ++ [s]).length ≤ 1 + (i + 1)
    simp; omega
  · exact absurd h.left h1
theorem Pk.save {c : Cut} {i : Nat} {k k' : K} {t : Bytes} {e : Nat} (h : Pk c i k) (hi : i ≤ 1000) (ha : SaveE k t k' e) :
    Pk c (i + 1) k' ∧ ((e = 0 ∧ (pagesP t).length ≤ c.pages ∧ k'.text = t ∧ k'.records = []) ∨ (e = 13 ∧ ¬ (pagesP t).length ≤ c.pages ∧ k' = k)) := by
  rcases ha with ⟨rfl, h1, rfl⟩ | ⟨rfl, h1, d', rfl, h3, h4⟩ | ⟨_, _, h1, _⟩
  · exact ⟨h.le (by omega), .inr ⟨rfl, fun e => h1 ((h.room hi t).2 e), rfl⟩⟩
  · refine ⟨⟨h3, h.cut, ?_, ?_, h4 h.left⟩, .inl ⟨rfl, (h.room hi t).1 h1, rfl, rfl⟩⟩
    · have := h.gen
      show k.head.gen + 1 ≤ _
      omega
    · have h5 := h.seq
      have h6 := kept_seq h.kept
      show k.log.seq + 0 ≤ _
      omega
  · exact absurd h.left h1
/-- what stands ahead of the round i -/
def PlayR (w0 : World) (c : Cut) (i : Nat) (pv tv lv : Value) (wr : World) : Prop :=
  ∃ b k S, pv = .pointer (some ⟨b, 0, none⟩) ∧ tv = .string (mkB k.text) ∧ i ≤ 16 ∧ KM wr S b k ∧ Pk c i k ∧ wr.ownsRow w0.heap.size 9 1 lv k.records.length (secV k.records) ∧ (∀ x, S x → w0.heap.size ≤ x ∧ x < wr.heap.size ∧ lv.ownBlock ≠ some x) ∧ Below w0.heap.size w0 wr
theorem own_chg {w w' : World} {S : Nat → Prop} {base : Nat} {e : TypeId} {size n : Nat} {v : Value} {xs : List Value} (h : w.ownsRow base e size v n xs) (hc : KChg S w w') (hd : ∀ x, S x → v.ownBlock ≠ some x) : w'.ownsRow base e size v n xs :=
  own_keepK h fun g hg => hc.block g (h.lt g hg).2 fun hs => hd g hs hg
theorem flat_get {α : Type} {f : α → List Value} {sz : Nat} (hf : ∀ x, (f x).length = sz) : ∀ {l : List α} {i k : Nat} {y : α} {u : Value}, l[i]? = some y → (f y)[k]? = some u → (l.flatMap f)[i * sz + k]? = some u
  | [], i, k, y, u, h, _ => by simp at h
  | x :: l, 0, k, y, u, h, hu => by
    simp only [List.getElem?_cons_zero, Option.some.injEq] at h
    subst h
    rw [List.flatMap_cons, Nat.zero_mul, Nat.zero_add, List.getElem?_append_left (List.getElem?_eq_some_iff.1 hu).1]
    exact hu
  | x :: l, i + 1, k, y, u, h, hu => by
    rw [List.flatMap_cons, List.getElem?_append_right (by rw [hf, Nat.add_mul]; omega), hf, show (i + 1) * sz + k - sz = i * sz + k by rw [Nat.add_mul]; omega]
    exact flat_get hf (by simpa using h) hu
theorem add_step (a : Addr) (n : Nat) : a.add (n + 1) = ⟨(a.add n).block, (a.add n).off + 1, none⟩ := by
  unfold Addr.add
  split
  · split <;> simp_all <;> omega
  · split <;> simp_all <;> omega
theorem apd_chg {w w' : World} {base : Nat} {e : TypeId} {size : Nat} {v v' : Value} {n : Nat} {xs : List Value} (h : Apd w w' base e size v v' n xs) : KChg (fun x => v.ownBlock = some x) w w' :=
  ⟨h.grown.os, h.grown.tape, h.grown.output, h.grown.size, fun x hx hS => h.grown.block x hx fun e => hS e.symm⟩
/-- an act of a list in memory -/
theorem sl_act {w : World} {V : Nat → Prop} {A : Option Addr} {n i : Nat} {l : List (ByteArray × Bool)} (h : Sl w V 2 A n (l.flatMap actV)) (hi : i < n) :
    ∃ a y, A = some a ∧ y ∈ l ∧ (a.add (i * 2)).block < w.heap.size ∧ w.cell? (a.add (i * 2)) = some (.string y.1) ∧ w.cell? ⟨(a.add (i * 2)).block, (a.add (i * 2)).off + 1, none⟩ = some (.bool y.2) := by
  obtain ⟨a, e, _, hb, hc⟩ := h.2 (by omega)
  have hl : i < l.length := by have := h.1; rw [flatMap_lenB (f := actV) (sz := 2) (fun _ => rfl)] at this; omega
  have hy : l[i]? = some l[i] := List.getElem?_eq_getElem hl
  have h0 := hc _ _ (flat_get (f := actV) (sz := 2) (fun _ => rfl) hy (k := 0) (u := .string l[i].1) rfl)
  have h1 := hc _ _ (flat_get (f := actV) (sz := 2) (fun _ => rfl) hy (k := 1) (u := .bool l[i].2) rfl)
  exact ⟨a, l[i], e, List.getElem_mem hl, World.block_lt_of_cell? w _ h0, h0, by rw [← add_step]; exact h1⟩

/-- texts in memory are the same -/
theorem same_secP {A B : Option Addr} {n c d : Nat} {l : List Bytes} {V U : Nat → Prop} {w : World} (h : Sl w V 1 A n (secV l)) (g : Sl w U 1 B n (secV l)) (hn : n ≤ 1000000) :
    Calls Try.prog 21 #[.slice A n c, .slice B n d] w fun e w' => e = .returned (.bool true) ∧ ∃ q, w' = w.drewN q := by
  refine (same_any A B n n c d (l.map mkB) (l.map mkB) V U w h g (by omega)).mono ?_
  rintro e w' ⟨rfl, h⟩
  exact ⟨by simp, h⟩

set_option maxRecDepth 100000 in
set_option maxHeartbeats 12800000 in
theorem keepPlays_walk (st : ByteArray) (A0 : Option Addr) (n0 c0 : Nat) (acts : List (ByteArray × Bool)) (z : Nat) (w : World) (hst : st.size ≤ 9223372036854775807) (hs : Sl w (fun _ => True) 2 A0 n0 (acts.flatMap actV)) (hn : n0 ≤ 9223372036854775807) (hz : ∀ y ∈ acts, y.1.size ≤ 9223372036854775807) (hz8 : z ≤ 255) :
    Calls Try.prog 14 #[.string st, .slice A0 n0 c0, .int .u8 z] w fun q w' => q = .returned (.bool true) ∧ Below w.heap.size w w' := by
  have HCU := hide (cut21_any z w hz8)
  have hco := cutN_ok z
  obtain ⟨c, hcc⟩ : ∃ c, c = cutN z := ⟨_, rfl⟩
  rw [← hcc] at HCU hco
  have HT := hide (fun ww => few21_any st ww hst)
  have zT := few21_size st
  obtain ⟨t, ht⟩ : ∃ t, t = few21 st := ⟨_, rfl⟩
  rw [← ht] at HT zT
  have hfm := fun ww => km_format c t ww hco (by omega)
  have hff := fun ww => format_full c t ww hco (by omega)
  have HRP : Hid (∀ (s : ByteArray) ww, s.size ≤ 4100 → Calls Try.prog 53 #[.string s] ww fun q w' => q = .returned (.int .i64 ((pagesP (oct s)).length : Nat)) ∧ Below ww.heap.size ww w') := fun s ww hs => rpages_any s ww (by omega)
  obtain ⟨np, hnp⟩ : ∃ np, np = (pagesP (oct t)).length := ⟨_, rfl⟩
  have HRT : Hid (∀ ww, Calls Try.prog 53 #[.string t] ww fun q w' => q = .returned (.int .i64 (np : Nat)) ∧ Below ww.heap.size ww w') := fun ww => by rw [hnp]; exact rpages_any t ww (by omega)
  rw [← hnp] at hfm hff
  obtain ⟨cl, hcl⟩ : ∃ x : Int, x = (c.log : Nat) := ⟨_, rfl⟩
  obtain ⟨cp, hcp⟩ : ∃ x : Int, x = (c.pages : Nat) := ⟨_, rfl⟩
  have HFM : Hid (np ≤ c.pages → ∀ ww, Calls Try.prog 52 #[.agg #[.int .i64 cl, .int .i64 cp], .string t] ww fun q w' => ∃ b k, q = .returned (.tuple #[.pointer (some ⟨b, 0, none⟩), .int .i64 0]) ∧ KM w' (fun x => ww.heap.size ≤ x) b k ∧ Pk c 0 k ∧ k.text = oct t ∧ k.records = [] ∧ Below ww.heap.size ww w') := fun hfit ww => by
    rw [hcl, hcp]
    refine (hfm ww hfit).mono ?_
    rintro q w' ⟨b, d', h1, h2, h3, h4, _, h6⟩
    exact ⟨b, _, h1, h2, ⟨h3, rfl, Nat.le_refl _, Nat.le_refl _, h4⟩, rfl, rfl, h6⟩
  have HFF : Hid (c.pages < np → ∀ ww, Calls Try.prog 52 #[.agg #[.int .i64 cl, .int .i64 cp], .string t] ww fun q w' => q = .returned (.tuple #[.pointer none, .int .i64 13]) ∧ Below ww.heap.size ww w') := fun hfull ww => by
    rw [hcl, hcp]
    exact hff ww hfull
  rw [← hcl, ← hcp] at HCU
  have HZ := hide hz
  have HS := hide hs
  have HCP := hide hcp
  have HCL := hide hcl
  have HCO := hide hco
  have HZT := hide zT
  clear hst hs hz hz8 hco hcc zT ht hfm hff hnp hcl hcp
  go_enter Try.func14, Try.ntmps14
  go_wp2_with fail
  refine HCU.out.mono ?_
  rintro q w1 ⟨rfl, hb1⟩
  have kC2 := Box.new w1 85 #[.int .i64 cl, .int .i64 cp]
  have hb2 : Below w1.heap.size w1 (w1.alloc (.cells #[.int .i64 cl, .int .i64 cp] 85)) := (Below.refl _ _).alloc (Nat.le_refl _) _
  have hbw2 := hb1.trans (hb2.mono hb1.size)
  obtain ⟨bc, hbc⟩ : ∃ b, b = w1.heap.size := ⟨_, rfl⟩
  obtain ⟨w2, hw2⟩ : ∃ y, y = w1.alloc (.cells #[.int .i64 cl, .int .i64 cp] 85) := ⟨_, rfl⟩
  rw [← hw2] at kC2 hbw2
  rw [← hbc] at kC2
  have HW2 := hide hw2
  have HBC := hide hbc
  have HB2 := hide hbw2
  have HS2 := hide (HS.out.below hbw2)
  clear hw2 hbc hb2 hb1 hbw2 HCU HS
  go_upto_region 2 with (fail)
  rw [← HW2.out, ← HBC.out]
  clear HW2 HBC
  go_wp2_with fail
  refine (HT.out _).mono ?_
  rintro q w' ⟨rfl, rfl⟩
  obtain ⟨q0, q1⟩ := kC2.cell2
  by_cases hfit : np ≤ c.pages
  · have HF := hide (HFM.out hfit)
    have d1 : decide (cp < (np : Int)) = false := by have := HCP.out; simp; omega
    clear hfit
    go_upto_region 3 with (fail)
    go_wp2_with fail
    refine (HF.out _).mono ?_
    rintro q w3 ⟨b, k, rfl, hM, hk, htx, hrc, hb3⟩
    have kC3 := kC2.belowS hb3
    have HTX := hide (reo_text (s := t) hM htx)
    have HSS : Hid (∀ (ww : World), Below w3.heap.size w3 ww → Cut2 ww bc cl cp) := fun ww hb => (kC3.belowS hb).cell2
    have HPL : Hid (∀ ww, Below w3.heap.size w3 ww → PlayR w2 c 0 (.pointer (some ⟨b, 0, none⟩)) (.string t) (.slice none 0 0) ww) := fun ww hb =>
      ⟨b, k, _, rfl, by rw [htx, mkB_oct], by omega, (hM.now.below hb), hk, by rw [hrc]; exact ⟨rfl, .inl ⟨rfl, rfl⟩⟩, fun x hx => ⟨hx.1, Nat.lt_of_lt_of_le hx.2 hb.size, by simp [Value.ownBlock]⟩, hb3.trans (hb.mono hb3.size)⟩
    clear q0 q1 hM hk htx hrc hb3 kC3
    go_upto_region 4 with (fail)
    have hbx : Below w3.heap.size w3 w3.drew := (Below.refl _ _).drew
    go_region_held3 (fun ww => Cut2 ww bc cl cp)
      (first | (with_reducible exact (HSS.out w3 (Below.refl _ _))) | (with_reducible exact (HSS.out _ hbx)))
      (((with_reducible refine (HRT.out _).mono ?_); rintro q wp ⟨rfl, hbp⟩; have hbx := hbx.trans (hbp.mono hbx.size)))
    have HBX := hide hbx
    go_upto_region 6 with (fail)
    go_wp2_with fail
    refine (HTX.out _ HBX.out).mono ?_
    rintro q w7 ⟨rfl, rfl⟩
    have HP0 := hide (HPL.out _ HBX.out)
    clear HPL hbx HSS HTX HF
    go_upto_block 0 with (fail)
    go_cut [0, 8, 10] from 11 to 153 (fun tv pv lv wc => ∃ i, PlayR w2 c i pv tv lv wc)
    case first =>
      go_wp2_with fail
      go_loopw [0, 8, 10, 11] (fun tv pv lv iv wr => ∃ i : Nat, iv = .int .i64 i ∧ PlayR w2 c i pv tv lv wr) (fun _ _ _ iv _ => 16 - (intOf iv).toNat)
      case atStart => exact ⟨0, rfl, HP0.out⟩
      case round =>
        clear HP0
        obtain ⟨i, rfl, b, k, S, rfl, rfl, hi, hM, hk, hown, hS, hbw⟩ := hrel
        by_cases hgo : i < n0 ∧ i < 16
        · obtain ⟨h1, h2⟩ := hgo
          obtain ⟨aS, ⟨s, sv⟩, eA, hy, hltA, hc0, hc1⟩ := sl_act (HS2.out.below hbw) h1
          simp only at hc0 hc1
          have hfew := fun w2 => few21_any s w2 (HZ.out _ hy)
          have hfz := few21_size s
          obtain ⟨fs, hfs⟩ : ∃ fs, fs = few21 s := ⟨_, rfl⟩
          rw [← hfs] at hfew hfz
          obtain ⟨Al, lc, rfl⟩ := own_shape hown
          obtain ⟨nl, hnl⟩ : ∃ nl, nl = k.records.length := ⟨_, rfl⟩
          obtain ⟨kt, hkt⟩ : ∃ kt, kt = mkB k.text := ⟨_, rfl⟩
          rw [← hnl] at hown hS ⊢
          rw [← hkt]
          obtain ⟨hq1, hq2⟩ := hk.maxq (by omega)
          have HADD := hide (km_addG hM hk.kept hq1 fs (by omega) (by omega))
          have HSAV := hide (km_saveG hM hk.kept (by omega) fs (by omega))
          have HK := hide hk
          have HOWN := hide hown
          have HSS := hide hS
          have HBW := hide hbw
          have HFEW := hide hfew
          have HFZ := hide hfz
          have HNL := hide hnl
          have HKT := hide hkt
          have kCr := kC2.belowS hbw
          have HKC := hide kCr
          have d1 : decide (i < n0) = true := by simpa using h1
          have d2 : decide ((i : Int) < 16) = true := by simp; omega
          have hni : (i : Int) < (n0 : Int) := by omega
          clear hfew hfz hfs hy hM hk hown hS hbw hnl hkt hq1 hq2 kCr
          subst eA
          go_wp2_with fail
          refine (HFEW.out _).mono ?_
          rintro q w8 ⟨rfl, rfl⟩
          go_upto_if 74 with (fail)
          go_cut [0, 10, 13, 14, 15] from 75 to 116 (fun tv lv f1 f2 f3 wc => PlayR w2 c (i + 1) (.pointer (some ⟨b, 0, none⟩)) tv lv wc)
          case first =>
            cases sv with
            | true =>
              go_wp2_with fail
              refine HSAV.out.mono ?_
              rintro q wA ⟨k', e, rfl, hM', hch, hSE⟩
              obtain ⟨hk', hcase⟩ := HK.out.save (by omega) hSE
              have hlo := HOWN.out.lt
              have hS' : ∀ x, ((S x ∨ wr.heap.size ≤ x) ∧ x < wA.heap.size) → w2.heap.size ≤ x ∧ x < wA.heap.size ∧ (Value.slice Al nl lc).ownBlock ≠ some x := fun x hx => by
                refine ⟨?_, hx.2, fun e => ?_⟩
                · rcases hx.1 with h | h
                  · exact (HSS.out x h).1
                  · have := HBW.out.size; omega
                · rcases hx.1 with h | h
                  · exact (HSS.out x h).2.2 e
                  · have := (hlo x e).2; omega
              have hbA := hch.toBelow (base := w2.heap.size) (fun x hx => (HSS.out x hx).1) HBW.out.size
              have hoA := own_chg HOWN.out hch fun x hx => (HSS.out x hx).2.2
              have kCA := HKC.out.below hbA kC2.lt
              have hbwA := HBW.out.trans hbA
              have HSA : Hid (∀ (ww : World), Below wA.heap.size wA ww → Cut2 ww bc cl cp) := fun ww hb => (kCA.belowS hb).cell2
              have HR := hide (fun ww => HRP.out fs ww HFZ.out)
              obtain ⟨np2, hnp2⟩ : ∃ x, x = (pagesP (oct fs)).length := ⟨_, rfl⟩
              rw [← hnp2] at HR hcase
              have hbx : Below wA.heap.size wA wA.drew := (Below.refl _ _).drew
              rcases hcase with ⟨rfl, hfit2, htx, hrc⟩ | ⟨rfl, hno, rfl⟩
              · have HPL : Hid (∀ ww, Below wA.heap.size wA ww → PlayR w2 c (i + 1) (.pointer (some ⟨b, 0, none⟩)) (.string fs) (.slice none 0 0) ww) := fun ww hb =>
                  ⟨b, k', _, rfl, by rw [htx, mkB_oct], by omega, hM'.now.below hb, hk', by rw [hrc]; exact ⟨rfl, .inl ⟨rfl, rfl⟩⟩, fun x hx => ⟨(hS' x hx).1, Nat.lt_of_lt_of_le hx.2 hb.size, by simp [Value.ownBlock]⟩, hbwA.trans (hb.mono hbwA.size)⟩
                have c1 : (np2 : Int) ≤ cp := by have := HCP.out; omega
                have c2 : decide (cp < (np2 : Int)) = false := by simp; omega
                have c3 : decide ((np2 : Int) ≤ cp) = true := by simpa using c1
                clear hM' hch hSE hk' hS' hbA hoA kCA hbwA hfit2 htx hrc hnp2 hlo
                rw [show ((0 : Nat) : Int) = 0 from rfl]
                go_upto_region 15 with (fail)
                refine wp_region_noPanic ?_
                have hS := HSA.out wA.drew hbx
                refine RegE.begin_ (n := 15) (S := fun ww => Cut2 ww bc cl cp) (by kernel_rfl) (by kernel_rfl) (by kernel_rfl) ?_
                refine RegE.take (i := 0) (v := ?va0) rfl (by kernel_rfl) (by kernel_rfl) rfl (by kernel_rfl) (by kernel_rfl) (by kernel_rfl) (fun _ _ _ h => h) (Or.inl ⟨by first | rfl | simp [Region.wanted, yielded], ?ya0⟩) hS ?ra0
                case ya0 => intro ww hSw; obtain ⟨hs1, hs2⟩ := hSw; (go_simp <;> with_reducible rfl)
                try simp only [Act.put, List.getElem_toArray, List.getElem_cons_zero, List.setIfInBounds_toArray, List.set_cons_zero, List.set_cons_succ]
                refine RegE.take (i := 1) (v := ?va1) rfl (by kernel_rfl) (by kernel_rfl) rfl (by kernel_rfl) (by kernel_rfl) (by kernel_rfl) (fun _ _ _ h => h) (Or.inl ⟨by first | rfl | simp [Region.wanted, yielded], ?ya1⟩) hS ?ra1
                case ya1 => intro ww hSw; obtain ⟨hs1, hs2⟩ := hSw; (go_simp <;> with_reducible rfl)
                try simp only [Act.put, List.getElem_toArray, List.getElem_cons_zero, List.getElem_cons_succ, List.setIfInBounds_toArray, List.set_cons_zero, List.set_cons_succ]
                refine RegE.take (i := 2) (v := ?va2) rfl (by kernel_rfl) (by kernel_rfl) rfl (by kernel_rfl) (by kernel_rfl) (by kernel_rfl) (fun _ _ _ h => h) (Or.inl ⟨by first | rfl | simp [Region.wanted, yielded], ?ya2⟩) hS ?ra2
                case ya2 => intro ww hSw; obtain ⟨hs1, hs2⟩ := hSw; (go_simp <;> with_reducible rfl)
                try simp only [Act.put, List.getElem_toArray, List.getElem_cons_zero, List.getElem_cons_succ, List.setIfInBounds_toArray, List.set_cons_zero, List.set_cons_succ]
                refine RegE.take (i := 4) (v := ?va4) rfl (by kernel_rfl) (by kernel_rfl) rfl (by kernel_rfl) (by kernel_rfl) (by kernel_rfl) (fun _ _ _ h => h) (Or.inl ⟨by first | rfl | simp [Region.wanted, yielded], ?ya4⟩) hS ?ra4
                case ya4 => intro ww hSw; obtain ⟨hs1, hs2⟩ := hSw; (go_simp <;> with_reducible rfl)
                try simp only [Act.put, List.getElem_toArray, List.getElem_cons_zero, List.getElem_cons_succ, List.setIfInBounds_toArray, List.set_cons_zero, List.set_cons_succ]
                refine RegE.take (i := 5) (v := ?va5) rfl (by kernel_rfl) (by kernel_rfl) rfl (by kernel_rfl) (by kernel_rfl) (by kernel_rfl) (fun _ _ _ h => h) (Or.inl ⟨by first | rfl | simp [Region.wanted, yielded], ?ya5⟩) hS ?ra5
                case ya5 => intro ww hSw; obtain ⟨hs1, hs2⟩ := hSw; (go_simp <;> with_reducible rfl)
                try simp only [Act.put, List.getElem_toArray, List.getElem_cons_zero, List.getElem_cons_succ, List.setIfInBounds_toArray, List.set_cons_zero, List.set_cons_succ]
                refine RegE.step (i := 3) rfl (by kernel_rfl) rfl (fun K hK => ?_)
                go_simp
                refine (HR.out _).mono ?_
                rintro q wp ⟨rfl, hbp⟩
                have hbx := hbx.trans (hbp.mono hbx.size)
                have hS := HSA.out _ hbx
                refine hK _ _ hS ?_
                clear hK K
                try simp only [Act.put, List.getElem_toArray, List.getElem_cons_zero, List.getElem_cons_succ, List.setIfInBounds_toArray, List.set_cons_zero, List.set_cons_succ]
                refine RegE.take (i := 6) (v := ?va6) rfl (by kernel_rfl) (by kernel_rfl) rfl (by kernel_rfl) (by kernel_rfl) (by kernel_rfl) (fun _ _ _ h => h) (Or.inl ⟨by first | rfl | simp [Region.wanted, yielded], ?ya6⟩) hS ?ra6
                case ya6 => intro ww hSw; obtain ⟨hs1, hs2⟩ := hSw; (go_simp <;> with_reducible rfl)
                try simp only [Act.put, List.getElem_toArray, List.getElem_cons_zero, List.getElem_cons_succ, List.setIfInBounds_toArray, List.set_cons_zero, List.set_cons_succ]
                refine RegE.take (i := 7) (v := ?va7) rfl (by kernel_rfl) (by kernel_rfl) rfl (by kernel_rfl) (by kernel_rfl) (by kernel_rfl) (fun _ _ _ h => h) (Or.inl ⟨by first | rfl | simp [Region.wanted, yielded], ?ya7⟩) hS ?ra7
                case ya7 => intro ww hSw; obtain ⟨hs1, hs2⟩ := hSw; (go_simp <;> with_reducible rfl)
                try simp only [Act.put, List.getElem_toArray, List.getElem_cons_zero, List.getElem_cons_succ, List.setIfInBounds_toArray, List.set_cons_zero, List.set_cons_succ]
                refine RegE.take (i := 8) (v := ?va8) rfl (by kernel_rfl) (by kernel_rfl) rfl (by kernel_rfl) (by kernel_rfl) (by kernel_rfl) (fun _ _ _ h => h) (Or.inl ⟨by first | rfl | simp [Region.wanted, yielded], ?ya8⟩) hS ?ra8
                case ya8 => intro ww hSw; obtain ⟨hs1, hs2⟩ := hSw; (go_simp <;> with_reducible rfl)
                try simp only [Act.put, List.getElem_toArray, List.getElem_cons_zero, List.getElem_cons_succ, List.setIfInBounds_toArray, List.set_cons_zero, List.set_cons_succ]
                refine RegE.take (i := 9) (v := ?va9) rfl (by kernel_rfl) (by kernel_rfl) rfl (by kernel_rfl) (by kernel_rfl) (by kernel_rfl) (fun _ _ _ h => h) (Or.inl ⟨by first | rfl | simp [Region.wanted, yielded], ?ya9⟩) hS ?ra9
                case ya9 => intro ww hSw; obtain ⟨hs1, hs2⟩ := hSw; (go_simp <;> with_reducible rfl)
                try simp only [Act.put, List.getElem_toArray, List.getElem_cons_zero, List.getElem_cons_succ, List.setIfInBounds_toArray, List.set_cons_zero, List.set_cons_succ]
                refine RegE.take (i := 10) (v := ?va10) rfl (by kernel_rfl) (by kernel_rfl) rfl (by kernel_rfl) (by kernel_rfl) (by kernel_rfl) (fun _ _ _ h => h) (Or.inl ⟨by first | rfl | simp [Region.wanted, yielded], ?ya10⟩) hS ?ra10
                case ya10 => intro ww hSw; obtain ⟨hs1, hs2⟩ := hSw; (go_simp <;> with_reducible rfl)
                try simp only [Act.put, List.getElem_toArray, List.getElem_cons_zero, List.getElem_cons_succ, List.setIfInBounds_toArray, List.set_cons_zero, List.set_cons_succ]
                refine RegE.take (i := 11) (v := ?va11) rfl (by kernel_rfl) (by kernel_rfl) rfl (by kernel_rfl) (by kernel_rfl) (by kernel_rfl) (fun _ _ _ h => h) (Or.inl ⟨by first | rfl | simp [Region.wanted, yielded], ?ya11⟩) hS ?ra11
                case ya11 => intro ww hSw; obtain ⟨hs1, hs2⟩ := hSw; (go_simp <;> with_reducible rfl)
                try simp only [Act.put, List.getElem_toArray, List.getElem_cons_zero, List.getElem_cons_succ, List.setIfInBounds_toArray, List.set_cons_zero, List.set_cons_succ]
                refine RegE.take (i := 12) (v := undef) rfl (by kernel_rfl) (by kernel_rfl) rfl (by kernel_rfl) (by kernel_rfl) (by kernel_rfl) (fun _ _ _ h => h) (Or.inr ⟨by first | rfl | simp [Region.wanted, yielded], rfl⟩) hS ?ra12
                try simp only [Act.put, List.getElem_toArray, List.getElem_cons_zero, List.getElem_cons_succ, List.setIfInBounds_toArray, List.set_cons_zero, List.set_cons_succ]
                refine RegE.take (i := 13) (v := undef) rfl (by kernel_rfl) (by kernel_rfl) rfl (by kernel_rfl) (by kernel_rfl) (by kernel_rfl) (fun _ _ _ h => h) (Or.inr ⟨by first | rfl | simp [Region.wanted, yielded], rfl⟩) hS ?ra13
                try simp only [Act.put, List.getElem_toArray, List.getElem_cons_zero, List.getElem_cons_succ, List.setIfInBounds_toArray, List.set_cons_zero, List.set_cons_succ]
                refine RegE.take (i := 14) (v := ?va14) rfl (by kernel_rfl) (by kernel_rfl) rfl (by kernel_rfl) (by kernel_rfl) (by kernel_rfl) (fun _ _ _ h => h) (Or.inl ⟨by first | rfl | simp [Region.wanted, yielded], ?ya14⟩) hS ?ra14
                case ya14 => intro ww hSw; obtain ⟨hs1, hs2⟩ := hSw; (go_simp <;> with_reducible rfl)
                try simp only [Act.put, List.getElem_toArray, List.getElem_cons_zero, List.getElem_cons_succ, List.setIfInBounds_toArray, List.set_cons_zero, List.set_cons_succ]
                have HF := hide (HPL.out _ hbx)
                clear HPL
                obtain ⟨hs1, hs2⟩ := hS
                refine RegE.done rfl (by kernel_rfl) (fun K hK => ?_)
                go_simp
                refine hK _ _ ?_
                clear hK K hs1 hs2 hbx
                refine NoPanic.normal ?_
                try simp only [Act.put, List.getElem_toArray, List.getElem_cons_zero, List.getElem_cons_succ, List.setIfInBounds_toArray, List.set_cons_zero, List.set_cons_succ]
                go_wp2_with fail
                go_meet
                exact HF.out
              · have HPL : Hid (∀ ww, Below wA.heap.size wA ww → PlayR w2 c (i + 1) (.pointer (some ⟨b, 0, none⟩)) (.string kt) (.slice Al nl lc) ww) := fun ww hb =>
                  ⟨b, k', _, rfl, by rw [HKT.out], by omega, hM'.now.below hb, hk', by rw [← HNL.out]; exact own_below hoA hb, fun x hx => ⟨(hS' x hx).1, Nat.lt_of_lt_of_le hx.2 hb.size, (hS' x hx).2.2⟩, hbwA.trans (hb.mono hbwA.size)⟩
                have c1 : ¬ (np2 : Int) ≤ cp := by have := HCP.out; omega
                have c2 : decide (cp < (np2 : Int)) = true := by simp; omega
                have c3 : decide ((np2 : Int) ≤ cp) = false := by simpa using c1
                clear hM' hch hSE hk' hS' hbA hoA kCA hbwA hno hnp2 hlo
                rw [show ((13 : Nat) : Int) = 13 from rfl]
                go_upto_region 15 with (fail)
                go_region_held3 (fun ww => Cut2 ww bc cl cp)
                  (first | (with_reducible exact (HSA.out wA (Below.refl _ _))) | (with_reducible exact (HSA.out _ hbx)))
                  (((with_reducible refine (HR.out _).mono ?_); rintro q wp ⟨rfl, hbp⟩; have hbx := hbx.trans (hbp.mono hbx.size)))
                have HF := hide (HPL.out _ hbx)
                clear HPL hbx
                go_wp2_with fail
                go_meet
                exact HF.out
            | false =>
              go_wp2_with fail
              refine HADD.out.mono ?_
              rintro q wA ⟨k', e, rfl, hM', hch, hAE⟩
              obtain ⟨hk', htx, hcase⟩ := HK.out.add hAE
              have hlo := HOWN.out.lt
              have hS' : ∀ x, ((S x ∨ wr.heap.size ≤ x) ∧ x < wA.heap.size) → w2.heap.size ≤ x ∧ x < wA.heap.size ∧ (Value.slice Al nl lc).ownBlock ≠ some x := fun x hx => by
                refine ⟨?_, hx.2, fun e => ?_⟩
                · rcases hx.1 with h | h
                  · exact (HSS.out x h).1
                  · have := HBW.out.size; omega
                · rcases hx.1 with h | h
                  · exact (HSS.out x h).2.2 e
                  · have := (hlo x e).2; omega
              have hbA := hch.toBelow (base := w2.heap.size) (fun x hx => (HSS.out x hx).1) HBW.out.size
              have hoA := own_chg HOWN.out hch fun x hx => (HSS.out x hx).2.2
              have kCA := HKC.out.below hbA kC2.lt
              have hbwA := HBW.out.trans hbA
              obtain ⟨hs4, hz4⟩ := kept_sum HK.out.kept
              have hrm := room_any c Al nl lc k.records fs _ wA (Sl.of_own hoA) (by omega) (fun t ht => by have := hz4 t ht; omega) (by have := HFZ.out; omega) (by rw [HNL.out]; have := (HK.out.maxq (by omega)).2; omega) HCO.out
              rw [← HCL.out, ← HCP.out] at hrm
              obtain ⟨q0, q1⟩ := kCA.cell2
              have hoA' : wA.ownsRow w2.heap.size 9 1 (.slice Al nl lc) nl (strs (k.records.map mkB)) := hoA
              have hfl := oct_length fs
              have hrz := (HK.out.maxq (by omega)).2
              rw [← HNL.out] at hrz
              rcases hcase with ⟨rfl, h4, hroom, hrc⟩ | ⟨rfl, h4, hroom, rfl⟩ | ⟨rfl, h4, rfl⟩
              · rw [hfl] at h4 hroom
                rw [decide_eq_true hroom] at hrm
                have HRM := hide hrm
                have HOA := hide hoA'
                have HS' := hide hS'
                have HM' := hide hM'
                have HK' := hide hk'
                have HTX := hide htx
                have HRC := hide hrc
                have HBWA := hide hbwA
                have c4 : ¬ (4000 : Int) < (fs.size : Int) := by omega
                have hrl : nl ≤ 1000000000000 := by omega
                clear hM' hch hAE hk' hS' hbA hoA hoA' kCA hbwA htx hrc hlo hrm hroom h4 hfl hs4 hz4 hrz
                rw [show ((0 : Nat) : Int) = 0 from rfl]
                go_wp2_with fail
                refine HRM.out.mono ?_
                rintro q wB ⟨rfl, hbB⟩
                have hoB := own_below HOA.out hbB
                have hbwB := HBWA.out.trans (hbB.mono HBWA.out.size)
                have hszB := hbwB.size
                have HBB := hide hbB
                clear hbB q0 q1
                go_wp2_with (at_builtin; refine wp_app_str rfl _ _ rfl w2.heap.size _ _ _ hoB rfl fs rfl hrl hszB ?_; intro lv' wC hA)
                have hbC := hA.below hoB hbwB (Nat.le_refl _) hszB
                have hown' := hA.own
                rw [secV_snoc2] at hown'
                have hMC := (HM'.out.now.below HBB.out).other (apd_chg hA) fun x hx e => (HS'.out x hx).2.2 e
                have hgs := hA.grown.size
                have hbs := HBB.out.size
                have hat := hA.at_
                have HF : Hid (PlayR w2 c (i + 1) (.pointer (some ⟨b, 0, none⟩)) (.string kt) lv' wC) := by
                  refine ⟨b, k', _, rfl, by rw [HTX.out, HKT.out], by omega, hMC, HK'.out, ?_, fun x hx => ⟨(HS'.out x hx).1, ?_, fun e => ?_⟩, hbC⟩
                  · rw [HRC.out, List.length_append, List.length_singleton, ← HNL.out]
                    exact hown'
                  · have := (HS'.out x hx).2.1; omega
                  · rcases hat with h | ⟨g, h, hg⟩
                    · exact (HS'.out x hx).2.2 (h ▸ e)
                    · rw [h] at e
                      injection e with e
                      have := (HS'.out x hx).2.1
                      omega
                clear hMC hown' hA hbC hoB hbwB hszB hgs hbs hat
                go_wp2_with fail
                go_meet
                exact HF.out
              · rw [hfl] at h4 hroom
                rw [decide_eq_false hroom] at hrm
                have HRM := hide hrm
                have HPL : Hid (∀ ww, Below wA.heap.size wA ww → PlayR w2 c (i + 1) (.pointer (some ⟨b, 0, none⟩)) (.string kt) (.slice Al nl lc) ww) := fun ww hb =>
                  ⟨b, k', _, rfl, by rw [HKT.out], by omega, hM'.now.below hb, hk', by rw [← HNL.out]; exact own_below hoA hb, fun x hx => ⟨(hS' x hx).1, Nat.lt_of_lt_of_le hx.2 hb.size, (hS' x hx).2.2⟩, hbwA.trans (hb.mono hbwA.size)⟩
                have c4 : ¬ (4000 : Int) < (fs.size : Int) := by omega
                clear hM' hch hAE hk' hS' hbA hoA hoA' kCA hbwA htx hlo hrm hroom h4 hfl hs4 hz4 hrz
                rw [show ((13 : Nat) : Int) = 13 from rfl]
                go_wp2_with fail
                refine HRM.out.mono ?_
                rintro q wB ⟨rfl, hbB⟩
                have HF := hide (HPL.out _ hbB)
                clear hbB q0 q1 HPL
                go_wp2_with fail
                go_meet
                exact HF.out
              · rw [hfl] at h4
                obtain ⟨bq, hbq⟩ : ∃ bq, decide (LogP.sum k'.records + LogP.secs fs.size < c.log) = bq := ⟨_, rfl⟩
                rw [hbq] at hrm
                have HRM := hide hrm
                have HPL : Hid (∀ ww, Below wA.heap.size wA ww → PlayR w2 c (i + 1) (.pointer (some ⟨b, 0, none⟩)) (.string kt) (.slice Al nl lc) ww) := fun ww hb =>
                  ⟨b, k', _, rfl, by rw [HKT.out], by omega, hM'.now.below hb, hk', by rw [← HNL.out]; exact own_below hoA hb, fun x hx => ⟨(hS' x hx).1, Nat.lt_of_lt_of_le hx.2 hb.size, (hS' x hx).2.2⟩, hbwA.trans (hb.mono hbwA.size)⟩
                have c4 : (4000 : Int) < (fs.size : Int) := by omega
                clear hM' hch hAE hk' hS' hbA hoA hoA' kCA hbwA htx hlo hrm hbq h4 hfl hs4 hz4 hrz
                rw [show ((1 : Nat) : Int) = 1 from rfl]
                go_wp2_with fail
                refine HRM.out.mono ?_
                rintro q wB ⟨rfl, hbB⟩
                have HF := hide (HPL.out _ hbB)
                clear hbB q0 q1 HPL
                cases bq with
                | true =>
                  go_wp2_with fail
                  go_meet
                  exact HF.out
                | false =>
                  go_wp2_with fail
                  go_meet
                  exact HF.out
          case rest =>
            clear HADD HSAV HOWN HSS HBW HKC HNL HKT HFEW d1 d2 hni hc0 hc1 hltA
            revert wc
            intro wL hcut
            obtain ⟨b', k', S', hpv, rfl, hi', hM, hk, hown, hS, hbw⟩ := hcut
            obtain rfl : b = b' := by injection hpv with h; injection h with h; injection h
            obtain ⟨Bl, mc, rfl⟩ := own_shape hown
            obtain ⟨rn, hrn⟩ : ∃ rn, rn = k'.records.length := ⟨_, rfl⟩
            obtain ⟨kx, hkx⟩ : ∃ kx, kx = mkB k'.text := ⟨_, rfl⟩
            obtain ⟨gn, hgn⟩ : ∃ gn : Int, gn = (k'.head.gen : Nat) := ⟨_, rfl⟩
            have hrz : rn ≤ 1000000 := by have := (hk.maxq (by omega)).2; omega
            rw [← hrn] at hown ⊢
            rw [← hkx]
            have HTX := hide (reo_text (s := kx) hM (by rw [hkx, oct_mkB]))
            have HRC := hide (reo_records hM (by rw [← hrn]; exact hrz) rfl hrn)
            have HSM : Hid (∀ ww (V : Nat → Prop) X xc, Below wL.heap.size wL ww → Sl ww V 1 X rn (secV k'.records) → Calls Try.prog 21 #[.slice X rn xc, .slice Bl rn mc] ww fun e w' => e = .returned (.bool true) ∧ ∃ q, w' = ww.drewN q) := fun ww V X xc hb h => same_secP h ((Sl.of_own hown).below hb) hrz
            have HALL := hide (And.intro hM (And.intro hk (And.intro hown (And.intro hS hbw))))
            have HEQ := hide (And.intro hrn (And.intro hkx hgn))
            have hbw9 := hbw
            have HKC := hide (kC2.belowS hbw)
            clear hpv hM hk hown hS hbw hrn hkx hgn hrz
            go_upto_region 29 with (fail)
            go_wp2_with fail
            refine (HTX.out _ (Below.refl _ _)).mono ?_
            rintro q w8 ⟨rfl, rfl⟩
            go_wp2_with fail
            refine (HRC.out _ (Below.refl _ _)).mono ?_
            rintro q w9 ⟨X, xc, rfl, hsX, hb9⟩
            have HSM1 := hide (HSM.out w9 _ X xc hb9 hsX)
            clear hsX HTX HRC HSM
            go_wp2_with fail
            refine HSM1.out.mono ?_
            rintro q w10 ⟨rfl, nq, rfl⟩
            have hbS : Below w8.heap.size w8 (w9.drewN nq) := hb9.trans (below_drewN (Below.refl _ _) nq)
            obtain ⟨wS, hwS⟩ : ∃ y, y = w9.drewN nq := ⟨_, rfl⟩
            rw [← hwS] at hbS ⊢
            have HBS := hide hbS
            obtain ⟨r, hr⟩ : ∃ r, r = fs.size % 3 := ⟨_, rfl⟩
            have er : (fs.size : Int).tmod 3 = (r : Int) := by rw [hr]; rfl
            obtain ⟨bq, hq1, hq2, hq3⟩ : ∃ bq : Bool, decide ((r : Int) = 0) = bq ∧ ((r : Int) == 0) = bq ∧ decide (r = 0) = bq := by
              by_cases h0 : r = 0
              · exact ⟨true, by simpa using h0, by simpa using h0, by simpa using h0⟩
              · exact ⟨false, by simpa using h0, by simpa using h0, by simpa using h0⟩
            clear hr hwS hb9 hbS HSM1
            go_upto_if 131 with (fail)
            clear er hq1 hq2 hq3
            cases bq with
            | true =>
              go_upto_region 32 with (fail)
              obtain ⟨hM, hk, hown, hS, hbw⟩ := HALL.out
              have hMS := hM.below HBS.out
              have hk5 := hk.crash ⟨[], 0, 0⟩
              obtain ⟨k5, hk5e⟩ : ∃ k5 : K, k5 = { k' with drive := DiskP.crash k'.drive ⟨[], 0, 0⟩ } := ⟨_, rfl⟩
              have g1 : k5.drive = DiskP.crash k'.drive ⟨[], 0, 0⟩ := by rw [hk5e]
              have g2 : k5.text = k'.text := by rw [hk5e]
              have g3 : k5.records = k'.records := by rw [hk5e]
              have g4 : k5.head.gen = k'.head.gen := by rw [hk5e]
              rw [← hk5e] at hk5
              have HDI := hide (reo_disk hMS)
              have HCR := hide (reo_crash0 hk.kept.log.live.may g1)
              have HOP5 := hide (reo_open (cl := cl) (cp := cp) hk5.kept (by rw [hk5.cut, HCL.out]) (by rw [hk5.cut, HCP.out]))
              have kCS := HKC.out.belowS HBS.out
              have HSS : Hid (∀ (ww : World), Below wS.heap.size wS ww → Cut2 ww bc cl cp) := fun ww hb => (kCS.belowS hb).cell2
              have HG5 := hide (And.intro hk5 (And.intro g2 (And.intro g3 g4)))
              clear hM hk hown hS hbw hMS hk5 hk5e g1 g2 g3 g4 kCS
              have hbx : Below wS.heap.size wS wS.drew := (Below.refl _ _).drew
              go_region_held3 (fun ww => Cut2 ww bc cl cp)
                (first | (with_reducible exact (HSS.out wS (Below.refl _ _))) | (with_reducible exact (HSS.out _ hbx)))
                (first
                  | ((with_reducible refine (HDI.out _ hbx).mono ?_); rintro q wn ⟨A4, n4, c4, B4, m4, x4, rfl, hD4, hbn⟩; have hbx := hbx.trans (hbn.mono hbx.size); have HD4 := hide hD4; clear hD4)
                  | ((with_reducible refine (HCR.out _ _ _ _ _ _ _ HD4.out).mono ?_); rintro q wm ⟨A5, n5, c5, B5, m5, x5, rfl, hD5, hbm⟩; have hz5 := hbx.size; have hbx := hbx.trans (hbm.mono hbx.size); have HD5 := hide hD5; clear hD5)
                  | ((with_reducible refine (HOP5.out _ _ _ _ _ _ _ _ HD5.out).mono ?_); rintro q wo5 ⟨b5, rfl, hM5, hbl5, hbo⟩; have hz6 := hbx.size; have hbx := hbx.trans (hbo.mono hbx.size)))
              have hM5' : KM wo5 (fun x => wS.heap.size ≤ x) b5 k5 := hM5.mono fun x hx hl => by rcases hx with h | h <;> omega
              obtain ⟨hk5, g2, g3, g4⟩ := HG5.out
              obtain ⟨e1, e2, e3⟩ := HEQ.out
              have HGO := hide (reo_gen (g := gn) hM5' (by rw [g4, e3]))
              have HGK := hide (reo_gen (g := gn) ((HALL.out.1.below HBS.out).below hbx) e3.symm)
              have HF : Hid (PlayR w2 c (i + 1) (.pointer (some ⟨b5, 0, none⟩)) (.string kx) (.slice Bl rn mc) wo5) := by
                obtain ⟨hM, hk, hown, hS, hbw⟩ := HALL.out
                have hbL := HBS.out.trans (hbx.mono HBS.out.size)
                have hlo := hown.lt
                exact ⟨b5, k5, _, rfl, by rw [g2, e2], hi', hM5'.now, hk5, by rw [g3, ← e1]; exact own_below hown hbL, fun x hx => ⟨by have := hbw.size; have := HBS.out.size; omega, hx.2, fun e => by have := (hlo x e).2; have := HBS.out.size; omega⟩, hbw.trans (hbL.mono hbw.size)⟩
              clear hM5 hM5' hbl5 hz5 hz6 hbo hbn hbm HD4 HD5 HDI HCR HOP5 HSS hk5 g2 g3 g4 e1 e2 e3 HG5 hbx
              go_upto_region 33 with (fail)
              go_wp2_with fail
              refine (HGO.out _ (Below.refl _ _)).mono ?_
              rintro q w8 ⟨rfl, rfl⟩
              go_wp2_with fail
              refine (HGK.out _ (Below.refl _ _)).mono ?_
              rintro q w8 ⟨rfl, rfl⟩
              go_wp2_with fail
              go_roundw
              case rel => exact ⟨i + 1, by go_num, HF.out⟩
              case measure => simp [intOf]; omega
            | false =>
              have HF : Hid (PlayR w2 c (i + 1) (.pointer (some ⟨b, 0, none⟩)) (.string kx) (.slice Bl rn mc) wS) := by
                obtain ⟨hM, hk, hown, hS, hbw⟩ := HALL.out
                obtain ⟨e1, e2, e3⟩ := HEQ.out
                exact ⟨b, k', S', rfl, by rw [e2], hi', hM.below HBS.out, hk, by rw [← e1]; exact own_below hown HBS.out, fun x hx => ⟨(hS x hx).1, Nat.lt_of_lt_of_le (hS x hx).2.1 HBS.out.size, by rw [e1]; exact (hS x hx).2.2⟩, hbw.trans (HBS.out.mono hbw.size)⟩
              go_wp2_with fail
              go_roundw
              case rel => exact ⟨i + 1, by go_num, HF.out⟩
              case measure => simp [intOf]; omega
        · have HE : Hid (PlayR w2 c i (.pointer (some ⟨b, 0, none⟩)) (.string (mkB k.text)) u10 wr) := ⟨b, k, S, rfl, rfl, hi, hM, hk, hown, hS, hbw⟩
          by_cases h1 : i < n0
          · have d1 : decide (i < n0) = true := by simpa using h1
            have d2 : decide ((i : Int) < 16) = false := by simp; omega
            clear hgo h1 hM hk hown hS hbw hi
            go_wp2_with fail
            go_meet
            exact ⟨i, HE.out⟩
          · have d1 : decide (i < n0) = false := by simpa using h1
            clear hgo h1 hM hk hown hS hbw hi
            go_wp2_with fail
            go_meet
            exact ⟨i, HE.out⟩
    case rest =>
      clear HP0 HS2 HZ
      revert wc
      intro wL hcut
      obtain ⟨i, b, k, S, rfl, rfl, hi, hM, hk, hown, hS, hbw⟩ := hcut
      obtain ⟨Bl, mc, rfl⟩ := own_shape hown
      obtain ⟨rn, hrn⟩ : ∃ rn, rn = k.records.length := ⟨_, rfl⟩
      obtain ⟨kx, hkx⟩ : ∃ kx, kx = mkB k.text := ⟨_, rfl⟩
      have hrz : rn ≤ 1000000 := by have := (hk.maxq (by omega)).2; omega
      rw [← hrn] at hown ⊢
      rw [← hkx]
      have HTX := hide (reo_text (s := kx) hM (by rw [hkx, oct_mkB]))
      have HRC := hide (reo_records hM (by rw [← hrn]; exact hrz) rfl hrn)
      have HSM : Hid (∀ ww (V : Nat → Prop) X xc, Below wL.heap.size wL ww → Sl ww V 1 X rn (secV k.records) → Calls Try.prog 21 #[.slice X rn xc, .slice Bl rn mc] ww fun e w' => e = .returned (.bool true) ∧ ∃ q, w' = ww.drewN q) := fun ww V X xc hb h => same_secP h ((Sl.of_own hown).below hb) hrz
      have HSZ := hide (size_any cl cp)
      have HSR := hide (rsize_any cl cp)
      have kCL := kC2.belowS hbw
      have HSS : Hid (∀ (ww : World), Below wL.heap.size wL ww → Cut2 ww bc cl cp) := fun ww hb => (kCL.belowS hb).cell2
      obtain ⟨sz, hsz⟩ : ∃ sz, sz = sizeI cl cp := ⟨_, rfl⟩
      rw [← hsz] at HSZ HSR
      have HBWL := hide (HB2.out.trans (hbw.mono HB2.out.size))
      clear hM hk hown hS hbw hrn hkx hrz kCL hi hsz
      go_upto_region 36 with (fail)
      have hbx : Below wL.heap.size wL wL.drew := (Below.refl _ _).drew
      go_region_held3 (fun ww => Cut2 ww bc cl cp)
        (first | (with_reducible exact (HSS.out wL (Below.refl _ _))) | (with_reducible exact (HSS.out _ hbx)))
        (first
          | ((with_reducible refine (HTX.out _ hbx).mono ?_); rintro q w7 ⟨rfl, rfl⟩)
          | ((with_reducible refine (HRC.out _ hbx).mono ?_); rintro q w8 ⟨X, xc, rfl, hsX, hb8⟩; have hbx := hbx.trans (hb8.mono hbx.size); have HX := hide hsX; clear hsX)
          | ((with_reducible refine (HSM.out _ _ _ _ hbx HX.out).mono ?_); rintro q w9 ⟨rfl, nq, rfl⟩; have hbx := below_drewN hbx nq)
          | ((with_reducible refine (HSZ.out _).mono ?_); rintro q wz ⟨rfl, hbz⟩; have hbx := hbx.trans (hbz.mono hbx.size))
          | ((with_reducible refine (HSR.out _).mono ?_); rintro q wy ⟨rfl, hby⟩; have hbx := hbx.trans (hby.mono hbx.size))
          | ((with_reducible refine (awake21_any _).mono ?_); rintro q wv ⟨rfl, hbv⟩; have hbx := hbx.trans (hbv.mono hbx.size)))
      go_wp2_with fail
      go_ret
      exact ⟨rfl, HBWL.out.trans (hbx.mono HBWL.out.size)⟩
  · have HF := hide (HFF.out (by omega))
    have d1 : decide (cp < (np : Int)) = true := by have := HCP.out; simp; omega
    clear hfit
    go_upto_region 3 with (fail)
    go_wp2_with fail
    refine (HF.out _).mono ?_
    rintro q w3 ⟨rfl, hb3⟩
    have kC3 := kC2.belowS hb3
    have HSS : Hid (∀ (ww : World), Below w3.heap.size w3 ww → Cut2 ww bc cl cp) := fun ww hb => (kC3.belowS hb).cell2
    have hbw3 := HB2.out.trans (hb3.mono HB2.out.size)
    clear q0 q1 hb3 kC3
    go_upto_region 4 with (fail)
    have hbx : Below w3.heap.size w3 w3.drew := (Below.refl _ _).drew
    go_region_held3 (fun ww => Cut2 ww bc cl cp)
      (first | (with_reducible exact (HSS.out w3 (Below.refl _ _))) | (with_reducible exact (HSS.out _ hbx)))
      (((with_reducible refine (HRT.out _).mono ?_); rintro q wp ⟨rfl, hbp⟩; have hbx := hbx.trans (hbp.mono hbx.size)))
    have HBX := hide (hbw3.trans (hbx.mono hbw3.size))
    clear hbx
    go_wp2_with fail
    refine (awake21_any _).mono ?_
    rintro q w9 ⟨rfl, hb9⟩
    have HBE := hide (HBX.out.trans (hb9.mono HBX.out.size))
    clear hb9
    go_wp2_with fail
    go_ret
    exact ⟨rfl, HBE.out⟩
end Go.Proofs.Yteoiadfcchalfaa

