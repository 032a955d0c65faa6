/- The walk of KeepLikewise. (printed by lk.py) -/
import Derived.Test.YteoiadfcchalfaaKeepS
import Derived.Test.YteoiadfcchalfaaLogBackW
namespace Go.Proofs.Yteoiadfcchalfaa
open Go.RowKit
open DiskP (Bytes Disk Wr Fate noughts)
open KeepP (Cut Head K Kept okC okH pagesP saveP beginP openP)
open LogP (Log zeroL Live okL Holds)
set_option linter.unusedVariables false

/-- what an Add answers where no budget is set -/
def addQ (l : List Bytes) (lg : Nat) (s : Bytes) : Nat := if 4000 < s.length then 1 else if LogP.sum l + LogP.secs s.length < lg then 0 else 13
/-- what is kept while nothing was saved -/
structure Lk (c : Cut) (i : Nat) (k : K) : Prop where
  kept : Kept k
  cut : k.cut = c
  gen : k.head.gen = 1
  seq : k.head.seq = 1
  few : k.records.length ≤ i
  left : k.drive.left = -1
theorem Lk.le {c : Cut} {i j : Nat} {k : K} (h : Lk c i k) (hi : i ≤ j) : Lk c j k := ⟨h.kept, h.cut, h.gen, h.seq, Nat.le_trans h.few hi, h.left⟩
theorem Lk.crash {c : Cut} {i : Nat} {k : K} (h : Lk c i k) (f : Fate) : Lk c i { k with drive := DiskP.crash k.drive f } :=
  ⟨h.kept.crash f, h.cut, h.gen, h.seq, h.few, by show (DiskP.crash k.drive f).left = -1; rw [DiskP.crash_quiet f h.kept.log.live.may h.kept.log.quiet]⟩
theorem Lk.add {c : Cut} {i : Nat} {k k' : K} {s : Bytes} {e : Nat} (h : Lk c i k) (ha : AddE k s k' e) : Lk c (i + 1) k' ∧ e = addQ k.records c.log s ∧ k'.text = k.text ∧ k'.records = if e = 0 then k.records ++ [s] else k.records := by
  have hf := h.few
  have hc := h.cut
  rcases ha with ⟨rfl, h1, rfl⟩ | ⟨rfl, h1, h2, rfl⟩ | ⟨rfl, h1, h2, d', l', rfl, h3, h4⟩ | ⟨_, h1, _⟩
  · exact ⟨h.le (by omega), by rw [addQ, if_pos h1], rfl, by simp⟩
  · exact ⟨h.le (by omega), by rw [addQ, if_neg (by omega), ← hc, if_neg h2], rfl, by simp⟩
  · refine ⟨⟨h3, h.cut, h.gen, h.seq, ?_, h4 h.left⟩, by rw [addQ, if_neg (by omega), ← hc, if_pos h2], rfl, by simp⟩
    show (k.records ++ [s]).length ≤ i + 1
    simp; omega
  · exact absurd h.left h1
/-- what stands ahead of the round i: two things are kept, apart -/
def LikeR (w0 : World) (c : Cut) (ba bb i : Nat) (wr : World) : Prop :=
  ∃ ka kb Sa Sb, i ≤ 12 ∧ KM wr Sa ba ka ∧ KM wr Sb bb kb ∧ (∀ x, Sa x → w0.heap.size ≤ x ∧ x < wr.heap.size ∧ ¬ Sb x) ∧ (∀ x, Sb x → w0.heap.size ≤ x ∧ x < wr.heap.size) ∧ Lk c i ka ∧ Lk c i kb ∧ kb.text = ka.text ∧ kb.records = ka.records ∧ Below w0.heap.size w0 wr
theorem lk_seq {c : Cut} {i : Nat} {k : K} (h : Lk c i k) (hi : i ≤ 1000) : k.head.seq + k.records.length ≤ LogP.maxSeq := by
  have := h.few
  have := h.seq
  unfold LogP.maxSeq
  omega
/-- texts in memory are the same -/
theorem same_secV {A B : Option Addr} {n c d : Nat} {l : List Bytes} {V U : Nat → Prop} {w : World} (h : Sl w V 1 A n (secV l)) (g : Sl w U 1 B n (secV l)) (hn : n ≤ 1000000) :
    Calls Try.prog 21 #[.slice A n c, .slice B n d] w fun e w' => e = .returned (.bool true) ∧ ∃ q, w' = w.drewN q := by
  refine (same_any A B n n c d (l.map mkB) (l.map mkB) V U w h g (by omega)).mono ?_
  rintro e w' ⟨rfl, h⟩
  exact ⟨by simp, h⟩

set_option maxRecDepth 100000 in
set_option maxHeartbeats 6400000 in
theorem keepLikewise_walk (A0 : Option Addr) (n0 c0 : Nat) (ss : List ByteArray) (st : ByteArray) (FA : Option Addr) (fn fc : Nat) (f : Fate) (w : World) (hs : Sl w (fun _ => True) 1 A0 n0 (strs ss)) (hn : n0 ≤ 9223372036854775807) (hz : ∀ s ∈ ss, s.size ≤ 9223372036854775807) (hst : st.size ≤ 9223372036854775807) (hF : Ft w (fun _ => True) FA fn fc f) (hc1 : fn ≤ fc) (hc2 : fc ≤ 9223372036854775807) :
    Calls Try.prog 16 #[.slice A0 n0 c0, .string st, ftv FA fn fc f] w fun q w' => q = .returned (.bool true) ∧ Below w.heap.size w w' := by
  have hT := fun ww => few21_any st ww hst
  have zT := few21_size st
  obtain ⟨t1, ht1⟩ : ∃ t1, t1 = few21 st := ⟨_, rfl⟩
  rw [← ht1] at hT zT
  obtain ⟨ff, hff⟩ : ∃ ff, ff = fates f := ⟨_, rfl⟩
  have HFT : Hid (∀ ww, Below w.heap.size w ww → Calls Try.prog 31 #[.agg #[.slice FA fn fc, .int .i64 f.torn, .int .i64 f.cut]] ww fun e w' => ∃ n, e = .returned (.agg #[.slice FA n fc, .int .i64 ff.torn, .int .i64 ff.cut]) ∧ Below ww.heap.size ww w' ∧ Ft w' (fun _ => True) FA n fc ff) := fun ww hb => by
    refine (fates_any FA fn fc f _ ww (hF.below hb) hc1 hc2).mono ?_
    rintro e w' ⟨n, h1, _, h2, h3⟩
    rw [hff]
    exact ⟨n, h1, h2, h3⟩
  obtain ⟨c, hcc⟩ : ∃ c : Cut, c = ⟨30, 4⟩ := ⟨_, rfl⟩
  have hcl : c.log = 30 := by rw [hcc]
  have hcp : c.pages = 4 := by rw [hcc]
  have hco : okC c := by rw [hcc]; exact ⟨by decide, by decide, by decide, by decide⟩
  clear hcc
  obtain ⟨tb, htb⟩ : ∃ tb : ByteArray, tb = ⟨#[98, 101, 103, 105, 110]⟩ := ⟨_, rfl⟩
  have hfmt := fun ww => km_format c tb ww hco (by rw [htb]; decide) (by rw [hcp, htb]; exact pages_fit (by decide))
  rw [hcl, hcp] at hfmt
  have HFM : Hid (∀ ww, Calls Try.prog 52 #[.agg #[.int .i64 30, .int .i64 4], .string ⟨#[98, 101, 103, 105, 110]⟩] ww fun q w' => ∃ b k, q = .returned (.tuple #[.pointer (some ⟨b, 0, none⟩), .int .i64 0]) ∧ KM w' (fun x => ww.heap.size ≤ x) b k ∧ Lk c 0 k ∧ k.text = oct tb ∧ k.records = [] ∧ Below ww.heap.size ww w') := fun ww => by
    rw [← htb]
    refine (hfmt ww).mono ?_
    rintro q w' ⟨b, d', h1, h2, h3, h4, _, h6⟩
    exact ⟨b, _, h1, h2, ⟨h3, rfl, rfl, rfl, Nat.le_refl _, h4⟩, rfl, rfl, h6⟩
  have HOP : Hid (∀ (k : K) (V : Nat → Prop) A n c' B m e ww, k.cut = c → Kept k → Dk ww V A n c' B m e k.drive → Calls Try.prog 60 #[.agg #[.slice A n c', .slice B m e, .int .i64 k.drive.left, .bool k.drive.dead], .agg #[.int .i64 30, .int .i64 4]] ww fun q w' => ∃ b, q = .returned (.tuple #[.pointer (some ⟨b, 0, none⟩), .int .i64 0]) ∧ KM w' (fun x => V x ∨ ww.heap.size ≤ x) b k ∧ ww.heap.size ≤ b ∧ Below ww.heap.size ww w') := fun k V A n c' B m e ww he hk hD => by
    have := km_open hk hD
    rw [he, hcl, hcp] at this
    exact this
  have kF1 := (Box.new w 47 #[.slice FA fn fc, .int .i64 f.torn, .int .i64 f.cut]).up (.cells #[.int .i64 30, .int .i64 4] 85)
  have kC1 := Box.new (w.alloc (.cells #[.slice FA fn fc, .int .i64 f.torn, .int .i64 f.cut] 47)) 85 #[.int .i64 30, .int .i64 4]
  have hb1 := ((Below.refl w.heap.size w).alloc (Nat.le_refl _) (.cells #[.slice FA fn fc, .int .i64 f.torn, .int .i64 f.cut] 47)).alloc (by simp) (.cells #[.int .i64 30, .int .i64 4] 85)
  simp only [World.size_alloc] at kC1
  obtain ⟨w1, hw1⟩ : ∃ y, y = (w.alloc (.cells #[.slice FA fn fc, .int .i64 f.torn, .int .i64 f.cut] 47)).alloc (.cells #[.int .i64 30, .int .i64 4] 85) := ⟨_, rfl⟩
  rw [← hw1] at kF1 kC1 hb1
  have HW1 := hide hw1
  have HCP := hide hcp
  have HCL := hide hcl
  have HT := hide hT
  have HS := hide (hs.below hb1)
  have HZ := hide hz
  have HZT := hide zT
  have HB1 := hide hb1
  have HHB := hide htb
  clear hw1 hcl hcp hco hT zT ht1 hst hff hF hc1 hc2 hfmt htb hs hz
  go_enter Try.func16, Try.ntmps16
  go_upto_region 2 with (fail)
  rw [← HW1.out]
  clear HW1
  go_wp2_with fail
  refine (HT.out _).mono ?_
  rintro q w' ⟨rfl, rfl⟩
  obtain ⟨bq, hq⟩ : ∃ bq, decide ((2000 : Int) < (t1.size : Int)) = bq := ⟨_, rfl⟩
  go_upto_if 22 with (fail)
  have HQ := hide hq
  clear hq
  go_cut [1] from 23 to 24 (fun tv wc => ∃ t : ByteArray, tv = .string t ∧ t.size ≤ 2000 ∧ wc = w1)
  case first =>
    cases bq with
    | true =>
      have b0 := HQ.out
      have b1 : (2000 : Int) < (t1.size : Int) := by simpa using b0
      have b3 : (2000 : Int) ≤ (t1.size : Int) := by omega
      have hex : Hid ((t1.extract 0 2000).size ≤ 2000) := by
        show (t1.extract 0 2000).size ≤ 2000
        rw [← oct_length, oct_extract]; simp; omega
      clear b0
      go_wp2_with fail
      go_meet
      exact ⟨_, rfl, hex.out, rfl⟩
    | false =>
      have b0 := HQ.out
      have b1 : ¬ (2000 : Int) < (t1.size : Int) := by simpa using b0
      have hex : Hid (t1.size ≤ 2000) := by
        show t1.size ≤ 2000
        omega
      clear b0 b1
      go_wp2_with fail
      go_meet
      exact ⟨_, rfl, hex.out, rfl⟩
  case rest =>
    revert wc
    intro wL hcut
    obtain ⟨t, rfl, htz, hwl⟩ := hcut
    rw [hwl]
    clear hwl
    obtain ⟨q0, q1⟩ := kC1.cell2
    have HTZ := hide htz
    clear htz
    go_upto_region 5 with (fail)
    go_wp2_with fail
    refine (HFM.out _).mono ?_
    rintro q w3 ⟨ba, ka, rfl, hMa, hka, hta, hra, hb3⟩
    have kC3 := kC1.belowS hb3
    have HA3 := hide (And.intro hMa (And.intro hka (And.intro hta hra)))
    clear q0 q1 hMa hka hta hra
    obtain ⟨q0, q1⟩ := kC3.cell2
    go_upto_region 6 with (fail)
    go_wp2_with fail
    refine (HFM.out _).mono ?_
    rintro q w4 ⟨bb, kb, rfl, hMb, hkb, htb, hrb, hb4⟩
    have HN0 : Hid (LikeR w1 c ba bb 0 w4) := by
      obtain ⟨hMa, hka, hta, hra⟩ := HA3.out
      exact ⟨ka, kb, _, _, by omega, (hMa.now.below hb4), hMb.now, fun x hx => ⟨hx.1, Nat.lt_of_lt_of_le hx.2 hb4.size, fun h => by omega⟩, fun x hx => ⟨Nat.le_trans hb3.size hx.1, hx.2⟩, hka, hkb, by rw [htb, hta], by rw [hrb, hra], hb3.trans (hb4.mono hb3.size)⟩
    clear hMb hkb htb hrb hb3 hb4 HA3 kC3 q0 q1
    go_upto_block 0 with (fail)
    go_cut [10] from 12 to 100 (fun pb wc => ∃ bb i, pb = .pointer (some ⟨bb, 0, none⟩) ∧ LikeR w1 c ba bb i wc)
    case first =>
      go_wp2_with fail
      go_loopw [10, 12] (fun pb iv wr => ∃ bb i : Nat, pb = .pointer (some ⟨bb, 0, none⟩) ∧ iv = .int .i64 i ∧ LikeR w1 c ba bb i wr) (fun _ iv _ => 12 - (intOf iv).toNat)
      case atStart => exact ⟨bb, 0, rfl, rfl, HN0.out⟩
      case round =>
        clear HN0
        obtain ⟨bb, i, rfl, rfl, ka, kb, Sa, Sb, hi12, hMa, hMb, hSa, hSb, hka, hkb, htx, hrc, hbw⟩ := hrel
        by_cases hgo : i < n0 ∧ i < 12
        · obtain ⟨h1, h2⟩ := hgo
          obtain ⟨aS, s, eA, es, hcS⟩ := (HS.out.below hbw).str h1
          have hfew := fun w2 => few21_any s w2 (HZ.out s (List.mem_of_getElem? es))
          have hfz := few21_size s
          obtain ⟨fs, hfs⟩ : ∃ fs, fs = few21 s := ⟨_, rfl⟩
          rw [← hfs] at hfew hfz
          have HAA := hide (km_addG hMa hka.kept (lk_seq hka (by omega)) fs (by omega) (by have := hka.few; omega))
          have HMB := hide (And.intro hMb (And.intro hkb (And.intro hka (And.intro htx hrc))))
          have HSA := hide hSa
          have HSB := hide hSb
          have HFEW := hide hfew
          have HBWR := hide hbw
          have HFZ := hide hfz
          have d1 : decide (i < n0) = true := by simpa using h1
          have d2 : decide ((i : Int) < 12) = true := by simp; omega
          have hni : (i : Int) < (n0 : Int) := by omega
          clear hfew hfs hfz es hMa hMb hSa hSb hka hkb htx hrc hbw
          subst eA
          go_wp2_with fail
          refine (HFEW.out _).mono ?_
          rintro q w2 ⟨rfl, rfl⟩
          go_wp2_with fail
          refine HAA.out.mono ?_
          rintro q wA ⟨ka', e, rfl, hMa', hch, hAE⟩
          have HMB' := hide (HMB.out.1.other hch fun x hb ha => (HSA.out x ha).2.2 hb)
          have HAB := hide (km_addG HMB'.out HMB.out.2.1.kept (lk_seq HMB.out.2.1 (by omega)) fs (by have := HFZ.out; omega) (by have := HMB.out.2.1.few; omega))
          have HA1 := hide (And.intro hMa' (And.intro hch hAE))
          clear hMa' hch hAE HMB'
          go_wp2_with fail
          refine HAB.out.mono ?_
          rintro q wB ⟨kb', e', rfl, hMb', hch', hAE'⟩
          obtain ⟨hMa', hch, hAE⟩ := HA1.out
          obtain ⟨_, hkb, hka, htx, hrc⟩ := HMB.out
          obtain ⟨a1, a2, a3, a4⟩ := hka.add hAE
          obtain ⟨c1, c2, c3, c4⟩ := hkb.add hAE'
          rw [hrc] at c2 c4
          obtain rfl : e' = e := c2.trans a2.symm
          have hAnd : ∀ x, (Sa x ∨ wr.heap.size ≤ x) ∧ x < wA.heap.size → ¬ Sb x := fun x hx hb => by
            rcases hx.1 with h | h
            · exact (HSA.out x h).2.2 hb
            · have := (HSB.out x hb).2; omega
          have hMaB := hMa'.now.other hch' hAnd
          have hbA := hch.toBelow (base := w1.heap.size) (fun x hx => (HSA.out x hx).1) HBWR.out.size
          have hbB := hch'.toBelow (base := w1.heap.size) (fun x hx => (HSB.out x hx).1) (Nat.le_trans HBWR.out.size hch.size)
          have hbwB := (HBWR.out.trans hbA).trans hbB
          have hk5 := c1.crash ff
          obtain ⟨k5, hk5e⟩ : ∃ k5 : K, k5 = { kb' with drive := DiskP.crash kb'.drive ff } := ⟨_, rfl⟩
          have g1 : k5.drive = DiskP.crash kb'.drive ff := by rw [hk5e]
          have g2 : k5.text = ka'.text := by rw [hk5e]; show kb'.text = _; rw [c3, a3, htx]
          have g3 : k5.records = ka'.records := by rw [hk5e]; show kb'.records = _; rw [c4, a4]
          rw [← hk5e] at hk5
          have HDI := hide (reo_disk hMb')
          have HCR := hide (reo_crash c1.kept.log.live.may g1 FA fc)
          have HOP5 := hide (reo_open (cl := 30) (cp := 4) hk5.kept (by rw [hk5.cut, HCL.out]; rfl) (by rw [hk5.cut, HCP.out]; rfl))
          have kCB := kC1.belowS hbwB
          have kFB := kF1.belowS hbwB
          have HSS : Hid (∀ (ww : World), Below wB.heap.size wB ww → (ww.cell? ⟨w.heap.size + 1, 0, none⟩ = some (.int .i64 30) ∧ ww.cell? ⟨w.heap.size + 1, 1, none⟩ = some (.int .i64 4)) ∧ ww.cell? ⟨w.heap.size, 0, none⟩ = some (.slice FA fn fc) ∧ ww.cell? ⟨w.heap.size, 1, none⟩ = some (.int .i64 f.torn) ∧ ww.cell? ⟨w.heap.size, 2, none⟩ = some (.int .i64 f.cut)) := fun ww hb => ⟨(kCB.belowS hb).cell2, (kFB.belowS hb).cellAt rfl, (kFB.belowS hb).cellAt rfl, (kFB.belowS hb).cellAt rfl⟩
          have HBW := hide (HB1.out.trans (hbwB.mono HB1.out.size))
          have HBW1 := hide hbwB
          have HFIN : Hid (Lk c (i + 1) ka' ∧ Lk c (i + 1) k5 ∧ k5.text = ka'.text ∧ k5.records = ka'.records ∧ KM wB (fun x => (Sa x ∨ wr.heap.size ≤ x) ∧ x < wA.heap.size) ba ka' ∧ wA.heap.size ≤ wB.heap.size ∧ w1.heap.size ≤ wr.heap.size) := ⟨a1, hk5, g2, g3, hMaB, hch'.size, HBWR.out.size⟩
          clear hMb' c1 g1 g2 g3 hk5 hk5e hbwB hbA hbB hMaB hAnd hAE hAE' hch hch' hMa' a1 a2 a3 a4 c2 c3 c4 hkb hka htx hrc HAB HAA HMB kCB kFB
          go_upto_region 15 with (fail)
          have hbx : Below wB.heap.size wB wB.drew := (Below.refl _ _).drew
          go_region_held3 (fun ww => (ww.cell? ⟨w.heap.size + 1, 0, none⟩ = some (.int .i64 30) ∧ ww.cell? ⟨w.heap.size + 1, 1, none⟩ = some (.int .i64 4)) ∧ ww.cell? ⟨w.heap.size, 0, none⟩ = some (.slice FA fn fc) ∧ ww.cell? ⟨w.heap.size, 1, none⟩ = some (.int .i64 f.torn) ∧ ww.cell? ⟨w.heap.size, 2, none⟩ = some (.int .i64 f.cut))
            (first | (with_reducible exact (HSS.out wB (Below.refl _ _))) | (with_reducible exact (HSS.out _ hbx)))
            (first
              | ((with_reducible refine (HDI.out _ hbx).mono ?_); rintro q wn ⟨A4, n4, c4, B4, m4, x4, rfl, hD4, hbn⟩; have hbx := hbx.trans (hbn.mono hbx.size); have HD4 := hide hD4; clear hD4)
              | ((with_reducible refine (HFT.out _ (HBW.out.trans (hbx.mono HBW.out.size))).mono ?_); rintro q wf ⟨g4, rfl, hbf, hG4⟩; have hbx := hbx.trans (hbf.mono hbx.size); have HD4 := hide (HD4.out.below hbf); have HG4 := hide hG4; clear hG4)
              | ((with_reducible refine (HCR.out _ _ _ _ _ _ _ _ HD4.out HG4.out).mono ?_); rintro q wm ⟨A5, n5, c5, B5, m5, x5, rfl, hD5, hbm⟩; have hz5 := hbx.size; have hbx := hbx.trans (hbm.mono hbx.size); have HD5 := hide hD5; clear hD5)
              | ((with_reducible refine (HOP5.out _ _ _ _ _ _ _ _ HD5.out).mono ?_); rintro q wo5 ⟨b5, rfl, hM5, hbl5, hbo⟩; have hz6 := hbx.size; have hbx := hbx.trans (hbo.mono hbx.size)))
          have hM5' : KM wo5 (fun x => wB.heap.size ≤ x) b5 k5 := hM5.mono fun x hx hl => by rcases hx with h | h <;> omega
          obtain ⟨f1, f2, f3, f4, f5, f6, f7⟩ := HFIN.out
          obtain ⟨tx, htx⟩ : ∃ tx, tx = mkB ka'.text := ⟨_, rfl⟩
          obtain ⟨rs, hrs⟩ : ∃ rs, rs = ka'.records := ⟨_, rfl⟩
          obtain ⟨rn, hrn⟩ : ∃ rn, rn = rs.length := ⟨_, rfl⟩
          have hrz : rn ≤ 1000000 := by have := f1.few; rw [hrn, hrs]; omega
          have hMa5 := f5.below hbx
          have HTB := hide (reo_text (s := tx) hM5' (by rw [f3, htx, oct_mkB]))
          have HTA := hide (reo_text (s := tx) hMa5 (by rw [htx, oct_mkB]))
          have HRA := hide (reo_records hMa5 (by rw [← hrs, ← hrn]; exact hrz) hrs.symm hrn)
          have HRB := hide (reo_records hM5' (by rw [f4, ← hrs, ← hrn]; exact hrz) (f4.trans hrs.symm) hrn)
          have HM5 := hide (And.intro hM5' hMa5)
          have HBX := hide hbx
          have HRZ := hide hrz
          clear hM5 hM5' hbl5 hz5 hz6 hbo hbn hbf hbm HD4 HG4 HD5 HDI HCR HOP5 HSS f1 f2 f3 f4 f5 f6 f7 htx hrs hrn hrz hMa5 hbx
          go_upto_region 19 with (fail)
          go_wp2_with fail
          refine (HTB.out _ (Below.refl _ _)).mono ?_
          rintro q w7 ⟨rfl, rfl⟩
          go_wp2_with fail
          refine (HTA.out _ (Below.refl _ _)).mono ?_
          rintro q w7 ⟨rfl, rfl⟩
          go_wp2_with fail
          refine (HRA.out _ (Below.refl _ _)).mono ?_
          rintro q w8 ⟨X, xc, rfl, hsX, hb8⟩
          have HX := hide hsX
          clear hsX
          go_wp2_with fail
          refine (HRB.out _ hb8).mono ?_
          rintro q w9 ⟨Y, yc, rfl, hsY, hb9⟩
          have HSM := hide (same_secV (c := xc) (d := yc) (HX.out.below hb9) hsY HRZ.out)
          clear hsY HX
          go_wp2_with fail
          refine HSM.out.mono ?_
          rintro q w10 ⟨rfl, nq, rfl⟩
          go_wp2_with fail
          go_roundw
          case rel =>
            obtain ⟨f1, f2, f3, f4, f5, f6, f7⟩ := HFIN.out
            obtain ⟨hM5, hMa5⟩ := HM5.out
            have hbq : Below w8.heap.size w8 (w9.drewN nq) := hb9.trans (below_drewN (Below.refl _ _) nq)
            have hb19 := hb8.trans (hbq.mono hb8.size)
            refine ⟨b5, i + 1, rfl, by go_num, ka', k5, _, _, by omega, (hMa5.below hb19), (hM5.now.below hb19), fun x hx => ⟨?_, ?_, ?_⟩, fun x hx => ⟨?_, ?_⟩, f1, f2, f3, f4, (HBW1.out.trans (HBX.out.mono HBW1.out.size)).trans (hb19.mono (Nat.le_trans HBW1.out.size HBX.out.size))⟩
            · rcases hx.1 with h | h
              · exact (HSA.out x h).1
              · omega
            · have := HBX.out.size; have := hb19.size; omega
            · intro h; omega
            · have := HBW1.out.size; omega
            · have := hb19.size; omega
          case measure => simp [intOf]; omega
        · have HE : Hid (LikeR w1 c ba bb i wr) := ⟨ka, kb, Sa, Sb, hi12, hMa, hMb, hSa, hSb, hka, hkb, htx, hrc, hbw⟩
          by_cases h1 : i < n0
          · have d1 : decide (i < n0) = true := by simpa using h1
            have d2 : decide ((i : Int) < 12) = false := by simp; omega
            clear hgo h1 hMa hMb hSa hSb hka hkb htx hrc hbw hi12
            go_wp2_with fail
            go_meet
            exact ⟨bb, i, rfl, HE.out⟩
          · have d1 : decide (i < n0) = false := by simpa using h1
            clear hgo h1 hMa hMb hSa hSb hka hkb htx hrc hbw hi12
            go_wp2_with fail
            go_meet
            exact ⟨bb, i, rfl, HE.out⟩
    case rest =>
      clear HN0 HS HZ
      revert wc
      intro wL hcut
      obtain ⟨bb, i, rfl, ka, kb, Sa, Sb, hi12, hMa, hMb, hSa, hSb, hka, hkb, htx, hrc, hbw⟩ := hcut
      have hroom : svRoom ka (oct t) := ⟨by
        rw [hka.cut, HCP.out]
        refine pages_fit ?_
        rw [oct_length]
        have := HTZ.out
        unfold KeepP.cells
        omega, by rw [hka.gen]; decide, by rw [kept_seq hka.kept, hka.seq]; have := hka.few; unfold LogP.maxSeq; omega⟩
      have HGN := hide (reo_gen (g := 1) hMa (by rw [hka.gen]; rfl))
      have HSV := hide (km_save hMa hka.kept hka.left t (by have := HTZ.out; omega) hroom)
      have HSA := hide hSa
      have HBW := hide hbw
      have hgn := hka.gen
      have HGE := hide hgn
      clear hMa hMb hSa hSb hka hkb htx hrc hbw hi12 hroom hgn
      go_upto_region 21 with (fail)
      go_wp2_with fail
      refine (HGN.out _ (Below.refl _ _)).mono ?_
      rintro q w7 ⟨rfl, rfl⟩
      go_wp2_with fail
      refine HSV.out.mono ?_
      rintro q w8 ⟨d8, rfl, hM8, hk8, hl8, hch8⟩
      have HG8 := hide (reo_gen (g := 2) hM8 (by show ((ka.head.gen + 1 : Nat) : Int) = 2; rw [HGE.out]; rfl))
      have HT8 := hide (reo_text (s := t) hM8 rfl)
      have HR8 := hide (reo_records (l := []) (n := 0) hM8 (by show ([] : List Bytes).length ≤ 1000000; decide) rfl rfl)
      have hb8 := hch8.toBelow (base := w1.heap.size) (fun x hx => (HSA.out x hx).1) HBW.out.size
      have HB8 := hide hb8
      clear hM8 hk8 hl8 hch8 hb8
      go_wp2_with fail
      refine (HG8.out _ (Below.refl _ _)).mono ?_
      rintro q w9 ⟨rfl, rfl⟩
      go_wp2_with fail
      refine (HT8.out _ (Below.refl _ _)).mono ?_
      rintro q w9 ⟨rfl, rfl⟩
      go_wp2_with fail
      refine (HR8.out _ (Below.refl _ _)).mono ?_
      rintro q w10 ⟨X, xc, rfl, _, hb10⟩
      go_wp2_with fail
      refine (awake21_any _).mono ?_
      rintro q w11 ⟨rfl, hb11⟩
      have hbe := HB1.out.trans (((HBW.out.trans HB8.out).trans ((hb10.trans (hb11.mono hb10.size)).mono (Nat.le_trans HBW.out.size HB8.out.size))).mono HB1.out.size)
      go_wp2_with fail
      go_ret
      exact ⟨rfl, hbe⟩
end Go.Proofs.Yteoiadfcchalfaa

