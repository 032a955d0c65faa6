/- KeepTexts: for every input the law returns true, and writes nothing that was there. (merged: KeepTxW KeepTxP) -/
import Derived.Test.YteoiadfcchalfaaKeepR
import Derived.Test.YteoiadfcchalfaaOpenW
/-! The walk of KeepTexts. -/
namespace Go.Proofs.Yteoiadfcchalfaa
open Go.RowKit
open DiskP (Bytes Disk Wr Fate noughts)
open KeepP (Cut Head K Kept okC okH pagesP saveP beginP openP)
open LogP (Log zeroL Live okL Holds)
set_option linter.unusedVariables false

set_option maxRecDepth 100000 in
set_option maxHeartbeats 3200000 in
theorem keepTexts_walk (sa sb : ByteArray) (FA : Option Addr) (fn fc : Nat) (f : Fate) (w : World) (ha : sa.size ≤ 9223372036854775807) (hb : sb.size ≤ 9223372036854775807) (hF : Ft w (fun _ => True) FA fn fc f) (hc1 : fn ≤ fc) (hc2 : fc ≤ 9223372036854775807) :
    Calls Try.prog 17 #[.string sa, .string sb, ftv FA fn fc f] w fun q w' => q = .returned (.bool true) ∧ Below w.heap.size w w' := by
  have hA := fun ww => few21_any sa ww ha
  have hB := fun ww => few21_any sb ww hb
  have zA := few21_size sa
  have zB := few21_size sb
  obtain ⟨a, hae⟩ : ∃ a, a = few21 sa := ⟨_, rfl⟩
  obtain ⟨b, hbe⟩ : ∃ b, b = few21 sb := ⟨_, rfl⟩
  rw [← hae] at hA zA
  rw [← hbe] at hB zB
  obtain ⟨ff, hff⟩ : ∃ ff, ff = fates f := ⟨_, rfl⟩
  have HFT : Hid (∀ ww, Below w.heap.size w ww → Calls Try.prog 31 #[.agg #[.slice FA fn fc, .int .i64 f.torn, .int .i64 f.cut]] ww fun e w' => ∃ n, e = .returned (.agg #[.slice FA n fc, .int .i64 ff.torn, .int .i64 ff.cut]) ∧ Below ww.heap.size ww w' ∧ Ft w' (fun _ => True) FA n fc ff) := fun ww hb => by
    refine (fates_any FA fn fc f _ ww (hF.below hb) hc1 hc2).mono ?_
    rintro e w' ⟨n, h1, _, h2, h3⟩
    rw [hff]
    exact ⟨n, h1, h2, h3⟩
  obtain ⟨c, hcc⟩ : ∃ c : Cut, c = ⟨4, 6⟩ := ⟨_, rfl⟩
  have hcl : c.log = 4 := by rw [hcc]
  have hcp : c.pages = 6 := by rw [hcc]
  have hco : okC c := by rw [hcc]; exact ⟨by decide, by decide, by decide, by decide⟩
  clear hcc
  have hcells : ∀ s : ByteArray, s.size ≤ 4100 → (pagesP (oct s)).length ≤ 6 := fun s hs => by
    refine pages_fit ?_
    rw [oct_length]
    unfold KeepP.cells
    omega
  have HFM : Hid (∀ ww, Calls Try.prog 52 #[.agg #[.int .i64 4, .int .i64 6], .string a] ww fun q w' => ∃ b d', q = .returned (.tuple #[.pointer (some ⟨b, 0, none⟩), .int .i64 0]) ∧ KM w' (fun x => ww.heap.size ≤ x) b (fmtK c (oct a) d') ∧ Kept (fmtK c (oct a) d') ∧ d'.left = -1 ∧ ww.heap.size ≤ b ∧ Below ww.heap.size ww w') := fun ww => by
    have := km_format c a ww hco (by omega) (by rw [hcp]; exact hcells a zA)
    rw [hcl, hcp] at this
    exact this
  have HOP : Hid (∀ (k : K) (V : Nat → Prop) A n c' B m e ww, k.cut = c → Kept k → Dk ww V A n c' B m e k.drive → Calls Try.prog 60 #[.agg #[.slice A n c', .slice B m e, .int .i64 k.drive.left, .bool k.drive.dead], .agg #[.int .i64 4, .int .i64 6]] ww fun q w' => ∃ b, q = .returned (.tuple #[.pointer (some ⟨b, 0, none⟩), .int .i64 0]) ∧ KM w' (fun x => V x ∨ ww.heap.size ≤ x) b k ∧ ww.heap.size ≤ b ∧ Below ww.heap.size ww w') := fun k V A n c' B m e ww he hk hD => by
    have := km_open hk hD
    rw [he, hcl, hcp] at this
    exact this
  have HCP := hide hcp
  have HCE := hide hcells
  clear hcl hcp hco hcells
  have HA := hide hA
  have HB := hide hB
  have ZA := hide zA
  have ZB := hide zB
  clear hA hB zA zB hae hbe ha hb hff
  go_enter Try.func17, Try.ntmps17
  go_wp2_with fail
  refine (HA.out _).mono ?_
  rintro q w' ⟨rfl, rfl⟩
  go_wp2_with fail
  refine (HB.out _).mono ?_
  rintro q w' ⟨rfl, rfl⟩
  have kF1 := (Box.new w 47 #[.slice FA fn fc, .int .i64 f.torn, .int .i64 f.cut]).up (.cells #[.int .i64 4, .int .i64 6] 85)
  have kC1 := Box.new (w.alloc (.cells #[.slice FA fn fc, .int .i64 f.torn, .int .i64 f.cut] 47)) 85 #[.int .i64 4, .int .i64 6]
  have hb1 := ((Below.refl w.heap.size w).alloc (Nat.le_refl _) (.cells #[.slice FA fn fc, .int .i64 f.torn, .int .i64 f.cut] 47)).alloc (by simp) (.cells #[.int .i64 4, .int .i64 6] 85)
  simp only [World.size_alloc] at kC1
  obtain ⟨w1, hw1⟩ : ∃ y, y = (w.alloc (.cells #[.slice FA fn fc, .int .i64 f.torn, .int .i64 f.cut] 47)).alloc (.cells #[.int .i64 4, .int .i64 6] 85) := ⟨_, rfl⟩
  rw [← hw1] at kF1 kC1 hb1
  have HW1 := hide hw1
  clear hw1
  go_upto_region 3 with (fail)
  rw [← HW1.out]
  clear HW1
  obtain ⟨q0, q1⟩ := kC1.cell2
  go_wp2_with fail
  refine (HFM.out _).mono ?_
  rintro q w3 ⟨b1, d1, rfl, hM3, hk3, hl3, hb13, hb3⟩
  obtain ⟨k3, hk3e⟩ : ∃ k, k = fmtK c (oct a) d1 := ⟨_, rfl⟩
  have e1 : k3.cut = c := by rw [hk3e]
  have e2 : k3.head.gen = 1 := by rw [hk3e]
  have e3 : k3.head.seq = 1 := by rw [hk3e]
  have e4 : k3.text = oct a := by rw [hk3e]
  have e5 : k3.records = [] := by rw [hk3e]
  have e6 : k3.drive.left = -1 := by rw [hk3e]; exact hl3
  rw [← hk3e] at hM3 hk3
  have kC3 := kC1.belowS hb3
  have kF3 := kF1.belowS hb3
  have hbw3 := hb1.trans (hb3.mono hb1.size)
  clear q0 q1
  have HDI : Hid (∀ ww, Below w3.heap.size w3 ww → Calls Try.prog 61 #[.pointer (some ⟨b1, 0, none⟩)] ww fun q w' => ∃ A n c B m e, q = .returned (.agg #[.slice A n c, .slice B m e, .int .i64 k3.drive.left, .bool k3.drive.dead]) ∧ Dk w' (fun _ => True) A n c B m e k3.drive ∧ Below ww.heap.size ww w') := fun ww hb => (km_disk (hM3.below hb)).mono fun q w' ⟨A, n, c, B, m, e, h1, h2, h3⟩ => ⟨A, n, c, B, m, e, h1, h2.mono fun _ _ => trivial, h3⟩
  obtain ⟨d5, hd5⟩ : ∃ d5, d5 = DiskP.crash k3.drive ff := ⟨_, rfl⟩
  have hk5 : Kept { k3 with drive := d5 } := by rw [hd5]; exact hk3.crash _
  have hl5 : d5.left = -1 := by rw [hd5, DiskP.crash_quiet ff hk3.log.live.may hk3.log.quiet]
  have HCR : Hid (∀ ww A n c B m e g, Dk ww (fun _ => True) A n c B m e k3.drive → Ft ww (fun _ => True) FA g fc ff → Calls Try.prog 37 #[.agg #[.slice A n c, .slice B m e, .int .i64 k3.drive.left, .bool k3.drive.dead], .agg #[.slice FA g fc, .int .i64 ff.torn, .int .i64 ff.cut]] ww fun q w' => ∃ A n c B m e, q = .returned (.agg #[.slice A n c, .slice B m e, .int .i64 d5.left, .bool d5.dead]) ∧ Dk w' (fun x => ww.heap.size ≤ x) A n c B m e d5 ∧ Below ww.heap.size ww w') := fun ww A n c B m e g hD hG => by
    rw [hd5]
    exact km_crash hD hk3.log.live.may hG
  obtain ⟨k5, hk5e⟩ : ∃ k : K, k = { k3 with drive := d5 } := ⟨_, rfl⟩
  have hdr : k5.drive = d5 := by rw [hk5e]
  rw [← hk5e] at hk5
  have HOP5 : Hid (∀ (V : Nat → Prop) A n c' B m e ww, Dk ww V A n c' B m e d5 → Calls Try.prog 60 #[.agg #[.slice A n c', .slice B m e, .int .i64 d5.left, .bool d5.dead], .agg #[.int .i64 4, .int .i64 6]] ww fun q w' => ∃ b, q = .returned (.tuple #[.pointer (some ⟨b, 0, none⟩), .int .i64 0]) ∧ KM w' (fun x => V x ∨ ww.heap.size ≤ x) b k5 ∧ ww.heap.size ≤ b ∧ Below ww.heap.size ww w') := fun V A n c' B m e ww hD => by
    have := HOP.out k5 V A n c' B m e ww (by rw [hk5e]; exact e1) hk5 (by rw [hdr]; exact hD)
    rw [hdr] at this
    exact this
  have HSS : Hid (∀ (ww : World), Below w3.heap.size w3 ww → (ww.cell? ⟨w.heap.size + 1, 0, none⟩ = some (.int .i64 4) ∧ ww.cell? ⟨w.heap.size + 1, 1, none⟩ = some (.int .i64 6)) ∧ ww.cell? ⟨w.heap.size, 0, none⟩ = some (.slice FA fn fc) ∧ ww.cell? ⟨w.heap.size, 1, none⟩ = some (.int .i64 f.torn) ∧ ww.cell? ⟨w.heap.size, 2, none⟩ = some (.int .i64 f.cut)) := fun ww hb => ⟨(kC3.belowS hb).cell2, (kF3.belowS hb).cellAt rfl, (kF3.belowS hb).cellAt rfl, (kF3.belowS hb).cellAt rfl⟩
  have HBW := hide hbw3
  have HE5 := hide (And.intro e1 (And.intro e2 (And.intro e3 (And.intro e4 (And.intro e5 e6)))))
  have HL5 := hide hl5
  have HKM := hide (And.intro hk3 hM3)
  have HKE := hide hk5e
  clear e1 e2 e3 e4 e5 e6 hl5 hd5 hdr hk5e hk3e hl3
  go_upto_region 6 with (fail)
  have hbx : Below w3.heap.size w3 w3.drew := (Below.refl _ _).drew
  go_region_held3 (fun ww => (ww.cell? ⟨w.heap.size + 1, 0, none⟩ = some (.int .i64 4) ∧ ww.cell? ⟨w.heap.size + 1, 1, none⟩ = some (.int .i64 6)) ∧ ww.cell? ⟨w.heap.size, 0, none⟩ = some (.slice FA fn fc) ∧ ww.cell? ⟨w.heap.size, 1, none⟩ = some (.int .i64 f.torn) ∧ ww.cell? ⟨w.heap.size, 2, none⟩ = some (.int .i64 f.cut))
    (first | (with_reducible exact (HSS.out w3 (Below.refl _ _))) | (with_reducible exact (HSS.out _ hbx)))
    (first
      | ((with_reducible refine (HDI.out _ hbx).mono ?_); rintro q wn ⟨A4, n4, c4, B4, m4, x4, rfl, hD4, hbn⟩; have hbx := hbx.trans (hbn.mono hbx.size); have HD4 := hide hD4; clear hD4)
      | ((with_reducible refine (HFT.out _ (HBW.out.trans (hbx.mono HBW.out.size))).mono ?_); rintro q wf ⟨g4, rfl, hbf, hG4⟩; have hbx := hbx.trans (hbf.mono hbx.size); have HD4 := hide (HD4.out.below hbf); have HG4 := hide hG4; clear hG4)
      | ((with_reducible refine (HCR.out _ _ _ _ _ _ _ _ HD4.out HG4.out).mono ?_); rintro q wm ⟨A5, n5, c5, B5, m5, x5, rfl, hD5, hbm⟩; have hz5 := hbx.size; have hbx := hbx.trans (hbm.mono hbx.size); have HD5 := hide hD5; clear hD5)
      | ((with_reducible refine (HOP5.out _ _ _ _ _ _ _ _ HD5.out).mono ?_); rintro q wo5 ⟨b5, rfl, hM5, hbl5, hbo⟩; have hz6 := hbx.size; have hbx := hbx.trans (hbo.mono hbx.size)))
  have hM5' : KM wo5 (fun x => w3.heap.size ≤ x) b5 k5 := hM5.mono fun x hx hl => by rcases hx with h | h <;> omega
  obtain ⟨e1, e2, e3, e4, e5, e6⟩ := HE5.out
  have hke := HKE.out
  have g1 : k5.cut = c := by rw [hke]; exact e1
  have g2 : k5.head.gen = 1 := by rw [hke]; exact e2
  have g3 : k5.head.seq = 1 := by rw [hke]; exact e3
  have g4 : k5.text = oct a := by rw [hke]; exact e4
  have g5 : k5.records = [] := by rw [hke]; exact e5
  have g6 : k5.drive.left = -1 := by rw [hke]; exact HL5.out
  have hroom : svRoom k5 (oct b) := ⟨by rw [g1, HCP.out]; exact HCE.out b ZB.out, by rw [g2]; decide, by rw [hk5.log.log]; show k5.head.seq + k5.records.length ≤ _; rw [g3, g5]; decide⟩
  have HTX : Hid (∀ ww, Below wo5.heap.size wo5 ww → Calls Try.prog 55 #[.pointer (some ⟨b5, 0, none⟩)] ww fun q w' => q = .returned (.string a) ∧ w' = ww) := fun ww hb => (km_text (hM5'.below hb)).mono fun q w' ⟨h1, h2⟩ => ⟨by rw [h1, g4, mkB_oct], h2.symm⟩
  have HRC : Hid (∀ ww, Below wo5.heap.size wo5 ww → Calls Try.prog 59 #[.pointer (some ⟨b5, 0, none⟩)] ww fun q w' => ∃ X xc, q = .returned (.slice X 0 xc) ∧ Below ww.heap.size ww w') := fun ww hb => (km_records (hM5'.below hb) (by rw [g5]; decide)).mono fun q w' ⟨v, h1, h2, h3⟩ => by
    rw [g5] at h2
    obtain ⟨X, xc, rfl⟩ := own_shape h2
    exact ⟨X, xc, h1, h3⟩
  have HSVE : Hid (∀ ww, Below wo5.heap.size wo5 ww → Calls Try.prog 56 #[.pointer (some ⟨b5, 0, none⟩), .string b] ww fun q w' => ∃ d', q = .returned (.int .i64 0) ∧ KM w' (fun x => w3.heap.size ≤ x ∨ ww.heap.size ≤ x) b5 (svN k5 (oct b) d') ∧ Kept (svN k5 (oct b) d') ∧ d'.left = -1 ∧ KChg (fun x => w3.heap.size ≤ x) ww w') := fun ww hb => km_save (hM5'.below hb) hk5 g6 b (by have := ZB.out; omega) hroom
  have HG := hide (And.intro g1 g2)
  have HSZ3 := hide (And.intro kC3.lt hb3.size).1
  have HBX := hide hbx
  have kC5 := kC3.belowS hbx
  have kF5 := kF3.belowS hbx
  clear e1 e2 e3 e4 e5 e6 hke g1 g2 g3 g4 g5 g6 hroom hM5 hM5' hbl5 hz5 hz6 hbo hbn hbf hbm HD4 HG4 HD5 HDI HCR HOP5 HSS hM3 hk3 kC3 kF3 hb3 hb13 hbx
  go_upto_region 7 with (fail)
  go_wp2_with fail
  refine (HTX.out _ (Below.refl _ _)).mono ?_
  rintro q w7 ⟨rfl, rfl⟩
  go_wp2_with fail
  refine (HRC.out _ (Below.refl _ _)).mono ?_
  rintro q w8 ⟨X, xc, rfl, hb8⟩
  go_wp2_with fail
  refine (HSVE.out _ hb8).mono ?_
  rintro q w9 ⟨d9, rfl, hM9, hk9, hl9, hch9⟩
  have hb9 : Below w3.heap.size w8 w9 := hch9.toBelow (fun x hx => hx) (Nat.le_trans HBX.out.size hb8.size)
  have hl3c : w.heap.size + 1 < w3.heap.size := by have := hb1.size; have := HSZ3.out; omega
  have kC9 := (kC5.belowS hb8).below hb9 hl3c
  have kF9 := (kF5.belowS hb8).below hb9 (by omega)
  have hbw9 := (hbw3.trans ((HBX.out.trans (hb8.mono HBX.out.size)).mono hbw3.size)).trans (hb9.mono hbw3.size)
  obtain ⟨k9, hk9e⟩ : ∃ k : K, k = svN k5 (oct b) d9 := ⟨_, rfl⟩
  have e1 : k9.cut = c := by rw [hk9e]; exact HG.out.1
  have e2 : k9.head.gen = 2 := by rw [hk9e]; show k5.head.gen + 1 = 2; rw [HG.out.2]
  have e3 : True := trivial
  have e4 : k9.text = oct b := by rw [hk9e]
  have e5 : k9.records = [] := by rw [hk9e]
  have e6 : k9.drive.left = -1 := by rw [hk9e]; exact hl9
  rw [← hk9e] at hM9 hk9
  have HDI : Hid (∀ ww, Below w9.heap.size w9 ww → Calls Try.prog 61 #[.pointer (some ⟨b5, 0, none⟩)] ww fun q w' => ∃ A n c B m e, q = .returned (.agg #[.slice A n c, .slice B m e, .int .i64 k9.drive.left, .bool k9.drive.dead]) ∧ Dk w' (fun _ => True) A n c B m e k9.drive ∧ Below ww.heap.size ww w') := fun ww hb => (km_disk (hM9.below hb)).mono fun q w' ⟨A, n, c, B, m, e, h1, h2, h3⟩ => ⟨A, n, c, B, m, e, h1, h2.mono fun _ _ => trivial, h3⟩
  obtain ⟨d6, hd6⟩ : ∃ d5, d5 = DiskP.crash k9.drive ff := ⟨_, rfl⟩
  have hk6 : Kept { k9 with drive := d6 } := by rw [hd6]; exact hk9.crash _
  have hl6 : d6.left = -1 := by rw [hd6, DiskP.crash_quiet ff hk9.log.live.may hk9.log.quiet]
  have HCR : Hid (∀ ww A n c B m e g, Dk ww (fun _ => True) A n c B m e k9.drive → Ft ww (fun _ => True) FA g fc ff → Calls Try.prog 37 #[.agg #[.slice A n c, .slice B m e, .int .i64 k9.drive.left, .bool k9.drive.dead], .agg #[.slice FA g fc, .int .i64 ff.torn, .int .i64 ff.cut]] ww fun q w' => ∃ A n c B m e, q = .returned (.agg #[.slice A n c, .slice B m e, .int .i64 d6.left, .bool d6.dead]) ∧ Dk w' (fun x => ww.heap.size ≤ x) A n c B m e d6 ∧ Below ww.heap.size ww w') := fun ww A n c B m e g hD hG => by
    rw [hd6]
    exact km_crash hD hk9.log.live.may hG
  obtain ⟨k6, hk6e⟩ : ∃ k : K, k = { k9 with drive := d6 } := ⟨_, rfl⟩
  have hdr : k6.drive = d6 := by rw [hk6e]
  rw [← hk6e] at hk6
  have HOP6 : Hid (∀ (V : Nat → Prop) A n c' B m e ww, Dk ww V A n c' B m e d6 → Calls Try.prog 60 #[.agg #[.slice A n c', .slice B m e, .int .i64 d6.left, .bool d6.dead], .agg #[.int .i64 4, .int .i64 6]] ww fun q w' => ∃ b, q = .returned (.tuple #[.pointer (some ⟨b, 0, none⟩), .int .i64 0]) ∧ KM w' (fun x => V x ∨ ww.heap.size ≤ x) b k6 ∧ ww.heap.size ≤ b ∧ Below ww.heap.size ww w') := fun V A n c' B m e ww hD => by
    have := HOP.out k6 V A n c' B m e ww (by rw [hk6e]; exact e1) hk6 (by rw [hdr]; exact hD)
    rw [hdr] at this
    exact this
  have HSS : Hid (∀ (ww : World), Below w9.heap.size w9 ww → (ww.cell? ⟨w.heap.size + 1, 0, none⟩ = some (.int .i64 4) ∧ ww.cell? ⟨w.heap.size + 1, 1, none⟩ = some (.int .i64 6)) ∧ ww.cell? ⟨w.heap.size, 0, none⟩ = some (.slice FA fn fc) ∧ ww.cell? ⟨w.heap.size, 1, none⟩ = some (.int .i64 f.torn) ∧ ww.cell? ⟨w.heap.size, 2, none⟩ = some (.int .i64 f.cut)) := fun ww hb => ⟨(kC9.belowS hb).cell2, (kF9.belowS hb).cellAt rfl, (kF9.belowS hb).cellAt rfl, (kF9.belowS hb).cellAt rfl⟩
  have HBW := hide hbw9
  have HE6 := hide (And.intro e1 (And.intro e2 (And.intro e3 (And.intro e4 (And.intro e5 e6)))))
  have HL6 := hide hl6
  have HKM := hide (And.intro hk9 hM9)
  have HKE := hide hk6e
  clear e1 e2 e3 e4 e5 e6 hl6 hd6 hdr hk6e hk9e hl9
  go_upto_region 11 with (fail)
  have hbx : Below w9.heap.size w9 w9.drew := (Below.refl _ _).drew
  go_region_held3 (fun ww => (ww.cell? ⟨w.heap.size + 1, 0, none⟩ = some (.int .i64 4) ∧ ww.cell? ⟨w.heap.size + 1, 1, none⟩ = some (.int .i64 6)) ∧ ww.cell? ⟨w.heap.size, 0, none⟩ = some (.slice FA fn fc) ∧ ww.cell? ⟨w.heap.size, 1, none⟩ = some (.int .i64 f.torn) ∧ ww.cell? ⟨w.heap.size, 2, none⟩ = some (.int .i64 f.cut))
    (first | (with_reducible exact (HSS.out w9 (Below.refl _ _))) | (with_reducible exact (HSS.out _ hbx)))
    (first
      | ((with_reducible refine (HDI.out _ hbx).mono ?_); rintro q wn ⟨A4, n4, c4, B4, m4, x4, rfl, hD4, hbn⟩; have hbx := hbx.trans (hbn.mono hbx.size); have HD4 := hide hD4; clear hD4)
      | ((with_reducible refine (HFT.out _ (HBW.out.trans (hbx.mono HBW.out.size))).mono ?_); rintro q wf ⟨g4, rfl, hbf, hG4⟩; have hbx := hbx.trans (hbf.mono hbx.size); have HD4 := hide (HD4.out.below hbf); have HG4 := hide hG4; clear hG4)
      | ((with_reducible refine (HCR.out _ _ _ _ _ _ _ _ HD4.out HG4.out).mono ?_); rintro q wm ⟨A5, n5, c5, B5, m5, x5, rfl, hD5, hbm⟩; have hz5 := hbx.size; have hbx := hbx.trans (hbm.mono hbx.size); have HD5 := hide hD5; clear hD5)
      | ((with_reducible refine (HOP6.out _ _ _ _ _ _ _ _ HD5.out).mono ?_); rintro q wo6 ⟨b6, rfl, hM6, hbl6, hbo⟩; have hz6 := hbx.size; have hbx := hbx.trans (hbo.mono hbx.size)))
  obtain ⟨e1, e2, e3, e4, e5, e6⟩ := HE6.out
  have hke := HKE.out
  have g2 : k6.head.gen = 2 := by rw [hke]; exact e2
  have g4 : k6.text = oct b := by rw [hke]; exact e4
  have HTX : Hid (∀ ww, Below wo6.heap.size wo6 ww → Calls Try.prog 55 #[.pointer (some ⟨b6, 0, none⟩)] ww fun q w' => q = .returned (.string b) ∧ w' = ww) := fun ww hb => (km_text (hM6.below hb)).mono fun q w' ⟨h1, h2⟩ => ⟨by rw [h1, g4, mkB_oct], h2.symm⟩
  have HGN : Hid (∀ ww, Below wo6.heap.size wo6 ww → Calls Try.prog 62 #[.pointer (some ⟨b6, 0, none⟩)] ww fun q w' => q = .returned (.int .i64 2) ∧ w' = ww) := fun ww hb => (km_gen (hM6.below hb)).mono fun q w' ⟨h1, h2⟩ => ⟨by rw [h1, g2]; rfl, h2.symm⟩
  have HBX6 := hide (HBW.out.trans (hbx.mono HBW.out.size))
  clear e1 e2 e3 e4 e5 e6 hke g2 g4 hM6 hbl6 hz5 hz6 hbo hbn hbf hbm HD4 HG4 HD5 HDI HCR HOP6 HSS hM9 hk9 kC9 kF9 hbx
  go_upto_region 12 with (fail)
  go_wp2_with fail
  refine (HTX.out _ (Below.refl _ _)).mono ?_
  rintro q w7' ⟨rfl, rfl⟩
  go_wp2_with fail
  refine (HGN.out _ (Below.refl _ _)).mono ?_
  rintro q w8' ⟨rfl, rfl⟩
  go_wp2_with fail
  refine (awake21_any _).mono ?_
  rintro q w9' ⟨rfl, hb9'⟩
  have hbw := HBX6.out.trans (hb9'.mono HBX6.out.size)
  go_wp2_with fail
  go_ret
  exact ⟨rfl, hbw⟩
end Go.Proofs.Yteoiadfcchalfaa

/-! KeepTexts: for every input the law returns true, and writes nothing that was there. -/
namespace Go.Proofs.Yteoiadfcchalfaa.keepTexts
open Go.ChangeShapes Go.WideShapes Go.ChangeAt Go.RowKit
open Go.ChangeMaps (open_string shut_string)
set_option linter.unusedVariables false

set_option maxRecDepth 100000 in
theorem lifted (os : Os) (started : os.Started) (H : Type) (enc : TypeId × Value → H) :
    ReturnsInHanded {} Try.checked os 17 .any (Rows.keepTextsSpec.pre6 enc Try.prog Try.f17 Rows.keepTextsRow.domain false) (Rows.keepTextsSpec.post enc Try.prog Try.f17 false true false false) := by
  refine returnsInHanded_of_change (C := Try.checked) own started (by kernel_rfl) Try.func17
    (ChangeSpec.witness6 (enc := enc) (C := Try.checked) false ⟨#[], #[.string ByteArray.empty, .string ByteArray.empty, .agg #[.slice none 0 0, .int .i64 0, .int .i64 0]], []⟩ 8 (by kernel_rfl) (by kernel_rfl) (by kernel_rfl) (by kernel_rfl)) ?_
  intro W base args ds gs before hval0 hW hcnd _
  have hval : ∀ (j : Nat) t v, Try.f17.params[j]? = some t → args[j]? = some v → Value.okWide Try.prog W .any base t v := hval0
  have hW' := hW
  obtain ⟨p, q, hA0, hV, rfl, hfz, hnd⟩ := hW
  have hA : DataW.TrodAll enc Try.prog W 0 (fun _ => true) true Try.f17.params.toList args.toList ds p := hA0
  rw [Try.params17] at hA hval
  obtain ⟨v0, vs0, d0, ds0, p0, q0, hargs, rfl, rfl, h0, r0⟩ := trodAll_cons hA
  obtain ⟨v1, vs1, d1, ds1, p1, q1, rfl, rfl, rfl, h1, r1⟩ := trodAll_cons r0
  obtain ⟨v2, vs2, d2, ds2, p2, q2, rfl, rfl, rfl, h2, r2⟩ := trodAll_cons r1
  obtain ⟨rfl, rfl, rfl⟩ := trodAll_nil r2
  obtain rfl : args = #[v0, v1, v2] := by cases args; simp_all
  obtain ⟨rfl, rfl⟩ := trodVars_none hV
  have k0 := h0
  have lt0 : ∀ x ∈ p0, x.block < W.heap.size := by obtain ⟨m, hm⟩ := k0; exact DataW.trod_lt m _ _ _ hm
  obtain ⟨a0, rfl, rfl, rfl, w0⟩ := open_string Try.underlying9 (hval 0 9 v0 rfl rfl) h0
  have b0 : a0.size ≤ 9223372036854775807 := by unfold maxLen at w0; omega
  have k1 := h1
  have lt1 : ∀ x ∈ p1, x.block < W.heap.size := by obtain ⟨m, hm⟩ := k1; exact DataW.trod_lt m _ _ _ hm
  obtain ⟨a1, rfl, rfl, rfl, w1⟩ := open_string Try.underlying9 (hval 1 9 v1 rfl rfl) h1
  have b1 : a1.size ≤ 9223372036854775807 := by unfold maxLen at w1; omega
  have k2 := h2
  have lt2 : ∀ x ∈ p2, x.block < W.heap.size := by obtain ⟨m, hm⟩ := k2; exact DataW.trod_lt m _ _ _ hm
  obtain ⟨FA2, fn2, fc2, f2, rfl, hs2, b2, z2⟩ := open_fate_arg h2
  clear hA0 hval0
  refine (keepTexts_walk a0 a1 FA2 fn2 fc2 f2 W b0 b1 hs2 b2 z2).mono fun e W' ⟨he, bel⟩ => ?_
  subst he
  exact ⟨_, rfl, _, _, _, [], _, [], hW', trodAll_mk1 (shut_bool Try.underlying4 _), (trodAll_cons_mk (Below.trod laidOut (by kernel_rfl) (of_decide_eq_true (by kernel_rfl)) k0 bel lt0) (trodAll_cons_mk (Below.trod laidOut (by kernel_rfl) (of_decide_eq_true (by kernel_rfl)) k1 bel lt1) (trodAll_cons_mk (Below.trod laidOut (by kernel_rfl) (of_decide_eq_true (by kernel_rfl)) k2 bel lt2) trodAll_mk0))), rfl, bel.frame _, fun h => by cases h⟩

theorem over : Rows.keepTextsRow.holds Try.pinned (OpenSpec.ofChange Rows.keepTextsSpec) :=
  OpenClaim.holds_of_wide 17 Try.f17 rfl rfl rfl rfl rfl rfl rfl ⟨rfl, rfl, rfl, rfl, rfl⟩ rfl rfl rfl rfl rfl (by kernel_rfl) Try.func17 (by kernel_rfl)
    (of_decide_eq_true (by kernel_rfl)) (by unfold Func.isWrapper; first | (rw [if_pos (by decide +kernel)]; kernel_rfl) | (rw [if_neg (by decide +kernel)]; exact ⟨rfl, rfl⟩))
    (fun os started H enc _ => lifted os started H enc)

theorem proved : Rows.KeepTextsSaid := over
end Go.Proofs.Yteoiadfcchalfaa.keepTexts
