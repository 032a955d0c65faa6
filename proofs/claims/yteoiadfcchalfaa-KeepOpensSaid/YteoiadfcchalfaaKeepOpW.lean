/- The walk of KeepOpens. (printed by op.py) -/
import Derived.Test.YteoiadfcchalfaaKeepU
namespace Go.Proofs.Yteoiadfcchalfaa
open Go.RowKit
open DiskP (Bytes Disk Wr Fate noughts)
open KeepP (Cut Head K Kept okC okH newestP pagesP saveP beginP openP)
open LogP (Log zeroL Live okL Holds)
set_option linter.unusedVariables false
namespace Op

theorem wrV_take : ∀ (l : List Wr) (m : Nat), wrV (l.take m) = (wrV l).take (m * 2)
  | [], m => by simp [wrV]
  | x :: l, 0 => by simp [wrV]
  | x :: l, m + 1 => by
    rw [List.take_succ_cons, show (m + 1) * 2 = m * 2 + 1 + 1 by omega]
    simp only [wrV, List.take_succ_cons]
    rw [wrV_take l m]
theorem secV_take (l : List Bytes) (m : Nat) : secV (l.take m) = (secV l).take m := by simp [secV, strs, List.map_take]
theorem sl_take2 {w : World} {V : Nat → Prop} {A : Option Addr} {n m : Nat} {xs : List Value} (h : Sl w V 2 A n xs) (hm : m ≤ n) : Sl w V 2 A m (xs.take (m * 2)) := by
  have h1 := h.1
  refine ⟨by rw [List.length_take]; omega, fun hp => ?_⟩
  obtain ⟨a, e, hv, hb, hc⟩ := h.2 (by omega)
  refine ⟨a, e, hv, hb, fun j u hu => hc j u ?_⟩
  rw [List.getElem?_take] at hu
  split at hu
  · exact hu
  · cases hu
theorem same_sec {A B : Option Addr} {n m c d : Nat} {l r : List Bytes} {V U : Nat → Prop} {w : World} (h : Sl w V 1 A n (secV l)) (g : Sl w U 1 B m (secV r)) (hn : n ≤ 1000000) :
    Calls Try.prog 21 #[.slice A n c, .slice B m d] w fun e w' => e = .returned (.bool (decide (l = r))) ∧ ∃ q, w' = w.drewN q := by
  refine (same_any A B n m c d (l.map mkB) (r.map mkB) V U w h g (by omega)).mono ?_
  rintro e w' ⟨rfl, h⟩
  exact ⟨by rw [octs_map_mkB, octs_map_mkB], h⟩
theorem sizeI_nat {l p : Int} (h : sizeI l p ≠ 0) : ∃ c : Cut, (c.log : Int) = l ∧ (c.pages : Int) = p ∧ okC c ∧ sizeI l p = (KeepP.size c : Int) := by
  have h2 := h
  unfold sizeI at h2
  split at h2
  · exact absurd rfl h2
  · refine ⟨⟨l.toNat, p.toNat⟩, by show ((l.toNat : Nat) : Int) = l; omega, by show ((p.toNat : Nat) : Int) = p; omega, ⟨by show 2 ≤ l.toNat; omega, by show l.toNat ≤ 400; omega, by show 1 ≤ p.toNat; omega, by show p.toNat ≤ 100; omega⟩, ?_⟩
    unfold sizeI KeepP.size KeepP.half
    rw [if_neg (by assumption)]
    show 2 + 2 * l + 16 * p = ((2 + 2 * (l.toNat + 8 * p.toNat) : Nat) : Int)
    omega
/-- what is kept at a place, whatever its blocks -/
theorem km_true {w : World} {V : Nat → Prop} {b : Nat} {rv : Value} {k : K} (h : KeepAt w V b rv k) : KM w (fun _ => True) b k := ⟨rv, h.mono fun _ _ _ => trivial, trivial, fun _ _ => trivial⟩

set_option maxRecDepth 100000 in
set_option maxHeartbeats 12800000 in
theorem keepOpens_walk (SA : Option Addr) (sc : Nat) (ss : List Bytes) (WA : Option Addr) (cw : Nat) (ws : List Wr) (lf : Int) (dd : Bool) (l p : Int) (st : ByteArray) (w : World) (h1 : ss.length ≤ sc) (h2 : sc ≤ 9223372036854775807) (hS : Sl w (fun _ => True) 1 SA ss.length (secV ss)) (h3 : ws.length ≤ cw) (h4 : cw ≤ 9223372036854775807)
    (hW : Sl w (fun _ => True) 2 WA ws.length (wrV ws)) (h5 : lf ≤ 9223372036854775807) (hst : st.size ≤ 9223372036854775807) :
    Calls Try.prog 15 #[.agg #[.slice SA ss.length sc, .slice WA ws.length cw, .int .i64 lf, .bool dd], .agg #[.int .i64 l, .int .i64 p], .string st] w fun q w' => q = .returned (.bool true) ∧ Below w.heap.size w w' := by
  have HT := hide (fun ww => few21_any st ww hst)
  have zT := few21_size st
  obtain ⟨t, ht⟩ : ∃ t, t = few21 st := ⟨_, rfl⟩
  rw [← ht] at HT zT
  obtain ⟨sn, hsn⟩ : ∃ sn, sn = ss.length := ⟨_, rfl⟩
  obtain ⟨wn, hwn⟩ : ∃ wn, wn = ws.length := ⟨_, rfl⟩
  obtain ⟨n1, hn1⟩ : ∃ n1, n1 = min sn 140 := ⟨_, rfl⟩
  obtain ⟨m1, hm1⟩ : ∃ m1, m1 = min wn 10 := ⟨_, rfl⟩
  rw [← hsn] at h1 hS ⊢
  rw [← hwn] at h3 hW ⊢
  have kD0 := (Box.new w 50 #[.slice SA sn sc, .slice WA wn cw, .int .i64 lf, .bool dd]).up (.cells #[.int .i64 l, .int .i64 p] 85)
  have kC0 := Box.new (w.alloc (.cells #[.slice SA sn sc, .slice WA wn cw, .int .i64 lf, .bool dd] 50)) 85 #[.int .i64 l, .int .i64 p]
  have hb0 := ((Below.refl w.heap.size w).alloc (Nat.le_refl _) (.cells #[.slice SA sn sc, .slice WA wn cw, .int .i64 lf, .bool dd] 50)).alloc (by simp) (.cells #[.int .i64 l, .int .i64 p] 85)
  simp only [World.size_alloc] at kC0
  obtain ⟨w0, hw0⟩ : ∃ y, y = (w.alloc (.cells #[.slice SA sn sc, .slice WA wn cw, .int .i64 lf, .bool dd] 50)).alloc (.cells #[.int .i64 l, .int .i64 p] 85) := ⟨_, rfl⟩
  obtain ⟨bd, hbd⟩ : ∃ x, x = w.heap.size := ⟨_, rfl⟩
  obtain ⟨bc, hbc⟩ : ∃ x, x = w.heap.size + 1 := ⟨_, rfl⟩
  rw [← hw0] at kD0 kC0 hb0
  rw [← hbd] at kD0
  rw [← hbc] at kC0
  have hHD : Hid (∀ ww, Below w.heap.size w ww → Dk ww (fun x => x < w.heap.size) SA n1 sc WA m1 cw ⟨ss.take n1, ws.take m1, lf, dd⟩) := fun ww hb => by
    refine ⟨?_, ?_, by omega, by omega, by omega, by omega, h5⟩
    · show Sl ww _ 1 SA n1 (secV (ss.take n1))
      rw [secV_take]
      exact (Sl.take hS.lt (by omega)).below hb
    · show Sl ww _ 2 WA m1 (wrV (ws.take m1))
      rw [wrV_take]
      exact (sl_take2 hW.lt (by omega)).below hb
  obtain ⟨D, hDe⟩ : ∃ D : Disk, D = ⟨ss.take n1, ws.take m1, lf, dd⟩ := ⟨_, rfl⟩
  have g1 : D.left = lf := by rw [hDe]
  have g2 : D.dead = dd := by rw [hDe]
  have g3 : D.S.length = n1 := by rw [hDe]; show (ss.take n1).length = n1; rw [List.length_take]; omega
  have g4 : D.W.length ≤ 10 := by rw [hDe]; show (ws.take m1).length ≤ 10; rw [List.length_take]; omega
  rw [← hDe] at hHD
  have HZT := hide zT
  have HW0 := hide hw0
  have HB0 := hide hb0
  have HBD := hide (And.intro hbd hbc)
  have HG := hide (And.intro g1 (And.intro g2 (And.intro g3 g4)))
  have HN1 := hide hn1
  have HM1 := hide hm1
  obtain ⟨bq1, hq1⟩ : ∃ b, decide ((140 : Int) < (sn : Int)) = b := ⟨_, rfl⟩
  obtain ⟨bq2, hq2⟩ : ∃ b, decide ((10 : Int) < (wn : Int)) = b := ⟨_, rfl⟩
  have HQ1 := hide hq1
  have HQ2 := hide hq2
  have z1 : n1 ≤ 140 := by omega
  have HLE := hide (And.intro h1 h3)
  clear ht hst zT hsn hwn hn1 hm1 h1 h2 h3 h4 h5 hS hW hw0 hb0 hbd hbc hDe g1 g2 g3 g4 hq2
  go_enter Try.func15, Try.ntmps15
  go_upto_region 1 with (fail)
  rw [← HW0.out, ← HBD.out.2, ← HBD.out.1]
  clear HW0
  go_wp2_with fail
  refine (HT.out _).mono ?_
  rintro q w' ⟨rfl, rfl⟩
  obtain ⟨q0, q1, q2, q3⟩ := kD0.cell4
  go_upto_if 19 with (fail)
  clear hq1
  go_cut [] from 20 to 23 (fun wx => Box wx bd 50 #[.slice SA n1 sc, .slice WA wn cw, .int .i64 lf, .bool dd] ∧ Box wx bc 85 #[.int .i64 l, .int .i64 p] ∧ Below w.heap.size w wx)
  case first =>
    cases bq1 with
    | true =>
      have b0 := HQ1.out
      have b1 : (140 : Int) < (sn : Int) := by simpa using b0
      have b3 : (140 : Int) ≤ (sc : Int) := by have := HLE.out.1; omega
      have f0 := kD0.frozen 0
      have hn : n1 = 140 := by rw [HN1.out]; omega
      have HN := hide hn
      have HF : Hid (Box (w0.setCell ⟨bd, 0, none⟩ (.slice SA 140 sc)) bd 50 #[.slice SA n1 sc, .slice WA wn cw, .int .i64 lf, .bool dd] ∧ Box (w0.setCell ⟨bd, 0, none⟩ (.slice SA 140 sc)) bc 85 #[.int .i64 l, .int .i64 p] ∧ Below w.heap.size w (w0.setCell ⟨bd, 0, none⟩ (.slice SA 140 sc))) := by
        obtain ⟨e1, e2⟩ := HBD.out
        rw [HN.out]
        exact ⟨kD0.set 0 _, kC0.other (a := ⟨bd, 0, none⟩) (by show bd ≠ bc; omega) _, Below.setCell HB0.out (by show w.heap.size ≤ bd; omega) _⟩
      clear b0 hn
      go_wp2_with fail
      go_meet
      exact HF.out
    | false =>
      have b0 := HQ1.out
      have b1 : ¬ (140 : Int) < (sn : Int) := by simpa using b0
      have hn : n1 = sn := by rw [HN1.out]; omega
      have HN := hide hn
      clear b0 hn b1
      go_wp2_with fail
      go_meet
      exact ⟨by rw [HN.out]; exact kD0, kC0, HB0.out⟩
  case rest =>
    clear kD0 kC0 q0 q1 q2 q3
    revert wc
    intro wL hcut
    obtain ⟨kD1, kC1, hb1⟩ := hcut
    obtain ⟨q0, q1, q2, q3⟩ := kD1.cell4
    have hq2 := HQ2.out
    go_upto_if 27 with (fail)
    clear hq2
    go_cut [] from 28 to 31 (fun wx => Box wx bd 50 #[.slice SA n1 sc, .slice WA m1 cw, .int .i64 lf, .bool dd] ∧ Box wx bc 85 #[.int .i64 l, .int .i64 p] ∧ Below w.heap.size w wx)
    case first =>
      cases bq2 with
      | true =>
        have b0 := HQ2.out
        have b1 : (10 : Int) < (wn : Int) := by simpa using b0
        have b3 : (10 : Int) ≤ (cw : Int) := by have := HLE.out.2; omega
        have f1 := kD1.frozen 1
        have hn : m1 = 10 := by rw [HM1.out]; omega
        have HN := hide hn
        have HF : Hid (Box (wL.setCell ⟨bd, 1, none⟩ (.slice WA 10 cw)) bd 50 #[.slice SA n1 sc, .slice WA m1 cw, .int .i64 lf, .bool dd] ∧ Box (wL.setCell ⟨bd, 1, none⟩ (.slice WA 10 cw)) bc 85 #[.int .i64 l, .int .i64 p] ∧ Below w.heap.size w (wL.setCell ⟨bd, 1, none⟩ (.slice WA 10 cw))) := by
          obtain ⟨e1, e2⟩ := HBD.out
          rw [HN.out]
          exact ⟨kD1.set 1 _, kC1.other (a := ⟨bd, 1, none⟩) (by show bd ≠ bc; omega) _, Below.setCell hb1 (by show w.heap.size ≤ bd; omega) _⟩
        clear b0 hn hb1
        go_wp2_with fail
        go_meet
        exact HF.out
      | false =>
        have b0 := HQ2.out
        have b1 : ¬ (10 : Int) < (wn : Int) := by simpa using b0
        have hn : m1 = wn := by rw [HM1.out]; omega
        have HN := hide hn
        have HB1 := hide hb1
        clear b0 hn b1 hb1
        go_wp2_with fail
        go_meet
        exact ⟨by rw [HN.out]; exact kD1, kC1, HB1.out⟩
    case rest =>
      clear kD1 kC1 q0 q1 q2 q3 hb1 HQ1 HQ2 HN1 HM1 HLE
      revert wc
      intro wY hcut
      obtain ⟨kD2, kC2, hb2⟩ := hcut
      have HD := hide (hHD.out wY hb2)
      have HBY := hide hb2
      have HSS0 : Hid (∀ ww, Below wY.heap.size wY ww → (ww.cell? ⟨bd, 0, none⟩ = some (.slice SA n1 sc) ∧ ww.cell? ⟨bd, 1, none⟩ = some (.slice WA m1 cw) ∧ ww.cell? ⟨bd, 2, none⟩ = some (.int .i64 lf) ∧ ww.cell? ⟨bd, 3, none⟩ = some (.bool dd)) ∧ ww.cell? ⟨bc, 0, none⟩ = some (.int .i64 l) ∧ ww.cell? ⟨bc, 1, none⟩ = some (.int .i64 p)) := fun ww hb => ⟨(kD2.belowS hb).cell4, (kC2.belowS hb).cell2⟩
      have hrs := rsize_any l p
      obtain ⟨sz, hsz⟩ : ∃ sz, sz = sizeI l p := ⟨_, rfl⟩
      rw [← hsz] at hrs
      have HSZ := hide hrs
      obtain ⟨g1, g2, g3, g4⟩ := HG.out
      obtain ⟨my, hmy⟩ : ∃ my, my = DiskP.may D := ⟨_, rfl⟩
      have HMA : Hid (∀ ww V', Dk ww V' SA n1 sc WA m1 cw D → Calls Try.prog 39 #[.agg #[.slice SA n1 sc, .slice WA m1 cw, .int .i64 lf, .bool dd]] ww fun q w' => q = .returned (.bool my) ∧ Below ww.heap.size ww w') := fun ww V' hD => by
        have := rmay_any SA n1 sc WA m1 cw D V' ww hD
        rw [g1, g2, ← hmy] at this
        exact this
      by_cases hG : sz ≠ 0 ∧ my = true ∧ (n1 : Int) = sz
      · obtain ⟨hz, hm, hn⟩ := hG
        have z1 : (sz == 0) = false := by simpa using hz
        have z2 : decide (sz = 0) = false := by simpa using hz
        have z3 : ((n1 : Int) == sz) = true := by simpa using hn
        have z4 : ((n1 : Int) != sz) = false := by simpa using hn
        have z5 : decide ((n1 : Int) = sz) = true := by simpa using hn
        have hmt : DiskP.may D = true := by rw [← hmy, hm]
        subst hm
        cases dd with
        | true =>
          have HO1 : Hid (Calls Try.prog 60 #[.agg #[.slice SA n1 sc, .slice WA m1 cw, .int .i64 lf, .bool true], .agg #[.int .i64 l, .int .i64 p]] wY fun q w' => q = .returned (.tuple #[.pointer none, .int .i64 14]) ∧ Below wY.heap.size wY w') := by
            have := open_dead SA n1 sc WA m1 cw D _ l p wY HD.out hmt g2 (by rw [← hsz]; exact hz) (by rw [← hsz]; exact hn)
            rw [g1, g2] at this
            exact this
          clear kD2 kC2 hb2 hrs hsz g1 g2 g3 g4 hmy hmt hn hz
          obtain ⟨⟨q0, q1, q2, q3⟩, q4, q5⟩ := HSS0.out _ (Below.refl _ _)
          go_upto_region 6 with (fail)
          go_wp2_with fail
          refine HO1.out.mono ?_
          rintro q w5 ⟨rfl, hb5⟩
          clear q0 q1 q2 q3 q4 q5
          have HSS : Hid (∀ ww, Below w5.heap.size w5 ww → (ww.cell? ⟨bd, 0, none⟩ = some (.slice SA n1 sc) ∧ ww.cell? ⟨bd, 1, none⟩ = some (.slice WA m1 cw) ∧ ww.cell? ⟨bd, 2, none⟩ = some (.int .i64 lf) ∧ ww.cell? ⟨bd, 3, none⟩ = some (.bool true)) ∧ ww.cell? ⟨bc, 0, none⟩ = some (.int .i64 l) ∧ ww.cell? ⟨bc, 1, none⟩ = some (.int .i64 p)) := fun ww hb => HSS0.out ww (hb5.trans (hb.mono hb5.size))
          have HD0 := hide (HD.out.below hb5)
          have HB5 := hide (HBY.out.trans (hb5.mono HBY.out.size))
          have hbx : Below w5.heap.size w5 w5.drew := (Below.refl _ _).drew
          clear hb5
          go_upto_region 7 with (fail)
          go_region_held3 (fun ww => (ww.cell? ⟨bd, 0, none⟩ = some (.slice SA n1 sc) ∧ ww.cell? ⟨bd, 1, none⟩ = some (.slice WA m1 cw) ∧ ww.cell? ⟨bd, 2, none⟩ = some (.int .i64 lf) ∧ ww.cell? ⟨bd, 3, none⟩ = some (.bool true)) ∧ ww.cell? ⟨bc, 0, none⟩ = some (.int .i64 l) ∧ ww.cell? ⟨bc, 1, none⟩ = some (.int .i64 p))
            (first | (with_reducible exact (HSS.out w5 (Below.refl _ _))) | (with_reducible exact (HSS.out _ hbx)))
            (first
              | ((with_reducible refine (HSZ.out _).mono ?_); rintro q wn ⟨rfl, hbn⟩; have hbx := hbx.trans (hbn.mono hbx.size))
              | ((with_reducible refine (HMA.out _ _ (HD0.out.below hbx)).mono ?_); rintro q wn ⟨rfl, hbn⟩; have hbx := hbx.trans (hbn.mono hbx.size)))
          obtain ⟨⟨p0, p1, p2, p3⟩, _, _⟩ := HSS.out _ hbx
          have HBX := hide (HB5.out.trans (hbx.mono HB5.out.size))
          clear hbx
          go_wp2_with fail
          refine (awake21_any _).mono ?_
          rintro q w9 ⟨rfl, hb9⟩
          have HBE := hide (HBX.out.trans (hb9.mono HBX.out.size))
          clear hb9
          go_wp2_with fail
          go_ret
          exact ⟨rfl, HBE.out⟩
        | false =>
          obtain ⟨ct, c1, c2, hco, hcs⟩ := sizeI_nat (l := l) (p := p) (by rw [← hsz]; exact hz)
          have hsn : n1 = KeepP.size ct := by rw [← hsz] at hcs; omega
          have hlive : Live (KeepP.size ct) D := ⟨hmt, by rw [g3, hsn], g2⟩
          have HOA : Hid (∀ ww, Below wY.heap.size wY ww → Calls Try.prog 60 #[.agg #[.slice SA n1 sc, .slice WA m1 cw, .int .i64 lf, .bool false], .agg #[.int .i64 l, .int .i64 p]] ww fun q w' => OpenE ww (fun x => x < w.heap.size) (openP D ct) q w' ∧ Below ww.heap.size ww w') := fun ww hb => by
            have := open_any SA n1 sc WA m1 cw D _ ct ww (HD.out.below hb) hmt g2 hco hsn
            rw [g1, g2] at this
            rw [← c1, ← c2]
            exact this
          have hno : ∀ er : Nat, openP D ct = (none, er) → Calls Try.prog 60 #[.agg #[.slice SA n1 sc, .slice WA m1 cw, .int .i64 lf, .bool false], .agg #[.int .i64 l, .int .i64 p]] wY fun q w' => q = .returned (.tuple #[.pointer none, .int .i64 (er : Nat)]) ∧ Below wY.heap.size wY w' := fun er he => by
            refine (HOA.out wY (Below.refl _ _)).mono ?_
            rintro q w' ⟨h, hb⟩
            rw [he] at h
            exact ⟨h, hb⟩
          rcases KeepP.openP_err (d := D) (c := ct) with ⟨k, hk⟩ | he | he
          · obtain ⟨hkc, hkd, hkh, hkr, hkq, hkq1⟩ := opened_few hco hlive hk
            subst hkd
            subst hkc
            have HOS : Hid (∀ ww, Below wY.heap.size wY ww → Calls Try.prog 60 #[.agg #[.slice SA n1 sc, .slice WA m1 cw, .int .i64 lf, .bool false], .agg #[.int .i64 l, .int .i64 p]] ww fun q w' => ∃ b rv, q = .returned (.tuple #[.pointer (some ⟨b, 0, none⟩), .int .i64 0]) ∧ KeepAt w' (fun x => x < w.heap.size ∨ ww.heap.size ≤ x) b rv k ∧ ww.heap.size ≤ b ∧ (∀ g, rv.ownBlock = some g → ww.heap.size ≤ g) ∧ Below ww.heap.size ww w') := fun ww hb => by
              refine (HOA.out ww hb).mono ?_
              rintro q w' ⟨h, hb⟩
              rw [hk] at h
              obtain ⟨b, rv, h1, h2, h3, h4⟩ := h
              exact ⟨b, rv, h1, h2, h3, h4, hb⟩
            have HKF := hide (And.intro hco (And.intro hkh (And.intro hkr (And.intro hkq (And.intro hkq1 (And.intro hlive hk))))))
            have HCC := hide (And.intro c1 c2)
            clear kD2 kC2 hb2 hrs hsz g1 g2 g3 hmy hmt hn hz c1 c2 hco hcs hsn hlive hno HOA hkh hkr hkq hkq1 hk
            have HG4 := hide g4
            clear g4
            obtain ⟨⟨q0, q1, q2, q3⟩, q4, q5⟩ := HSS0.out _ (Below.refl _ _)
            go_upto_region 6 with (fail)
            go_wp2_with fail
            refine (HOS.out _ (Below.refl _ _)).mono ?_
            rintro q w5 ⟨b, rv, rfl, hK, hbl, hrl, hb5⟩
            clear q0 q1 q2 q3 q4 q5
            have HSS : Hid (∀ ww, Below w5.heap.size w5 ww → (ww.cell? ⟨bd, 0, none⟩ = some (.slice SA n1 sc) ∧ ww.cell? ⟨bd, 1, none⟩ = some (.slice WA m1 cw) ∧ ww.cell? ⟨bd, 2, none⟩ = some (.int .i64 lf) ∧ ww.cell? ⟨bd, 3, none⟩ = some (.bool false)) ∧ ww.cell? ⟨bc, 0, none⟩ = some (.int .i64 l) ∧ ww.cell? ⟨bc, 1, none⟩ = some (.int .i64 p)) := fun ww hb => HSS0.out ww (hb5.trans (hb.mono hb5.size))
            have HD0 := hide (HD.out.below hb5)
            have HB5 := hide (HBY.out.trans (hb5.mono HBY.out.size))
            have HB5Y := hide hb5
            have HKA := hide (And.intro hK (And.intro hbl hrl))
            have hbx : Below w5.heap.size w5 w5.drew := (Below.refl _ _).drew
            clear hb5 hK hbl hrl
            go_upto_region 7 with (fail)
            go_region_held3 (fun ww => (ww.cell? ⟨bd, 0, none⟩ = some (.slice SA n1 sc) ∧ ww.cell? ⟨bd, 1, none⟩ = some (.slice WA m1 cw) ∧ ww.cell? ⟨bd, 2, none⟩ = some (.int .i64 lf) ∧ ww.cell? ⟨bd, 3, none⟩ = some (.bool false)) ∧ ww.cell? ⟨bc, 0, none⟩ = some (.int .i64 l) ∧ ww.cell? ⟨bc, 1, none⟩ = some (.int .i64 p))
              (first | (with_reducible exact (HSS.out w5 (Below.refl _ _))) | (with_reducible exact (HSS.out _ hbx)))
              (first
                | ((with_reducible refine (HSZ.out _).mono ?_); rintro q wn ⟨rfl, hbn⟩; have hbx := hbx.trans (hbn.mono hbx.size))
                | ((with_reducible refine (HMA.out _ _ (HD0.out.below hbx)).mono ?_); rintro q wn ⟨rfl, hbn⟩; have hbx := hbx.trans (hbn.mono hbx.size)))
            obtain ⟨⟨p0, p1, p2, p3⟩, p4, p5⟩ := HSS.out _ hbx
            have HBX := hide hbx
            clear hbx
            go_upto_region 13 with (fail)
            go_wp2_with fail
            refine (HOS.out _ (HB5Y.out.trans (HBX.out.mono HB5Y.out.size))).mono ?_
            rintro q w7 ⟨b2, rv2, rfl, hK2, hbl2, hrl2, hb7⟩
            clear p0 p1 p2 p3 p4 p5
            have hKn := HKA.out.1.below HBX.out
            have hK7 := hKn.below hb7
            obtain ⟨rn, hrn⟩ : ∃ rn, rn = k.records.length := ⟨_, rfl⟩
            obtain ⟨kx, hkx⟩ : ∃ kx, kx = mkB k.text := ⟨_, rfl⟩
            obtain ⟨gn, hgn⟩ : ∃ gn : Int, gn = (k.head.gen : Nat) := ⟨_, rfl⟩
            have hrz : k.records.length ≤ 1000000 := by have := HKF.out.2.2.1; omega
            have HTO := hide (reo_text (s := kx) (km_true hK2) (by rw [hkx, oct_mkB]))
            have HTK := hide (reo_text (s := kx) (km_true hK7) (by rw [hkx, oct_mkB]))
            have HRO := hide (reo_records (km_true hK2) hrz rfl hrn)
            have HRK := hide (reo_records (km_true hK7) hrz rfl hrn)
            have HGO := hide (reo_gen (g := gn) (km_true hK2) hgn.symm)
            have HGK := hide (reo_gen (g := gn) (km_true hK7) hgn.symm)
            have HSM : Hid (∀ ww (V U : Nat → Prop) X xc Y yc, Sl ww V 1 X rn (secV k.records) → Sl ww U 1 Y rn (secV k.records) → Calls Try.prog 21 #[.slice X rn xc, .slice Y rn yc] ww fun e w' => e = .returned (.bool true) ∧ ∃ q, w' = ww.drewN q) := fun ww V U X xc Y yc h g => by
              have := same_sec (c := xc) (d := yc) h g (by rw [hrn]; exact hrz)
              simpa using this
            have HKA2 := hide (And.intro hK2 (And.intro hbl2 hrl2))
            have HK7 := hide (And.intro hKn hK7)
            have HB7 := hide hb7
            have HGN := hide hgn
            clear hK2 hbl2 hrl2 hKn hK7 hb7 hrn hkx hgn hrz
            go_upto_region 14 with (fail)
            go_wp2_with fail
            refine (HTO.out _ (Below.refl _ _)).mono ?_
            rintro q wa ⟨rfl, rfl⟩
            go_wp2_with fail
            refine (HTK.out _ (Below.refl _ _)).mono ?_
            rintro q wa ⟨rfl, rfl⟩
            go_wp2_with fail
            refine (HRO.out _ (Below.refl _ _)).mono ?_
            rintro q wb ⟨X, xc, rfl, hsX, hbb⟩
            have HSX := hide hsX
            have HBB := hide hbb
            clear hsX hbb
            go_wp2_with fail
            refine (HRK.out _ HBB.out).mono ?_
            rintro q wd ⟨Y, yc, rfl, hsY, hbd2⟩
            have HSM1 := hide (HSM.out wd _ _ X xc Y yc (HSX.out.below hbd2) hsY)
            have HBD2 := hide (HBB.out.trans (hbd2.mono HBB.out.size))
            clear hsY hbd2 HSX
            go_wp2_with fail
            refine HSM1.out.mono ?_
            rintro q we ⟨rfl, nq, rfl⟩
            have hb8 := below_drewN HBD2.out nq
            obtain ⟨w8, hw8⟩ : ∃ y, y = wd.drewN nq := ⟨_, rfl⟩
            rw [← hw8] at hb8 ⊢
            have HB8 := hide hb8
            clear hw8 hb8 HSM1 HSM HTO HTK HRO HRK
            go_wp2_with fail
            refine (HGO.out _ HB8.out).mono ?_
            rintro q w8 ⟨rfl, rfl⟩
            go_wp2_with fail
            refine (HGK.out _ HB8.out).mono ?_
            rintro q w8 ⟨rfl, rfl⟩
            clear HGO HGK
            go_upto_region 16 with (fail)
            obtain ⟨hco, hkh, hkr, hkq, hkq1, hlive, hk⟩ := HKF.out
            have hK8 := HK7.out.2.below HB8.out
            have hK28 := HKA2.out.1.below HB8.out
            have hltn := HK7.out.1.lt
            have hltA := HKA.out.2
            have hbw8 := ((HB5.out.trans (HBX.out.mono HB5.out.size)).trans (HB7.out.mono (Nat.le_trans HB5.out.size HBX.out.size))).trans (HB8.out.mono (Nat.le_trans (Nat.le_trans HB5.out.size HBX.out.size) HB7.out.size))
            have hzY := HBY.out.size
            have hm1 := hkh.2.1
            unfold LogP.maxSeq at hm1 hkq
            by_cases hroom : svRoom k (oct t)
            · have hh : okH (svH k (oct t)) := ⟨by show 1 ≤ k.head.gen + 1; omega, hroom.2.1, by show 1 - k.head.half ≤ 1; omega, hkq1, hroom.2.2, by show (pagesP (oct t)).length < 65536; have := hroom.1; have := hco.2.2.2; omega⟩
              obtain ⟨⟨d', e⟩, he⟩ : ∃ r, saveP k.drive k.cut (svH k (oct t)) (pagesP (oct t)) = r := ⟨_, rfl⟩
              have hsv := ksave_any _ b rv k t w8 hK8 hlive.may hlive.dead (by have := HG4.out; omega) hco hkh.2.2.1 (by omega) (by omega) (by have := HZT.out; omega) hroom
              rw [he] at hsv
              rcases Nat.eq_zero_or_pos e with h0 | hpos
              · subst h0
                have hkN : Kept (svN k (oct t) d') := KeepP.opened_save hlive hco hk hh rfl rfl hroom.1 he
                have HSV := hide hsv
                have HKN := hide hkN
                have HK28 := hide hK28
                have HLT := hide (And.intro hltn hltA)
                have HBW8 := hide hbw8
                have HGB := hide hm1
                clear hsv hkN hK28 hltn hltA hbw8 hm1 he hh hroom hK8 hco hkh hkr hkq hkq1 hlive hk
                go_wp2_with fail
                refine HSV.out.mono ?_
                rintro q w9 ⟨rfl, rv', s1, s2, s3⟩
                rw [svK, if_pos rfl] at s1
                have hKN : KM w9 (fun _ => True) b (svN k (oct t) d') := km_true s1
                have hK29 := HK28.out.keep s3.size fun x hx hor => s3.block x hx (fun e1 => by
                  obtain ⟨hl1, hl2⟩ := HLT.out
                  have := HBX.out.size
                  have := HB5.out.size
                  rcases hor with (h | h) | h | h
                  · omega
                  · omega
                  · have := HKA2.out.2.1; omega
                  · have := HKA2.out.2.2 x h; omega) fun e1 => by
                  obtain ⟨hl1, hl2⟩ := HLT.out
                  have := HBX.out.size
                  have h6 := hl1.2 x e1
                  have h7 := hl2.2 x e1
                  rcases hor with (h | h) | h | h
                  · omega
                  · omega
                  · have := HKA2.out.2.1; omega
                  · have := HKA2.out.2.2 x h; omega
                have hb9 : Below w.heap.size w w9 := s3.below HBW8.out (by have := HLT.out.2.1; omega) (fun g hg => by have := HLT.out.2.2 g hg; omega) HBW8.out.size
                have HGN9 := hide (reo_gen (g := gn + 1) hKN (by rw [HGN.out]; rfl))
                have HGO9 := hide (reo_gen (g := gn) (km_true hK29) HGN.out.symm)
                have hgn0 : (0 : Int) ≤ gn ∧ gn ≤ 4611686018427387903 := by have := HGN.out; have := HGB.out; omega
                have w1' : IntKind.i64.wrap (gn + 1) = gn + 1 := IntWalk.i64_in _ (by omega)
                have w2' : wrap64 (gn + 1) = gn + 1 := by unfold wrap64; omega
                have hk5 := HKN.out.crash ⟨[], 0, 0⟩
                obtain ⟨k5, hk5e⟩ : ∃ k5 : K, k5 = { svN k (oct t) d' with drive := DiskP.crash (svN k (oct t) d').drive ⟨[], 0, 0⟩ } := ⟨_, rfl⟩
                have j1 : k5.drive = DiskP.crash (svN k (oct t) d').drive ⟨[], 0, 0⟩ := by rw [hk5e]
                have j2 : k5.text = oct t := by rw [hk5e]
                have j3 : k5.records = [] := by rw [hk5e]
                have j4 : k5.cut = k.cut := by rw [hk5e]
                rw [← hk5e] at hk5
                obtain ⟨kn, hkn⟩ : ∃ kn : K, kn = svN k (oct t) d' := ⟨_, rfl⟩
                rw [← hkn] at hKN j1
                have HDI := hide (reo_disk hKN)
                have HCR := hide (reo_crash0 (d := kn.drive) (by rw [hkn]; exact HKN.out.log.live.may) j1)
                have HOP5 := hide (reo_open (cl := l) (cp := p) hk5 (by rw [j4]; exact HCC.out.1) (by rw [j4]; exact HCC.out.2))
                have hbY9 : Below wY.heap.size wY w9 := s3.below (((HB5Y.out.trans (HBX.out.mono HB5Y.out.size)).trans (HB7.out.mono (Nat.le_trans HB5Y.out.size HBX.out.size))).trans (HB8.out.mono (Nat.le_trans (Nat.le_trans HB5Y.out.size HBX.out.size) HB7.out.size))) HLT.out.2.1 HLT.out.2.2 (Nat.le_trans (Nat.le_trans (Nat.le_trans HB5Y.out.size HBX.out.size) HB7.out.size) HB8.out.size)
                have HSS9 : Hid (∀ ww, Below w9.heap.size w9 ww → ww.cell? ⟨bc, 0, none⟩ = some (.int .i64 l) ∧ ww.cell? ⟨bc, 1, none⟩ = some (.int .i64 p)) := fun ww hb => (HSS0.out ww (hbY9.trans (hb.mono hbY9.size))).2
                have HB9 := hide hb9
                have HJ := hide (And.intro j2 j3)
                have HW1' := hide w2'
                clear s1 s2 s3 hKN hK29 hb9 hk5 hk5e j1 j2 j3 j4 hkn hbY9 hgn0
                rw [show ((0 : Nat) : Int) = 0 from rfl]
                go_upto_region 19 with (fail)
                go_wp2_with fail
                refine (HGN9.out _ (Below.refl _ _)).mono ?_
                rintro q w9 ⟨rfl, rfl⟩
                go_wp2_with fail
                refine (HGO9.out _ (Below.refl _ _)).mono ?_
                rintro q w9 ⟨rfl, rfl⟩
                go_upto_region 21 with (fail)
                clear w1' w2' HW1' HGN9 HGO9
                have hbx : Below w9.heap.size w9 w9.drew := (Below.refl _ _).drew
                go_region_held3 (fun ww => ww.cell? ⟨bc, 0, none⟩ = some (.int .i64 l) ∧ ww.cell? ⟨bc, 1, none⟩ = some (.int .i64 p))
                  (first | (with_reducible exact (HSS9.out w9 (Below.refl _ _))) | (with_reducible exact (HSS9.out _ hbx)))
                  (first
                    | ((with_reducible refine (HDI.out _ hbx).mono ?_); rintro q wn ⟨A4, n4, c4, B4, m4, x4, rfl, hD4, hbn⟩; have hbx := hbx.trans (hbn.mono hbx.size); have HD4 := hide hD4; clear hD4)
                    | ((with_reducible refine (HCR.out _ _ _ _ _ _ _ HD4.out).mono ?_); rintro q wm ⟨A5, n5, c5, B5, m5, x5, rfl, hD5, hbm⟩; have hz5 := hbx.size; have hbx := hbx.trans (hbm.mono hbx.size); have HD5 := hide hD5; clear hD5)
                    | ((with_reducible refine (HOP5.out _ _ _ _ _ _ _ _ HD5.out).mono ?_); rintro q wo5 ⟨b5, rfl, hM5, hbl5, hbo⟩; have hz6 := hbx.size; have hbx := hbx.trans (hbo.mono hbx.size)))
                have HTX := hide (reo_text (s := t) hM5 HJ.out.1)
                have HRC := hide (reo_records (l := []) (n := 0) hM5 (by rw [HJ.out.2]; decide) HJ.out.2 rfl)
                have HBX9 := hide (HB9.out.trans (hbx.mono HB9.out.size))
                clear hM5 hbl5 hz5 hz6 hbo hbn hbm HD4 HD5 HDI HCR HOP5 HSS9 hbx
                go_upto_region 22 with (fail)
                go_wp2_with fail
                refine (HTX.out _ (Below.refl _ _)).mono ?_
                rintro q wg ⟨rfl, rfl⟩
                go_wp2_with fail
                refine (HRC.out _ (Below.refl _ _)).mono ?_
                rintro q wh ⟨X9, xc9, rfl, _, hbh⟩
                have HBV := hide (HBX9.out.trans (hbh.mono HBX9.out.size))
                clear hbh
                go_wp2_with fail
                refine (awake21_any _).mono ?_
                rintro q wz ⟨rfl, hbz⟩
                have HBE := hide (HBV.out.trans (hbz.mono HBV.out.size))
                clear hbz
                go_wp2_with fail
                go_ret
                exact ⟨rfl, HBE.out⟩
              · obtain ⟨rfl, _⟩ := KeepP.save_err hlive hco hh rfl hroom.1 he (by omega)
                have HSV := hide hsv
                have HLT := hide (And.intro hltn hltA)
                have HBW8 := hide hbw8
                clear hsv hK28 hltn hltA hbw8 hm1 he hh hroom hK8 hco hkh hkr hkq hkq1 hlive hk
                go_wp2_with fail
                refine HSV.out.mono ?_
                rintro q w9 ⟨rfl, rv', s1, s2, s3⟩
                have HBV : Hid (Below w.heap.size w w9) := s3.below HBW8.out (by have := HLT.out.2.1; omega) (fun g hg => by have := HLT.out.2.2 g hg; omega) HBW8.out.size
                clear s1 s2 s3
                rw [show ((14 : Nat) : Int) = 14 from rfl]
                go_wp2_with fail
                refine (awake21_any _).mono ?_
                rintro q wz ⟨rfl, hbz⟩
                have HBE := hide (HBV.out.trans (hbz.mono HBV.out.size))
                clear hbz
                go_wp2_with fail
                go_ret
                exact ⟨rfl, HBE.out⟩
            · have hsv := ksave_full _ b rv k t w8 hK8 hlive.dead hco hkh.2.2.1 (by omega) (by omega) (by have := HZT.out; omega) hroom
              have HSV := hide hsv
              have HBW8 := hide hbw8
              clear hsv hK28 hltn hltA hbw8 hm1 hroom hK8 hco hkh hkr hkq hkq1 hlive hk
              go_wp2_with fail
              refine HSV.out.mono ?_
              rintro q w9 ⟨rfl, hb9⟩
              have HBV := hide (HBW8.out.trans (hb9.mono HBW8.out.size))
              clear hb9
              go_wp2_with fail
              refine (awake21_any _).mono ?_
              rintro q wz ⟨rfl, hbz⟩
              have HBE := hide (HBV.out.trans (hbz.mono HBV.out.size))
              clear hbz
              go_wp2_with fail
              go_ret
              exact ⟨rfl, HBE.out⟩
          · have HO1 := hide (hno 6 he)
            clear kD2 kC2 hb2 hrs hsz g1 g2 g3 g4 hmy hmt hn hz c1 c2 hco hcs hsn hlive hno he HOA
            rw [show ((6 : Nat) : Int) = 6 from rfl] at HO1
            obtain ⟨⟨q0, q1, q2, q3⟩, q4, q5⟩ := HSS0.out _ (Below.refl _ _)
            go_upto_region 6 with (fail)
            go_wp2_with fail
            refine HO1.out.mono ?_
            rintro q w5 ⟨rfl, hb5⟩
            clear q0 q1 q2 q3 q4 q5
            have HSS : Hid (∀ ww, Below w5.heap.size w5 ww → (ww.cell? ⟨bd, 0, none⟩ = some (.slice SA n1 sc) ∧ ww.cell? ⟨bd, 1, none⟩ = some (.slice WA m1 cw) ∧ ww.cell? ⟨bd, 2, none⟩ = some (.int .i64 lf) ∧ ww.cell? ⟨bd, 3, none⟩ = some (.bool false)) ∧ ww.cell? ⟨bc, 0, none⟩ = some (.int .i64 l) ∧ ww.cell? ⟨bc, 1, none⟩ = some (.int .i64 p)) := fun ww hb => HSS0.out ww (hb5.trans (hb.mono hb5.size))
            have HD0 := hide (HD.out.below hb5)
            have HB5 := hide (HBY.out.trans (hb5.mono HBY.out.size))
            have hbx : Below w5.heap.size w5 w5.drew := (Below.refl _ _).drew
            clear hb5
            go_upto_region 7 with (fail)
            go_region_held3 (fun ww => (ww.cell? ⟨bd, 0, none⟩ = some (.slice SA n1 sc) ∧ ww.cell? ⟨bd, 1, none⟩ = some (.slice WA m1 cw) ∧ ww.cell? ⟨bd, 2, none⟩ = some (.int .i64 lf) ∧ ww.cell? ⟨bd, 3, none⟩ = some (.bool false)) ∧ ww.cell? ⟨bc, 0, none⟩ = some (.int .i64 l) ∧ ww.cell? ⟨bc, 1, none⟩ = some (.int .i64 p))
              (first | (with_reducible exact (HSS.out w5 (Below.refl _ _))) | (with_reducible exact (HSS.out _ hbx)))
              (first
                | ((with_reducible refine (HSZ.out _).mono ?_); rintro q wn ⟨rfl, hbn⟩; have hbx := hbx.trans (hbn.mono hbx.size))
                | ((with_reducible refine (HMA.out _ _ (HD0.out.below hbx)).mono ?_); rintro q wn ⟨rfl, hbn⟩; have hbx := hbx.trans (hbn.mono hbx.size)))
            obtain ⟨⟨p0, p1, p2, p3⟩, _, _⟩ := HSS.out _ hbx
            have HBX := hide (HB5.out.trans (hbx.mono HB5.out.size))
            clear hbx
            go_wp2_with fail
            refine (awake21_any _).mono ?_
            rintro q w9 ⟨rfl, hb9⟩
            have HBE := hide (HBX.out.trans (hb9.mono HBX.out.size))
            clear hb9
            go_wp2_with fail
            go_ret
            exact ⟨rfl, HBE.out⟩
          · have HO1 := hide (hno 15 he)
            clear kD2 kC2 hb2 hrs hsz g1 g2 g3 g4 hmy hmt hn hz c1 c2 hco hcs hsn hlive hno he HOA
            rw [show ((15 : Nat) : Int) = 15 from rfl] at HO1
            obtain ⟨⟨q0, q1, q2, q3⟩, q4, q5⟩ := HSS0.out _ (Below.refl _ _)
            go_upto_region 6 with (fail)
            go_wp2_with fail
            refine HO1.out.mono ?_
            rintro q w5 ⟨rfl, hb5⟩
            clear q0 q1 q2 q3 q4 q5
            have HSS : Hid (∀ ww, Below w5.heap.size w5 ww → (ww.cell? ⟨bd, 0, none⟩ = some (.slice SA n1 sc) ∧ ww.cell? ⟨bd, 1, none⟩ = some (.slice WA m1 cw) ∧ ww.cell? ⟨bd, 2, none⟩ = some (.int .i64 lf) ∧ ww.cell? ⟨bd, 3, none⟩ = some (.bool false)) ∧ ww.cell? ⟨bc, 0, none⟩ = some (.int .i64 l) ∧ ww.cell? ⟨bc, 1, none⟩ = some (.int .i64 p)) := fun ww hb => HSS0.out ww (hb5.trans (hb.mono hb5.size))
            have HD0 := hide (HD.out.below hb5)
            have HB5 := hide (HBY.out.trans (hb5.mono HBY.out.size))
            have hbx : Below w5.heap.size w5 w5.drew := (Below.refl _ _).drew
            clear hb5
            go_upto_region 7 with (fail)
            go_region_held3 (fun ww => (ww.cell? ⟨bd, 0, none⟩ = some (.slice SA n1 sc) ∧ ww.cell? ⟨bd, 1, none⟩ = some (.slice WA m1 cw) ∧ ww.cell? ⟨bd, 2, none⟩ = some (.int .i64 lf) ∧ ww.cell? ⟨bd, 3, none⟩ = some (.bool false)) ∧ ww.cell? ⟨bc, 0, none⟩ = some (.int .i64 l) ∧ ww.cell? ⟨bc, 1, none⟩ = some (.int .i64 p))
              (first | (with_reducible exact (HSS.out w5 (Below.refl _ _))) | (with_reducible exact (HSS.out _ hbx)))
              (first
                | ((with_reducible refine (HSZ.out _).mono ?_); rintro q wn ⟨rfl, hbn⟩; have hbx := hbx.trans (hbn.mono hbx.size))
                | ((with_reducible refine (HMA.out _ _ (HD0.out.below hbx)).mono ?_); rintro q wn ⟨rfl, hbn⟩; have hbx := hbx.trans (hbn.mono hbx.size)))
            obtain ⟨⟨p0, p1, p2, p3⟩, _, _⟩ := HSS.out _ hbx
            have HBX := hide (HB5.out.trans (hbx.mono HB5.out.size))
            clear hbx
            go_wp2_with fail
            refine (awake21_any _).mono ?_
            rintro q w9 ⟨rfl, hb9⟩
            have HBE := hide (HBX.out.trans (hb9.mono HBX.out.size))
            clear hb9
            go_wp2_with fail
            go_ret
            exact ⟨rfl, HBE.out⟩
      · have hbad : BadO sz my n1 := by
          by_cases h0 : sz = 0
          · exact .inl h0
          · by_cases h1 : my = false
            · exact .inr (.inl ⟨h0, h1⟩)
            · refine .inr (.inr ⟨h0, by simpa using h1, fun h2 => hG ⟨h0, by simpa using h1, h2⟩⟩)
        have HO1 : Hid (Calls Try.prog 60 #[.agg #[.slice SA n1 sc, .slice WA m1 cw, .int .i64 lf, .bool dd], .agg #[.int .i64 l, .int .i64 p]] wY fun q w' => q = .returned (.tuple #[.pointer none, .int .i64 1]) ∧ Below wY.heap.size wY w') := by
          have := open_bad SA n1 sc WA m1 cw D _ l p wY HD.out (by rw [← hsz, ← hmy]; exact hbad)
          rw [g1, g2] at this
          exact this
        have HBAD := hide hbad
        clear kD2 kC2 hb2 hrs hsz g1 g2 g3 g4 hmy hG hbad
        obtain ⟨⟨q0, q1, q2, q3⟩, q4, q5⟩ := HSS0.out _ (Below.refl _ _)
        go_upto_region 6 with (fail)
        go_wp2_with fail
        refine HO1.out.mono ?_
        rintro q w5 ⟨rfl, hb5⟩
        clear q0 q1 q2 q3 q4 q5
        have HSS : Hid (∀ ww, Below w5.heap.size w5 ww → (ww.cell? ⟨bd, 0, none⟩ = some (.slice SA n1 sc) ∧ ww.cell? ⟨bd, 1, none⟩ = some (.slice WA m1 cw) ∧ ww.cell? ⟨bd, 2, none⟩ = some (.int .i64 lf) ∧ ww.cell? ⟨bd, 3, none⟩ = some (.bool dd)) ∧ ww.cell? ⟨bc, 0, none⟩ = some (.int .i64 l) ∧ ww.cell? ⟨bc, 1, none⟩ = some (.int .i64 p)) := fun ww hb => HSS0.out ww (hb5.trans (hb.mono hb5.size))
        have HD0 := hide (HD.out.below hb5)
        have HB5 := hide (HBY.out.trans (hb5.mono HBY.out.size))
        have hbx : Below w5.heap.size w5 w5.drew := (Below.refl _ _).drew
        clear hb5
        go_upto_region 7 with (fail)
        rcases HBAD.out with rfl | ⟨h1, rfl⟩ | ⟨h1, rfl, h2⟩
        · clear HBAD
          refine wp_region_noPanic ?_
          have hS := HSS.out w5.drew hbx
          refine RegE.begin_ (n := 15) (S := fun ww => (ww.cell? ⟨bd, 0, none⟩ = some (.slice SA n1 sc) ∧ ww.cell? ⟨bd, 1, none⟩ = some (.slice WA m1 cw) ∧ ww.cell? ⟨bd, 2, none⟩ = some (.int .i64 lf) ∧ ww.cell? ⟨bd, 3, none⟩ = some (.bool dd)) ∧ ww.cell? ⟨bc, 0, none⟩ = some (.int .i64 l) ∧ ww.cell? ⟨bc, 1, none⟩ = some (.int .i64 p)) (by kernel_rfl) (by kernel_rfl) (by kernel_rfl) ?_
          refine RegE.take (i := 0) (v := ?k1vv) rfl (by kernel_rfl) (by kernel_rfl) rfl (by kernel_rfl) (by kernel_rfl) (by kernel_rfl) (fun _ _ _ h => h) (Or.inl ⟨by first | rfl | simp [Region.wanted, yielded], ?k1vy⟩) hS ?k1vr
          case k1vy => intro ww hSw; obtain ⟨⟨hs1, hs2, hs3, hs4⟩, hs5, hs6⟩ := hSw; (go_simp <;> with_reducible rfl)
          try simp only [Act.put, List.getElem_toArray, List.getElem_cons_zero, List.setIfInBounds_toArray, List.set_cons_zero, List.set_cons_succ]
          refine RegE.step (i := 1) rfl (by kernel_rfl) rfl (fun K hK => ?_)
          go_simp
          refine (HSZ.out _).mono ?_
          rintro q wp ⟨rfl, hbp⟩
          have hbx := hbx.trans (hbp.mono hbx.size)
          have hS := HSS.out _ hbx
          refine hK _ _ hS ?_
          clear hK K
          try simp only [Act.put, List.getElem_toArray, List.getElem_cons_zero, List.getElem_cons_succ, List.setIfInBounds_toArray, List.set_cons_zero, List.set_cons_succ]
          refine RegE.take (i := 2) (v := ?k2vv) rfl (by kernel_rfl) (by kernel_rfl) rfl (by kernel_rfl) (by kernel_rfl) (by kernel_rfl) (fun _ _ _ h => h) (Or.inl ⟨by first | rfl | simp [Region.wanted, yielded], ?k2vy⟩) hS ?k2vr
          case k2vy => intro ww hSw; obtain ⟨⟨hs1, hs2, hs3, hs4⟩, hs5, hs6⟩ := hSw; (go_simp <;> with_reducible rfl)
          try simp only [Act.put, List.getElem_toArray, List.getElem_cons_zero, List.getElem_cons_succ, List.setIfInBounds_toArray, List.set_cons_zero, List.set_cons_succ]
          refine RegE.take (i := 3) (v := ?k3vv) rfl (by kernel_rfl) (by kernel_rfl) rfl (by kernel_rfl) (by kernel_rfl) (by kernel_rfl) (fun _ _ _ h => h) (Or.inl ⟨by first | rfl | simp [Region.wanted, yielded], ?k3vy⟩) hS ?k3vr
          case k3vy => intro ww hSw; obtain ⟨⟨hs1, hs2, hs3, hs4⟩, hs5, hs6⟩ := hSw; (go_simp <;> with_reducible rfl)
          try simp only [Act.put, List.getElem_toArray, List.getElem_cons_zero, List.getElem_cons_succ, List.setIfInBounds_toArray, List.set_cons_zero, List.set_cons_succ]
          refine RegE.take (i := 4) (v := undef) rfl (by kernel_rfl) (by kernel_rfl) rfl (by kernel_rfl) (by kernel_rfl) (by kernel_rfl) (fun _ _ _ h => h) (Or.inr ⟨by first | rfl | simp [Region.wanted, yielded], rfl⟩) hS ?k4vr
          try simp only [Act.put, List.getElem_toArray, List.getElem_cons_zero, List.getElem_cons_succ, List.setIfInBounds_toArray, List.set_cons_zero, List.set_cons_succ]
          refine RegE.take (i := 5) (v := undef) rfl (by kernel_rfl) (by kernel_rfl) rfl (by kernel_rfl) (by kernel_rfl) (by kernel_rfl) (fun _ _ _ h => h) (Or.inr ⟨by first | rfl | simp [Region.wanted, yielded], rfl⟩) hS ?k5vr
          try simp only [Act.put, List.getElem_toArray, List.getElem_cons_zero, List.getElem_cons_succ, List.setIfInBounds_toArray, List.set_cons_zero, List.set_cons_succ]
          refine RegE.take (i := 6) (v := undef) rfl (by kernel_rfl) (by kernel_rfl) rfl (by kernel_rfl) (by kernel_rfl) (by kernel_rfl) (fun _ _ _ h => h) (Or.inr ⟨by first | rfl | simp [Region.wanted, yielded], rfl⟩) hS ?k6vr
          try simp only [Act.put, List.getElem_toArray, List.getElem_cons_zero, List.getElem_cons_succ, List.setIfInBounds_toArray, List.set_cons_zero, List.set_cons_succ]
          refine RegE.take (i := 7) (v := ?k7vv) rfl (by kernel_rfl) (by kernel_rfl) rfl (by kernel_rfl) (by kernel_rfl) (by kernel_rfl) (fun _ _ _ h => h) (Or.inl ⟨by first | rfl | simp [Region.wanted, yielded], ?k7vy⟩) hS ?k7vr
          case k7vy => intro ww hSw; obtain ⟨⟨hs1, hs2, hs3, hs4⟩, hs5, hs6⟩ := hSw; (go_simp <;> with_reducible rfl)
          try simp only [Act.put, List.getElem_toArray, List.getElem_cons_zero, List.getElem_cons_succ, List.setIfInBounds_toArray, List.set_cons_zero, List.set_cons_succ]
          refine RegE.take (i := 8) (v := ?k8vv) rfl (by kernel_rfl) (by kernel_rfl) rfl (by kernel_rfl) (by kernel_rfl) (by kernel_rfl) (fun _ _ _ h => h) (Or.inl ⟨by first | rfl | simp [Region.wanted, yielded], ?k8vy⟩) hS ?k8vr
          case k8vy => intro ww hSw; obtain ⟨⟨hs1, hs2, hs3, hs4⟩, hs5, hs6⟩ := hSw; (go_simp <;> with_reducible rfl)
          try simp only [Act.put, List.getElem_toArray, List.getElem_cons_zero, List.getElem_cons_succ, List.setIfInBounds_toArray, List.set_cons_zero, List.set_cons_succ]
          refine RegE.take (i := 9) (v := undef) rfl (by kernel_rfl) (by kernel_rfl) rfl (by kernel_rfl) (by kernel_rfl) (by kernel_rfl) (fun _ _ _ h => h) (Or.inr ⟨by first | rfl | simp [Region.wanted, yielded], rfl⟩) hS ?k9vr
          try simp only [Act.put, List.getElem_toArray, List.getElem_cons_zero, List.getElem_cons_succ, List.setIfInBounds_toArray, List.set_cons_zero, List.set_cons_succ]
          refine RegE.take (i := 10) (v := undef) rfl (by kernel_rfl) (by kernel_rfl) rfl (by kernel_rfl) (by kernel_rfl) (by kernel_rfl) (fun _ _ _ h => h) (Or.inr ⟨by first | rfl | simp [Region.wanted, yielded], rfl⟩) hS ?k10vr
          try simp only [Act.put, List.getElem_toArray, List.getElem_cons_zero, List.getElem_cons_succ, List.setIfInBounds_toArray, List.set_cons_zero, List.set_cons_succ]
          refine RegE.take (i := 11) (v := undef) rfl (by kernel_rfl) (by kernel_rfl) rfl (by kernel_rfl) (by kernel_rfl) (by kernel_rfl) (fun _ _ _ h => h) (Or.inr ⟨by first | rfl | simp [Region.wanted, yielded], rfl⟩) hS ?k11vr
          try simp only [Act.put, List.getElem_toArray, List.getElem_cons_zero, List.getElem_cons_succ, List.setIfInBounds_toArray, List.set_cons_zero, List.set_cons_succ]
          refine RegE.take (i := 12) (v := undef) rfl (by kernel_rfl) (by kernel_rfl) rfl (by kernel_rfl) (by kernel_rfl) (by kernel_rfl) (fun _ _ _ h => h) (Or.inr ⟨by first | rfl | simp [Region.wanted, yielded], rfl⟩) hS ?k12vr
          try simp only [Act.put, List.getElem_toArray, List.getElem_cons_zero, List.getElem_cons_succ, List.setIfInBounds_toArray, List.set_cons_zero, List.set_cons_succ]
          refine RegE.take (i := 13) (v := undef) rfl (by kernel_rfl) (by kernel_rfl) rfl (by kernel_rfl) (by kernel_rfl) (by kernel_rfl) (fun _ _ _ h => h) (Or.inr ⟨by first | rfl | simp [Region.wanted, yielded], rfl⟩) hS ?k13vr
          try simp only [Act.put, List.getElem_toArray, List.getElem_cons_zero, List.getElem_cons_succ, List.setIfInBounds_toArray, List.set_cons_zero, List.set_cons_succ]
          refine RegE.take (i := 14) (v := undef) rfl (by kernel_rfl) (by kernel_rfl) rfl (by kernel_rfl) (by kernel_rfl) (by kernel_rfl) (fun _ _ _ h => h) (Or.inr ⟨by first | rfl | simp [Region.wanted, yielded], rfl⟩) hS ?k14vr
          try simp only [Act.put, List.getElem_toArray, List.getElem_cons_zero, List.getElem_cons_succ, List.setIfInBounds_toArray, List.set_cons_zero, List.set_cons_succ]
          obtain ⟨⟨hs1, hs2, hs3, hs4⟩, hs5, hs6⟩ := hS
          refine RegE.done rfl (by kernel_rfl) (fun K hK => ?_)
          go_simp
          refine hK _ _ ?_
          clear hK K hs1 hs2 hs3 hs4 hs5 hs6
          refine NoPanic.normal ?_
          try simp only [Act.put, List.getElem_toArray, List.getElem_cons_zero, List.getElem_cons_succ, List.setIfInBounds_toArray, List.set_cons_zero, List.set_cons_succ]
          have HBX := hide (HB5.out.trans (hbx.mono HB5.out.size))
          clear hbx
          go_wp2_with fail
          refine (awake21_any _).mono ?_
          rintro q w9 ⟨rfl, hb9⟩
          have HBE := hide (HBX.out.trans (hb9.mono HBX.out.size))
          clear hb9
          go_wp2_with fail
          go_ret
          exact ⟨rfl, HBE.out⟩
        · have z1 : (sz == 0) = false := by simpa using h1
          have z2 : decide (sz = 0) = false := by simpa using h1
          clear HBAD
          refine wp_region_noPanic ?_
          have hS := HSS.out w5.drew hbx
          refine RegE.begin_ (n := 15) (S := fun ww => (ww.cell? ⟨bd, 0, none⟩ = some (.slice SA n1 sc) ∧ ww.cell? ⟨bd, 1, none⟩ = some (.slice WA m1 cw) ∧ ww.cell? ⟨bd, 2, none⟩ = some (.int .i64 lf) ∧ ww.cell? ⟨bd, 3, none⟩ = some (.bool dd)) ∧ ww.cell? ⟨bc, 0, none⟩ = some (.int .i64 l) ∧ ww.cell? ⟨bc, 1, none⟩ = some (.int .i64 p)) (by kernel_rfl) (by kernel_rfl) (by kernel_rfl) ?_
          refine RegE.take (i := 0) (v := ?k15vv) rfl (by kernel_rfl) (by kernel_rfl) rfl (by kernel_rfl) (by kernel_rfl) (by kernel_rfl) (fun _ _ _ h => h) (Or.inl ⟨by first | rfl | simp [Region.wanted, yielded], ?k15vy⟩) hS ?k15vr
          case k15vy => intro ww hSw; obtain ⟨⟨hs1, hs2, hs3, hs4⟩, hs5, hs6⟩ := hSw; (go_simp <;> with_reducible rfl)
          try simp only [Act.put, List.getElem_toArray, List.getElem_cons_zero, List.setIfInBounds_toArray, List.set_cons_zero, List.set_cons_succ]
          refine RegE.step (i := 1) rfl (by kernel_rfl) rfl (fun K hK => ?_)
          go_simp
          refine (HSZ.out _).mono ?_
          rintro q wp ⟨rfl, hbp⟩
          have hbx := hbx.trans (hbp.mono hbx.size)
          have hS := HSS.out _ hbx
          refine hK _ _ hS ?_
          clear hK K
          try simp only [Act.put, List.getElem_toArray, List.getElem_cons_zero, List.getElem_cons_succ, List.setIfInBounds_toArray, List.set_cons_zero, List.set_cons_succ]
          refine RegE.take (i := 2) (v := ?k16vv) rfl (by kernel_rfl) (by kernel_rfl) rfl (by kernel_rfl) (by kernel_rfl) (by kernel_rfl) (fun _ _ _ h => h) (Or.inl ⟨by first | rfl | simp [Region.wanted, yielded], ?k16vy⟩) hS ?k16vr
          case k16vy => intro ww hSw; obtain ⟨⟨hs1, hs2, hs3, hs4⟩, hs5, hs6⟩ := hSw; (go_simp <;> with_reducible rfl)
          try simp only [Act.put, List.getElem_toArray, List.getElem_cons_zero, List.getElem_cons_succ, List.setIfInBounds_toArray, List.set_cons_zero, List.set_cons_succ]
          refine RegE.take (i := 3) (v := ?k17vv) rfl (by kernel_rfl) (by kernel_rfl) rfl (by kernel_rfl) (by kernel_rfl) (by kernel_rfl) (fun _ _ _ h => h) (Or.inl ⟨by first | rfl | simp [Region.wanted, yielded], ?k17vy⟩) hS ?k17vr
          case k17vy => intro ww hSw; obtain ⟨⟨hs1, hs2, hs3, hs4⟩, hs5, hs6⟩ := hSw; (go_simp <;> with_reducible rfl)
          try simp only [Act.put, List.getElem_toArray, List.getElem_cons_zero, List.getElem_cons_succ, List.setIfInBounds_toArray, List.set_cons_zero, List.set_cons_succ]
          refine RegE.take (i := 4) (v := ?k18vv) rfl (by kernel_rfl) (by kernel_rfl) rfl (by kernel_rfl) (by kernel_rfl) (by kernel_rfl) (fun _ _ _ h => h) (Or.inl ⟨by first | rfl | simp [Region.wanted, yielded], ?k18vy⟩) hS ?k18vr
          case k18vy => intro ww hSw; obtain ⟨⟨hs1, hs2, hs3, hs4⟩, hs5, hs6⟩ := hSw; (go_simp <;> with_reducible rfl)
          try simp only [Act.put, List.getElem_toArray, List.getElem_cons_zero, List.getElem_cons_succ, List.setIfInBounds_toArray, List.set_cons_zero, List.set_cons_succ]
          refine RegE.step (i := 5) rfl (by kernel_rfl) rfl (fun K hK => ?_)
          go_simp
          refine (HMA.out _ _ (HD0.out.below hbx)).mono ?_
          rintro q wm ⟨rfl, hbm⟩
          have hbx := hbx.trans (hbm.mono hbx.size)
          have hS := HSS.out _ hbx
          refine hK _ _ hS ?_
          clear hK K
          try simp only [Act.put, List.getElem_toArray, List.getElem_cons_zero, List.getElem_cons_succ, List.setIfInBounds_toArray, List.set_cons_zero, List.set_cons_succ]
          refine RegE.take (i := 6) (v := ?k19vv) rfl (by kernel_rfl) (by kernel_rfl) rfl (by kernel_rfl) (by kernel_rfl) (by kernel_rfl) (fun _ _ _ h => h) (Or.inl ⟨by first | rfl | simp [Region.wanted, yielded], ?k19vy⟩) hS ?k19vr
          case k19vy => intro ww hSw; obtain ⟨⟨hs1, hs2, hs3, hs4⟩, hs5, hs6⟩ := hSw; (go_simp <;> with_reducible rfl)
          try simp only [Act.put, List.getElem_toArray, List.getElem_cons_zero, List.getElem_cons_succ, List.setIfInBounds_toArray, List.set_cons_zero, List.set_cons_succ]
          refine RegE.take (i := 7) (v := ?k20vv) rfl (by kernel_rfl) (by kernel_rfl) rfl (by kernel_rfl) (by kernel_rfl) (by kernel_rfl) (fun _ _ _ h => h) (Or.inl ⟨by first | rfl | simp [Region.wanted, yielded], ?k20vy⟩) hS ?k20vr
          case k20vy => intro ww hSw; obtain ⟨⟨hs1, hs2, hs3, hs4⟩, hs5, hs6⟩ := hSw; (go_simp <;> with_reducible rfl)
          try simp only [Act.put, List.getElem_toArray, List.getElem_cons_zero, List.getElem_cons_succ, List.setIfInBounds_toArray, List.set_cons_zero, List.set_cons_succ]
          refine RegE.take (i := 8) (v := ?k21vv) rfl (by kernel_rfl) (by kernel_rfl) rfl (by kernel_rfl) (by kernel_rfl) (by kernel_rfl) (fun _ _ _ h => h) (Or.inl ⟨by first | rfl | simp [Region.wanted, yielded], ?k21vy⟩) hS ?k21vr
          case k21vy => intro ww hSw; obtain ⟨⟨hs1, hs2, hs3, hs4⟩, hs5, hs6⟩ := hSw; (go_simp <;> with_reducible rfl)
          try simp only [Act.put, List.getElem_toArray, List.getElem_cons_zero, List.getElem_cons_succ, List.setIfInBounds_toArray, List.set_cons_zero, List.set_cons_succ]
          refine RegE.take (i := 9) (v := undef) rfl (by kernel_rfl) (by kernel_rfl) rfl (by kernel_rfl) (by kernel_rfl) (by kernel_rfl) (fun _ _ _ h => h) (Or.inr ⟨by first | rfl | simp [Region.wanted, yielded], rfl⟩) hS ?k22vr
          try simp only [Act.put, List.getElem_toArray, List.getElem_cons_zero, List.getElem_cons_succ, List.setIfInBounds_toArray, List.set_cons_zero, List.set_cons_succ]
          refine RegE.take (i := 10) (v := undef) rfl (by kernel_rfl) (by kernel_rfl) rfl (by kernel_rfl) (by kernel_rfl) (by kernel_rfl) (fun _ _ _ h => h) (Or.inr ⟨by first | rfl | simp [Region.wanted, yielded], rfl⟩) hS ?k23vr
          try simp only [Act.put, List.getElem_toArray, List.getElem_cons_zero, List.getElem_cons_succ, List.setIfInBounds_toArray, List.set_cons_zero, List.set_cons_succ]
          refine RegE.take (i := 11) (v := undef) rfl (by kernel_rfl) (by kernel_rfl) rfl (by kernel_rfl) (by kernel_rfl) (by kernel_rfl) (fun _ _ _ h => h) (Or.inr ⟨by first | rfl | simp [Region.wanted, yielded], rfl⟩) hS ?k24vr
          try simp only [Act.put, List.getElem_toArray, List.getElem_cons_zero, List.getElem_cons_succ, List.setIfInBounds_toArray, List.set_cons_zero, List.set_cons_succ]
          refine RegE.take (i := 12) (v := undef) rfl (by kernel_rfl) (by kernel_rfl) rfl (by kernel_rfl) (by kernel_rfl) (by kernel_rfl) (fun _ _ _ h => h) (Or.inr ⟨by first | rfl | simp [Region.wanted, yielded], rfl⟩) hS ?k25vr
          try simp only [Act.put, List.getElem_toArray, List.getElem_cons_zero, List.getElem_cons_succ, List.setIfInBounds_toArray, List.set_cons_zero, List.set_cons_succ]
          refine RegE.take (i := 13) (v := undef) rfl (by kernel_rfl) (by kernel_rfl) rfl (by kernel_rfl) (by kernel_rfl) (by kernel_rfl) (fun _ _ _ h => h) (Or.inr ⟨by first | rfl | simp [Region.wanted, yielded], rfl⟩) hS ?k26vr
          try simp only [Act.put, List.getElem_toArray, List.getElem_cons_zero, List.getElem_cons_succ, List.setIfInBounds_toArray, List.set_cons_zero, List.set_cons_succ]
          refine RegE.take (i := 14) (v := undef) rfl (by kernel_rfl) (by kernel_rfl) rfl (by kernel_rfl) (by kernel_rfl) (by kernel_rfl) (fun _ _ _ h => h) (Or.inr ⟨by first | rfl | simp [Region.wanted, yielded], rfl⟩) hS ?k27vr
          try simp only [Act.put, List.getElem_toArray, List.getElem_cons_zero, List.getElem_cons_succ, List.setIfInBounds_toArray, List.set_cons_zero, List.set_cons_succ]
          obtain ⟨⟨hs1, hs2, hs3, hs4⟩, hs5, hs6⟩ := hS
          refine RegE.done rfl (by kernel_rfl) (fun K hK => ?_)
          go_simp
          refine hK _ _ ?_
          clear hK K hs1 hs2 hs3 hs4 hs5 hs6
          refine NoPanic.normal ?_
          try simp only [Act.put, List.getElem_toArray, List.getElem_cons_zero, List.getElem_cons_succ, List.setIfInBounds_toArray, List.set_cons_zero, List.set_cons_succ]
          have HBX := hide (HB5.out.trans (hbx.mono HB5.out.size))
          clear hbx
          go_wp2_with fail
          refine (awake21_any _).mono ?_
          rintro q w9 ⟨rfl, hb9⟩
          have HBE := hide (HBX.out.trans (hb9.mono HBX.out.size))
          clear hb9
          go_wp2_with fail
          go_ret
          exact ⟨rfl, HBE.out⟩
        · have z1 : (sz == 0) = false := by simpa using h1
          have z2 : decide (sz = 0) = false := by simpa using h1
          have z3 : ((n1 : Int) == sz) = false := by simpa using h2
          have z4 : ((n1 : Int) != sz) = true := by simpa using h2
          have z5 : decide ((n1 : Int) = sz) = false := by simpa using h2
          clear HBAD
          go_region_held3 (fun ww => (ww.cell? ⟨bd, 0, none⟩ = some (.slice SA n1 sc) ∧ ww.cell? ⟨bd, 1, none⟩ = some (.slice WA m1 cw) ∧ ww.cell? ⟨bd, 2, none⟩ = some (.int .i64 lf) ∧ ww.cell? ⟨bd, 3, none⟩ = some (.bool dd)) ∧ ww.cell? ⟨bc, 0, none⟩ = some (.int .i64 l) ∧ ww.cell? ⟨bc, 1, none⟩ = some (.int .i64 p))
            (first | (with_reducible exact (HSS.out w5 (Below.refl _ _))) | (with_reducible exact (HSS.out _ hbx)))
            (first
              | ((with_reducible refine (HSZ.out _).mono ?_); rintro q wn ⟨rfl, hbn⟩; have hbx := hbx.trans (hbn.mono hbx.size))
              | ((with_reducible refine (HMA.out _ _ (HD0.out.below hbx)).mono ?_); rintro q wn ⟨rfl, hbn⟩; have hbx := hbx.trans (hbn.mono hbx.size)))
          have HBX := hide (HB5.out.trans (hbx.mono HB5.out.size))
          clear hbx
          go_wp2_with fail
          refine (awake21_any _).mono ?_
          rintro q w9 ⟨rfl, hb9⟩
          have HBE := hide (HBX.out.trans (hb9.mono HBX.out.size))
          clear hb9
          go_wp2_with fail
          go_ret
          exact ⟨rfl, HBE.out⟩
end Op
end Go.Proofs.Yteoiadfcchalfaa

