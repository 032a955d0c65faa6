/- The walk of law 21's cut and awake. (merged: KeepQ KeepR) -/
import Derived.Test.YtojincohnjophaaGreatDoorLogBackW
import Derived.Test.YtojincohnjophaaGreatDoorKeepN
import Derived.Test.YtojincohnjophaaGreatDoorLogAw
/-! The walk of layer 21's Open. -/
namespace Go.Proofs.YtojincohnjophaaGreatDoor
open Go.RowKit
open DiskP (Bytes Disk Wr Fate noughts)
open KeepP (Cut Head K Kept okC okH readH zeroH newestP pagesP saveP beginP openP)
set_option linter.unusedVariables false

theorem own_box_ne {w : World} {base b : Nat} {e T : TypeId} {size n : Nat} {v : Value} {xs : List Value} {vs : Array Value} (h : w.ownsRow base e size v n xs) (hB : Box w b T vs) (hT : T ≠ e) : v.ownBlock ≠ some b := by
  rcases h.2 with ⟨rfl, _⟩ | ⟨g, cap, cur, rfl, _, q2, _⟩
  · simp [Value.ownBlock]
  · simp only [Value.ownBlock, ne_eq, Option.some.injEq]
    rintro rfl
    unfold Box at hB
    rw [hB] at q2
    injection q2 with q2
    injection q2 with _ q2
    exact hT q2
theorem own_set4o {w : World} {base b : Nat} {e : TypeId} {size n : Nat} {v : Value} {xs : List Value} (h : w.ownsRow base e size v n xs) (hb : v.ownBlock ≠ some b) (u0 u1 u2 u3 : Value) : ((((w.setCell ⟨b, 0, none⟩ u0).setCell ⟨b, 1, none⟩ u1).setCell ⟨b, 2, none⟩ u2).setCell ⟨b, 3, none⟩ u3).ownsRow base e size v n xs :=
  own_keepK h fun g hg => set4_far (fun e => hb (by rw [hg, e]))
/-- texts in a row of one's own -/
def Fc.own (base : Nat) (l : List Bytes) : Fc := ⟨fun v w => w.ownsRow base 9 1 v l.length (secV l), fun _ _ _ hb h => own_below h hb⟩
/-- what Open has answered -/
def OpenE (w : World) (V : Nat → Prop) (r : Option K × Nat) (q : Ending) (w' : World) : Prop :=
  match r.1 with
  | some k => ∃ b rv, q = .returned (.tuple #[.pointer (some ⟨b, 0, none⟩), .int .i64 0]) ∧ KeepAt w' (fun x => V x ∨ w.heap.size ≤ x) b rv k ∧ w.heap.size ≤ b ∧ ∀ g, rv.ownBlock = some g → w.heap.size ≤ g
  | none => q = .returned (.tuple #[.pointer none, .int .i64 (r.2 : Nat)])
theorem openP_text (d : Disk) (c : Cut) : openP d c = match newestP ((DiskP.done d).getD 0 []) ((DiskP.done d).getD 1 []) with
    | none => (none, 6)
    | some h => match textsP d c h with
      | none => (none, 15)
      | some t => (some ⟨c, d, h, t, (LogP.scanP d (beginP c h)).1, (LogP.scanP d (beginP c h)).2.1⟩, 0) := by
  unfold openP
  cases newestP ((DiskP.done d).getD 0 []) ((DiskP.done d).getD 1 []) with
  | none => rfl
  | some h =>
    simp only
    unfold textsP
    by_cases hp : c.pages < h.pages
    · rw [if_pos hp, if_pos hp]
    · rw [if_neg hp, if_neg hp]
      cases KeepP.textsN (List.take (8 * h.pages) (List.drop (KeepP.start c h.half + c.log) (DiskP.done d))).flatten h.pages <;> rfl
theorem newest_okH {S : List Bytes} {h : Head} (e : newestP (S.getD 0 []) (S.getD 1 []) = some h) (hl : 2 ≤ S.length) : okH h := (KeepP.newest_is hl e).1

set_option maxRecDepth 100000 in
set_option maxHeartbeats 6400000 in
theorem open_any (A : Option Addr) (n c : Nat) (B : Option Addr) (m e : Nat) (d : Disk) (V : Nat → Prop) (ct : Cut) (w : World) (hD : Dk w V A n c B m e d) (hm : DiskP.may d = true) (hdead : d.dead = false) (hc : okC ct) (hn : n = KeepP.size ct) :
    Calls Tryz.prog 12 #[dkv A n c B m e d.left d.dead, ctv ct] w fun q w' => OpenE w V (openP d ct) q w' ∧ Below w.heap.size w w' := by
  obtain ⟨z1, z2⟩ := size_bounds hc
  have hlen := hD.len
  have hdl : (DiskP.done d).length = n := by rw [DiskP.done, DiskP.doneGo_len, hlen]
  have hsz : ∀ w1, Calls Tryz.prog 27 #[.agg #[.int .i64 (ct.log : Nat), .int .i64 (ct.pages : Nat)]] w1 fun q w' => q = .returned (.int .i64 (n : Nat)) ∧ Below w1.heap.size w1 w' := fun w1 => by
    have := size_any (ct.log : Nat) (ct.pages : Nat) w1
    rw [sizeI_ok hc, ← hn] at this
    exact this
  have hma := fun ww V' hD => may_any A n c B m e d V' ww hD
  have hnw := fun ww V' hD => newest_any A n c B m e d V' ww hD hm (by omega) hdead
  rw [hm] at hma
  have hop := openP_text d ct
  have hokh : ∀ h, newestP ((DiskP.done d).getD 0 []) ((DiskP.done d).getD 1 []) = some h → okH h := fun h hh => newest_okH hh (by omega)
  have htx := fun h (hh : okH h) ww V' hD => texts_any A n c B m e d V' ct h ww hD hm hdead hc hn hh.2.2.1 (by have := hh.2.2.2.2.2; omega)
  have hbg := fun h (hh : okH h) w1 => begin_any ct h w1 hc hh.2.2.1
  have hsc := fun h (hh : okH h) ww V' hD => scan_any A n c B m e d V' (beginP ct h) ww hD (by
    have hfit := KeepP.half_fit (c := ct) hh.2.2.1
    unfold KeepP.half at hfit
    refine ⟨hm, ?_, hc.1, by show 0 < ct.log; have := hc.1; omega, hh.2.2.2.1, hh.2.2.2.2.1⟩
    show KeepP.start ct h.half + ct.log ≤ d.S.length
    rw [hlen]; omega)
  have hse : ∀ h, okH h → (LogP.scanP d (beginP ct h)).2.2 = 0 := fun h hh => by
    have hfit := KeepP.half_fit (c := ct) hh.2.2.1
    unfold KeepP.half at hfit
    have hr : DiskP.read d ((KeepP.start ct h.half : Nat) : Int) ((ct.log : Nat) : Int) = _ := read_ok hm (by simp only [DiskP.there, Bool.and_eq_true, decide_eq_true_eq]; rw [hlen]; omega) hdead
    unfold LogP.scanP
    show (if (DiskP.read d ((KeepP.start ct h.half : Nat) : Int) ((ct.log : Nat) : Int)).2 = 0 then _ else _ : List Bytes × LogP.Log × Nat).2.2 = 0
    rw [hr]
    simp
  obtain ⟨R, hR⟩ : ∃ R, R = openP d ct := ⟨_, rfl⟩
  rw [← hR] at hop ⊢
  obtain ⟨Q, hQ⟩ : ∃ Q, Q = newestP ((DiskP.done d).getD 0 []) ((DiskP.done d).getD 1 []) := ⟨_, rfl⟩
  rw [← hQ] at hop hnw hokh
  obtain ⟨lf, hlf⟩ : ∃ lf, lf = d.left := ⟨_, rfl⟩
  rw [hdead, ← hlf] at hma hnw htx hsc ⊢
  have HSZ := hide hsz
  have HMA : Hid (∀ ww V', Dk ww V' A n c B m e d → Calls Tryz.prog 33 #[.agg #[.slice A n c, .slice B m e, .int .i64 lf, .bool false]] ww fun q w' => q = .returned (.bool true) ∧ Below ww.heap.size ww w') := hma
  have HNW : Hid (∀ ww V', Dk ww V' A n c B m e d → Calls Tryz.prog 34 #[.agg #[.slice A n c, .slice B m e, .int .i64 lf, .bool false]] ww fun q w' => q = .returned (nwv Q) ∧ Below ww.heap.size ww w') := hnw
  have kD0 := (Box.new w 54 #[.slice A n c, .slice B m e, .int .i64 lf, .bool false]).up (.cells #[.int .i64 (ct.log : Nat), .int .i64 (ct.pages : Nat)] 46)
  have kC0 := Box.new (w.alloc (.cells #[.slice A n c, .slice B m e, .int .i64 lf, .bool false] 54)) 46 #[.int .i64 (ct.log : Nat), .int .i64 (ct.pages : Nat)]
  have hb0 := ((Below.refl w.heap.size w).alloc (Nat.le_refl _) (.cells #[.slice A n c, .slice B m e, .int .i64 lf, .bool false] 54)).alloc (by simp) (.cells #[.int .i64 (ct.log : Nat), .int .i64 (ct.pages : Nat)] 46)
  simp only [World.size_alloc] at kC0
  have hD0 := hD.lt'.below hb0
  obtain ⟨w0, hw0⟩ : ∃ y, y = (w.alloc (.cells #[.slice A n c, .slice B m e, .int .i64 lf, .bool false] 54)).alloc (.cells #[.int .i64 (ct.log : Nat), .int .i64 (ct.pages : Nat)] 46) := ⟨_, rfl⟩
  rw [← hw0] at kD0 kC0 hb0 hD0
  have HW0 := hide hw0
  have HD0 := hide hD0
  have HTX := hide htx
  have HBG := hide hbg
  have HSC := hide hsc
  have HSE := hide hse
  have HOP := hide hop
  have HOK := hide hokh
  have HLF := hide hlf
  have HDEAD := hide hdead
  have nz : decide ((n : Int) = 0) = false := by simp; omega
  have nz2 : ((n : Int) == 0) = false := by rw [beq_eq_false_iff_ne]; omega
  have nz3 : decide (n = 0) = false := by simp; omega
  have nn : ((n : Int) != (n : Int)) = false := by simp
  clear hlen hdl hsz hma hnw hop hokh htx hbg hsc hse hR hQ hlf hw0 hD0 hD hm hdead hn
  go_enter Tryz.func12, Tryz.ntmps12
  go_upto_region 1 with (fail)
  rw [← HW0.out]
  clear HW0
  have HSS : Hid (∀ ww, Below w0.heap.size w0 ww → (ww.cell? ⟨w.heap.size, 0, none⟩ = some (.slice A n c) ∧ ww.cell? ⟨w.heap.size, 1, none⟩ = some (.slice B m e) ∧ ww.cell? ⟨w.heap.size, 2, none⟩ = some (.int .i64 lf) ∧ ww.cell? ⟨w.heap.size, 3, none⟩ = some (.bool false)) ∧ ww.cell? ⟨w.heap.size + 1, 0, none⟩ = some (.int .i64 (ct.log : Nat)) ∧ ww.cell? ⟨w.heap.size + 1, 1, none⟩ = some (.int .i64 (ct.pages : Nat))) :=
    fun ww hb => ⟨(kD0.belowS hb).cell4, (kC0.belowS hb).cell2⟩
  have hbx : Below w0.heap.size w0 w0.drew := (Below.refl _ _).drew
  go_region_held3 (fun ww => (ww.cell? ⟨w.heap.size, 0, none⟩ = some (.slice A n c) ∧ ww.cell? ⟨w.heap.size, 1, none⟩ = some (.slice B m e) ∧ ww.cell? ⟨w.heap.size, 2, none⟩ = some (.int .i64 lf) ∧ ww.cell? ⟨w.heap.size, 3, none⟩ = some (.bool false)) ∧ ww.cell? ⟨w.heap.size + 1, 0, none⟩ = some (.int .i64 (ct.log : Nat)) ∧ ww.cell? ⟨w.heap.size + 1, 1, none⟩ = some (.int .i64 (ct.pages : Nat)))
    (first | (with_reducible exact (HSS.out w0 (Below.refl _ _))) | (with_reducible exact (HSS.out _ hbx)))
    (first
      | ((with_reducible refine (HSZ.out _).mono ?_); rintro q wn ⟨rfl, hbn⟩; have hbx := hbx.trans (hbn.mono hbx.size))
      | ((with_reducible refine (HMA.out _ _ (HD0.out.below hbx)).mono ?_); rintro q wn ⟨rfl, hbn⟩; have hbx := hbx.trans (hbn.mono hbx.size)))
  have kD1 := kD0.belowS hbx
  have kC1 := kC0.belowS hbx
  have HD1 := hide (HD0.out.below hbx)
  have hbw1 := hb0.trans (hbx.mono hb0.size)
  obtain ⟨w1, hw1⟩ : ∃ y, y = wn := ⟨_, rfl⟩
  rw [← hw1] at kD1 kC1 HD1 hbw1 ⊢
  clear hw1 hbn hbx HSS kD0 kC0 hb0 HD0 HSZ HMA nz nz2 nz3 nn
  obtain ⟨q0, q1, q2, q3⟩ := kD1.cell4
  cases hQ : Q with
  | none =>
    rw [hQ] at HNW HOP
    have hR : R = (none, 6) := HOP.out
    subst hR
    clear hQ HOP HTX HBG HSC HSE HOK
    unfold nwv hdv zeroH at HNW
    simp only at HNW
    go_wp2_with fail
    refine (HNW.out _ _ HD1.out).mono ?_
    rintro q w2 ⟨rfl, hb2⟩
    have hbw2 := hbw1.trans (hb2.mono hbw1.size)
    have hbF := hbw2.alloc hbw2.size (.cells #[.int .i64 0, .int .i64 0, .int .i64 0, .int .i64 0] 77)
    have HBF := hide hbF
    clear q0 q1 q2 q3 hbF hb2 hbw2
    go_wp2_with fail
    exact bodyPost_ret (v := .tuple #[.pointer none, .int .i64 6]) (by simp [results, Tryz.results12, go_sem]) rfl ⟨rfl, HBF.out⟩
  | some h =>
    rw [hQ] at HNW HOP
    have hok := HOK.out h hQ
    have htx := HTX.out h hok
    have hbg := HBG.out h hok
    have hsc := HSC.out h hok
    have hse := HSE.out h hok
    have hop := HOP.out
    simp only at hop
    obtain ⟨T, hT⟩ : ∃ T, T = textsP d ct h := ⟨_, rfl⟩
    rw [← hT] at htx hop
    obtain ⟨lg, hlg⟩ : ∃ lg, lg = beginP ct h := ⟨_, rfl⟩
    rw [← hlg] at hbg hsc hse hop
    obtain ⟨SC, hSC⟩ : ∃ SC, SC = LogP.scanP d lg := ⟨_, rfl⟩
    rw [← hSC] at hsc hse hop
    rw [hse] at hsc
    have HH := hide hok
    obtain ⟨gg, gf, gq, gp⟩ := h
    unfold hdv at htx hbg
    simp only at htx hbg
    unfold nwv hdv at HNW
    simp only at HNW
    have HTX2 : Hid (∀ ww V', Dk ww V' A n c B m e d → Calls Tryz.prog 35 #[.agg #[.slice A n c, .slice B m e, .int .i64 lf, .bool false], .agg #[.int .i64 (ct.log : Nat), .int .i64 (ct.pages : Nat)], .agg #[.int .i64 (gg : Nat), .int .i64 (gf : Nat), .int .i64 (gq : Nat), .int .i64 (gp : Nat)]] ww fun q w' => q = .returned (txv T) ∧ Below ww.heap.size ww w') := htx
    have HBG2 : Hid (∀ w1, Calls Tryz.prog 31 #[.agg #[.int .i64 (ct.log : Nat), .int .i64 (ct.pages : Nat)], .agg #[.int .i64 (gg : Nat), .int .i64 (gf : Nat), .int .i64 (gq : Nat), .int .i64 (gp : Nat)]] w1 fun q w' => q = .returned (.agg #[.int .i64 (lg.frm : Nat), .int .i64 (lg.len : Nat), .int .i64 (lg.at_ : Nat), .int .i64 (lg.seq : Nat)]) ∧ Below w1.heap.size w1 w') := hbg
    have HSC2 : Hid (∀ ww V', Dk ww V' A n c B m e d → Calls Tryz.prog 36 #[.agg #[.slice A n c, .slice B m e, .int .i64 lf, .bool false], .agg #[.int .i64 (lg.frm : Nat), .int .i64 (lg.len : Nat), .int .i64 (lg.at_ : Nat), .int .i64 (lg.seq : Nat)]] ww fun q w' => ∃ v, q = .returned (.tuple #[v, .agg #[.int .i64 (SC.2.1.frm : Nat), .int .i64 (SC.2.1.len : Nat), .int .i64 (SC.2.1.at_ : Nat), .int .i64 (SC.2.1.seq : Nat)], .int .i64 0]) ∧ OwnT w' ww.heap.size v SC.1 ∧ Below ww.heap.size ww w') := hsc
    have HOP2 := hide hop
    clear hQ HOP HTX HBG HSC HSE HOK htx hbg hsc hse hop hT hlg hSC hok
    go_wp2_with fail
    refine (HNW.out _ _ HD1.out).mono ?_
    rintro q w2 ⟨rfl, hb2⟩
    have kD2 := (kD1.belowS hb2).up (.cells #[.int .i64 (gg : Nat), .int .i64 (gf : Nat), .int .i64 (gq : Nat), .int .i64 (gp : Nat)] 77)
    have kC2 := (kC1.belowS hb2).up (.cells #[.int .i64 (gg : Nat), .int .i64 (gf : Nat), .int .i64 (gq : Nat), .int .i64 (gp : Nat)] 77)
    have kH2 := Box.new w2 77 #[.int .i64 (gg : Nat), .int .i64 (gf : Nat), .int .i64 (gq : Nat), .int .i64 (gp : Nat)]
    have hbA : Below w2.heap.size w2 (w2.alloc (.cells #[.int .i64 (gg : Nat), .int .i64 (gf : Nat), .int .i64 (gq : Nat), .int .i64 (gp : Nat)] 77)) := (Below.refl _ _).alloc (Nat.le_refl _) _
    have HD2 := hide ((HD1.out.below hb2).below hbA)
    have hbw2 := hbw1.trans (hb2.mono hbw1.size)
    have hbw3 := hbw2.trans (hbA.mono hbw2.size)
    obtain ⟨bh, hbh⟩ : ∃ b, b = w2.heap.size := ⟨_, rfl⟩
    obtain ⟨w3, hw3⟩ : ∃ y, y = w2.alloc (.cells #[.int .i64 (gg : Nat), .int .i64 (gf : Nat), .int .i64 (gq : Nat), .int .i64 (gp : Nat)] 77) := ⟨_, rfl⟩
    rw [← hw3] at kD2 kC2 kH2 HD2 hbw3
    rw [← hbh] at kH2
    have HW3 := hide hw3
    have HBH := hide hbh
    clear q0 q1 q2 q3 hbA hw3 hbh kD1 kC1 HD1 hbw1 hb2 hbw2 HNW
    go_upto_region 8 with (fail)
    rw [← HW3.out, ← HBH.out]
    clear HW3 HBH
    obtain ⟨q0, q1, q2, q3⟩ := kD2.cell4
    obtain ⟨c0, c1⟩ := kC2.cell2
    obtain ⟨p0, p1, p2, p3⟩ := kH2.cell4
    cases T with
    | none =>
      have hR : R = (none, 15) := HOP2.out
      subst hR
      clear HOP2 HBG2 HSC2
      unfold txv at HTX2
      go_wp2_with fail
      refine (HTX2.out _ _ HD2.out).mono ?_
      rintro q w4 ⟨rfl, hb4⟩
      have hbw4 := hbw3.trans (hb4.mono hbw3.size)
      clear q0 q1 q2 q3 c0 c1 p0 p1 p2 p3 hb4
      go_wp2_with fail
      exact bodyPost_ret (v := .tuple #[.pointer none, .int .i64 15]) (by simp [results, Tryz.results12, go_sem]) rfl ⟨rfl, hbw4⟩
    | some t =>
      have hR : R = (some ⟨ct, d, ⟨gg, gf, gq, gp⟩, t, SC.1, SC.2.1⟩, 0) := HOP2.out
      subst hR
      unfold txv at HTX2
      clear HOP2
      go_wp2_with fail
      refine (HTX2.out _ _ HD2.out).mono ?_
      rintro q w4 ⟨rfl, hb4⟩
      have kD4 := kD2.belowS hb4
      have kC4 := kC2.belowS hb4
      have kH4 := kH2.belowS hb4
      have HD4 := hide (HD2.out.below hb4)
      have hbw4 := hbw3.trans (hb4.mono hbw3.size)
      clear q0 q1 q2 q3 c0 c1 p0 p1 p2 p3 hb4 kD2 kC2 kH2 HD2 hbw3 HTX2
      go_upto_region 11 with (fail)
      refine wp_region_noPanic ?_
      refine RegS.region (ds := [50, 51, 52, 53, 54, 49, 55, 56, 57, 11]) (pure := [5, 6, 7, 8]) (fresh := [9])
        (G := Gs [.is (.agg #[.slice A n c, .slice B m e, .int .i64 lf, .bool false]), .is (.agg #[.int .i64 (ct.log : Nat), .int .i64 (ct.pages : Nat)]), .is (.agg #[.int .i64 (gg : Nat), .int .i64 (gf : Nat), .int .i64 (gq : Nat), .int .i64 (gp : Nat)]), .is (.agg #[.int .i64 (lg.frm : Nat), .int .i64 (lg.len : Nat), .int .i64 (lg.at_ : Nat), .int .i64 (lg.seq : Nat)]), .three (Fc.own w4.heap.size SC.1) (.agg #[.int .i64 (SC.2.1.frm : Nat), .int .i64 (SC.2.1.len : Nat), .int .i64 (SC.2.1.at_ : Nat), .int .i64 (SC.2.1.seq : Nat)]) (.int .i64 0), .three (Fc.own w4.heap.size SC.1) (.agg #[.int .i64 (SC.2.1.frm : Nat), .int .i64 (SC.2.1.len : Nat), .int .i64 (SC.2.1.at_ : Nat), .int .i64 (SC.2.1.seq : Nat)]) (.int .i64 0), (Fc.own w4.heap.size SC.1), .is (.agg #[.int .i64 (SC.2.1.frm : Nat), .int .i64 (SC.2.1.len : Nat), .int .i64 (SC.2.1.at_ : Nat), .int .i64 (SC.2.1.seq : Nat)]), .is (.int .i64 0), .box w4.heap.size 82 #[.int .i64 0, .int .i64 0, .int .i64 0, .int .i64 0]])
        rfl (by kernel_rfl) (by kernel_rfl) ⟨by kernel_rfl, by kernel_rfl, fun i _ v w w' => gs_keep _ i v w w', ?quiet, ?step⟩ (fun _ _ _ _ _ h => h) ?tail
      case quiet =>
        intro i o hi hp ho u ww hd
        obtain rfl | rfl | rfl | rfl : i = 5 ∨ i = 6 ∨ i = 7 ∨ i = 8 := by simp at hp; omega
        · simp only [List.getElem?_toArray, List.getElem?_cons_succ, List.getElem?_cons_zero, Option.some.injEq] at ho
          subst ho
          simp only [RegS.putAll, List.length_cons, List.length_nil, Nat.reduceAdd, List.getD_cons_zero, List.getD_cons_succ, Act.put, List.setIfInBounds_toArray, List.set_cons_zero, List.set_cons_succ]
          exact ⟨_, fun _ => rfl, hd 4 (by decide) (by rfl)⟩
        · simp only [List.getElem?_toArray, List.getElem?_cons_succ, List.getElem?_cons_zero, Option.some.injEq] at ho
          subst ho
          simp only [RegS.putAll, List.length_cons, List.length_nil, Nat.reduceAdd, List.getD_cons_zero, List.getD_cons_succ, Act.put, List.setIfInBounds_toArray, List.set_cons_zero, List.set_cons_succ]
          obtain ⟨x, e, h⟩ := hd 5 (by decide) (by rfl)
          rw [e]
          exact ⟨_, fun _ => rfl, h⟩
        · simp only [List.getElem?_toArray, List.getElem?_cons_succ, List.getElem?_cons_zero, Option.some.injEq] at ho
          subst ho
          simp only [RegS.putAll, List.length_cons, List.length_nil, Nat.reduceAdd, List.getD_cons_zero, List.getD_cons_succ, Act.put, List.setIfInBounds_toArray, List.set_cons_zero, List.set_cons_succ]
          obtain ⟨x, e, h⟩ := hd 5 (by decide) (by rfl)
          rw [e]
          exact ⟨_, fun _ => rfl, rfl⟩
        · simp only [List.getElem?_toArray, List.getElem?_cons_succ, List.getElem?_cons_zero, Option.some.injEq] at ho
          subst ho
          simp only [RegS.putAll, List.length_cons, List.length_nil, Nat.reduceAdd, List.getD_cons_zero, List.getD_cons_succ, Act.put, List.setIfInBounds_toArray, List.set_cons_zero, List.set_cons_succ]
          obtain ⟨x, e, h⟩ := hd 5 (by decide) (by rfl)
          rw [e]
          exact ⟨_, fun _ => rfl, rfl⟩
      case step =>
        intro i o hi hp ho u ww hb hd K hK
        obtain rfl | rfl | rfl | rfl | rfl | rfl : i = 0 ∨ i = 1 ∨ i = 2 ∨ i = 3 ∨ i = 4 ∨ i = 9 := by simp at hp hi; omega
        · simp only [List.getElem?_toArray, List.getElem?_cons_zero, Option.some.injEq] at ho
          subst ho
          simp only [RegS.putAll, List.length_cons, List.length_nil, Nat.reduceAdd, List.getD_cons_zero, List.getD_cons_succ, Act.put, List.setIfInBounds_toArray, List.set_cons_zero, List.set_cons_succ]
          obtain ⟨q0, q1, q2, q3⟩ := (kD4.belowS hb).cell4
          go_simp
          exact hK _ _ rfl (Below.refl _ _) rfl (fun h => absurd h (by decide))
        · simp only [List.getElem?_toArray, List.getElem?_cons_succ, List.getElem?_cons_zero, Option.some.injEq] at ho
          subst ho
          simp only [RegS.putAll, List.length_cons, List.length_nil, Nat.reduceAdd, List.getD_cons_zero, List.getD_cons_succ, Act.put, List.setIfInBounds_toArray, List.set_cons_zero, List.set_cons_succ]
          obtain ⟨q0, q1⟩ := (kC4.belowS hb).cell2
          go_simp
          exact hK _ _ rfl (Below.refl _ _) rfl (fun h => absurd h (by decide))
        · simp only [List.getElem?_toArray, List.getElem?_cons_succ, List.getElem?_cons_zero, Option.some.injEq] at ho
          subst ho
          simp only [RegS.putAll, List.length_cons, List.length_nil, Nat.reduceAdd, List.getD_cons_zero, List.getD_cons_succ, Act.put, List.setIfInBounds_toArray, List.set_cons_zero, List.set_cons_succ]
          obtain ⟨q0, q1, q2, q3⟩ := (kH4.belowS hb).cell4
          go_simp
          exact hK _ _ rfl (Below.refl _ _) rfl (fun h => absurd h (by decide))
        · simp only [List.getElem?_toArray, List.getElem?_cons_succ, List.getElem?_cons_zero, Option.some.injEq] at ho
          subst ho
          simp only [RegS.putAll, List.length_cons, List.length_nil, Nat.reduceAdd, List.getD_cons_zero, List.getD_cons_succ, Act.put, List.setIfInBounds_toArray, List.set_cons_zero, List.set_cons_succ]
          have e1 : u 1 = .agg #[.int .i64 (ct.log : Nat), .int .i64 (ct.pages : Nat)] := hd 1 (by decide) (by rfl)
          have e2 : u 2 = .agg #[.int .i64 (gg : Nat), .int .i64 (gf : Nat), .int .i64 (gq : Nat), .int .i64 (gp : Nat)] := hd 2 (by decide) (by rfl)
          go_simp
          refine (HBG2.out _).mono ?_
          rintro q w5 ⟨rfl, hb5⟩
          exact hK _ _ rfl hb5 rfl (fun h => absurd h (by decide))
        · simp only [List.getElem?_toArray, List.getElem?_cons_succ, List.getElem?_cons_zero, Option.some.injEq] at ho
          subst ho
          simp only [RegS.putAll, List.length_cons, List.length_nil, Nat.reduceAdd, List.getD_cons_zero, List.getD_cons_succ, Act.put, List.setIfInBounds_toArray, List.set_cons_zero, List.set_cons_succ]
          have e0 : u 0 = .agg #[.slice A n c, .slice B m e, .int .i64 lf, .bool false] := hd 0 (by decide) (by rfl)
          have e3 : u 3 = .agg #[.int .i64 (lg.frm : Nat), .int .i64 (lg.len : Nat), .int .i64 (lg.at_ : Nat), .int .i64 (lg.seq : Nat)] := hd 3 (by decide) (by rfl)
          go_simp
          refine (HSC2.out _ _ (HD4.out.below hb)).mono ?_
          rintro q w5 ⟨v, rfl, ho, hb5⟩
          exact hK _ _ rfl hb5 ⟨v, rfl, own_mono ho hb.size⟩ (fun h => absurd h (by decide))
        · simp only [List.getElem?_toArray, List.getElem?_cons_succ, List.getElem?_cons_zero, Option.some.injEq] at ho
          subst ho
          simp only [RegS.putAll, List.length_cons, List.length_nil, Nat.reduceAdd, List.getD_cons_zero, List.getD_cons_succ, Act.put, List.setIfInBounds_toArray, List.set_cons_zero, List.set_cons_succ]
          go_simp
          exact hK _ _ rfl ((Below.refl _ _).alloc (Nat.le_refl _) _) ⟨_, rfl, hb.size, Box.new _ _ _⟩ fun _ => ⟨rfl, by simp⟩
      case tail =>
        intro u ww hb hG hp hne
        simp only [RegS.putAll, List.length_cons, List.length_nil, Nat.reduceAdd, List.getD_cons_zero, List.getD_cons_succ, Act.put, List.setIfInBounds_toArray, List.set_cons_zero, List.set_cons_succ, List.drop_succ_cons, List.drop_zero]
        have ho6 : ww.ownsRow w4.heap.size 9 1 (u 6) SC.1.length (secV SC.1) := hG 6 (by decide)
        have e7 : u 7 = (.agg #[.int .i64 (SC.2.1.frm : Nat), .int .i64 (SC.2.1.len : Nat), .int .i64 (SC.2.1.at_ : Nat), .int .i64 (SC.2.1.seq : Nat)]) := hG 7 (by decide)
        have e8 : u 8 = .int .i64 0 := hG 8 (by decide)
        obtain ⟨bL, e9, l9, k9⟩ := hG 9 (by decide)
        clear hG hp hne HBG2 HSC2
        obtain ⟨q0, q1, q2, q3⟩ := k9.cell4
        have f0 := k9.frozen 0
        have f1' := k9.frozen 1
        have f2' := k9.frozen 2
        have f3' := k9.frozen 3
        have hlb := k9.lt
        obtain ⟨Ar, cr, hrv⟩ := own_shape ho6
        rw [hrv] at ho6 ⊢
        obtain ⟨nr, hnr⟩ : ∃ nr, nr = SC.1.length := ⟨_, rfl⟩
        rw [← hnr] at ho6 ⊢
        have HNR := hide hnr
        have HO6 := hide ho6
        clear hrv ho6 hnr
        go_wp2_with fail
        refine NoPanic.normal ?_
        rw [e8, e9]
        have hne6 := own_box_ne HO6.out k9 (by decide)
        have hbD := (kD4.belowS hb).lt
        have hlD := kD4.lt
        have hlC := kC4.lt
        have hlH := kH4.lt
        have kL5 := k9.set4 (u0 := .int .i64 (SC.2.1.frm : Nat)) (u1 := .int .i64 (SC.2.1.len : Nat)) (u2 := .int .i64 (SC.2.1.at_ : Nat)) (u3 := .int .i64 (SC.2.1.seq : Nat))
        have kD5 := (kD4.belowS hb).far4 (c := bL) (u0 := .int .i64 (SC.2.1.frm : Nat)) (u1 := .int .i64 (SC.2.1.len : Nat)) (u2 := .int .i64 (SC.2.1.at_ : Nat)) (u3 := .int .i64 (SC.2.1.seq : Nat)) (by omega)
        have kC5 := (kC4.belowS hb).far4 (c := bL) (u0 := .int .i64 (SC.2.1.frm : Nat)) (u1 := .int .i64 (SC.2.1.len : Nat)) (u2 := .int .i64 (SC.2.1.at_ : Nat)) (u3 := .int .i64 (SC.2.1.seq : Nat)) (by omega)
        have kH5 := (kH4.belowS hb).far4 (c := bL) (u0 := .int .i64 (SC.2.1.frm : Nat)) (u1 := .int .i64 (SC.2.1.len : Nat)) (u2 := .int .i64 (SC.2.1.at_ : Nat)) (u3 := .int .i64 (SC.2.1.seq : Nat)) (by omega)
        have hO5 := own_set4o HO6.out hne6 (.int .i64 (SC.2.1.frm : Nat)) (.int .i64 (SC.2.1.len : Nat)) (.int .i64 (SC.2.1.at_ : Nat)) (.int .i64 (SC.2.1.seq : Nat))
        have hD5 := ((HD4.out.lt'.below hb).mono (V' := fun x => (V x ∨ w.heap.size ≤ x) ∧ x ≠ bL ∧ x < w4.heap.size) fun x hx => ⟨.inl hx.1.1, by omega, hx.2⟩).set4 (b := bL) (u0 := .int .i64 (SC.2.1.frm : Nat)) (u1 := .int .i64 (SC.2.1.len : Nat)) (u2 := .int .i64 (SC.2.1.at_ : Nat)) (u3 := .int .i64 (SC.2.1.seq : Nat)) fun x hx => hx.2.1
        have hbwb := hbw4.trans (hb.mono hbw4.size)
        have hbw5 := below_set4 (b := bL) (u0 := .int .i64 (SC.2.1.frm : Nat)) (u1 := .int .i64 (SC.2.1.len : Nat)) (u2 := .int .i64 (SC.2.1.at_ : Nat)) (u3 := .int .i64 (SC.2.1.seq : Nat)) hbwb (Nat.le_trans hbw4.size l9)
        obtain ⟨w5, hw5⟩ : ∃ y, y = (((ww.setCell ⟨bL, 0, none⟩ (.int .i64 (SC.2.1.frm : Nat))).setCell ⟨bL, 1, none⟩ (.int .i64 (SC.2.1.len : Nat))).setCell ⟨bL, 2, none⟩ (.int .i64 (SC.2.1.at_ : Nat))).setCell ⟨bL, 3, none⟩ (.int .i64 (SC.2.1.seq : Nat)) := ⟨_, rfl⟩
        have hrb : w4.heap.size ≤ w5.heap.size := by rw [hw5, set4_size]; exact hb.size
        rw [← hw5] at kL5 kD5 kC5 kH5 hO5 hD5 hbw5 ⊢
        have HO5 := hide hO5
        have HD5 := hide hD5
        clear hw5 hO5 hD5 hbwb hb HO6 hne6 k9 q0 q1 q2 q3 f0 f1' f2' f3' e7 e8 e9 kD4 kC4 kH4 hbD
        obtain ⟨q0, q1, q2, q3⟩ := kD5.cell4
        obtain ⟨c0, c1⟩ := kC5.cell2
        obtain ⟨p0, p1, p2, p3⟩ := kH5.cell4
        obtain ⟨r0, r1, r2, r3⟩ := kL5.cell4
        have kF := Box.new w5 87 (kcells A n c B m e (.slice Ar nr cr) ⟨ct, d, ⟨gg, gf, gq, gp⟩, t, SC.1, SC.2.1⟩)
        have hbF : Below w5.heap.size w5 (w5.alloc (.cells (kcells A n c B m e (.slice Ar nr cr) ⟨ct, d, ⟨gg, gf, gq, gp⟩, t, SC.1, SC.2.1⟩) 87)) := (Below.refl _ _).alloc (Nat.le_refl _) _
        have hDF := (HD5.out.lt'.below hbF).mono (V' := fun x => (V x ∨ w.heap.size ≤ x) ∧ x ≠ w5.heap.size ∧ (Value.slice Ar nr cr).ownBlock ≠ some x) fun x hx => ⟨hx.1.1, by have := hx.2; omega, fun e => by have := (HO5.out.lt x e).1; have := hx.1.2.2; omega⟩
        have hbwF := hbw5.trans (hbF.mono hbw5.size)
        have hsx := hbw5.size
        have hOF : (w5.alloc (.cells (kcells A n c B m e (.slice Ar nr cr) ⟨ct, d, ⟨gg, gf, gq, gp⟩, t, SC.1, SC.2.1⟩) 87)).ownsRow 0 9 1 (.slice Ar nr cr) SC.1.length (secV SC.1) := by
          rw [← HNR.out]
          exact own_mono (own_below HO5.out hbF) (Nat.zero_le _)
        have hneF : (Value.slice Ar nr cr).ownBlock ≠ some w5.heap.size := fun e => by have := (HO5.out.lt _ e).2; omega
        have hgF : ∀ g, (Value.slice Ar nr cr).ownBlock = some g → w.heap.size ≤ g := fun g e => Nat.le_trans hbw4.size (HO5.out.lt g e).1
        have HFIN : Hid (KeepAt (w5.alloc (.cells (kcells A n c B m e (.slice Ar nr cr) ⟨ct, d, ⟨gg, gf, gq, gp⟩, t, SC.1, SC.2.1⟩) 87)) (fun x => V x ∨ w.heap.size ≤ x) w5.heap.size (.slice Ar nr cr) ⟨ct, d, ⟨gg, gf, gq, gp⟩, t, SC.1, SC.2.1⟩) :=
          ⟨A, n, c, B, m, e, kF, hDF, hOF, hneF⟩
        have HBW := hide hbwF
        have HGF := hide hgF
        have hcells : kcells A n c B m e (.slice Ar nr cr) ⟨ct, d, ⟨gg, gf, gq, gp⟩, t, SC.1, SC.2.1⟩ = #[.int .i64 (ct.log : Nat), .int .i64 (ct.pages : Nat), .slice A n c, .slice B m e, .int .i64 lf, .bool false, .int .i64 (gg : Nat), .int .i64 (gf : Nat), .int .i64 (gq : Nat), .int .i64 (gp : Nat), .string (mkB t), .slice Ar nr cr, .int .i64 (SC.2.1.frm : Nat), .int .i64 (SC.2.1.len : Nat), .int .i64 (SC.2.1.at_ : Nat), .int .i64 (SC.2.1.seq : Nat)] := by
          unfold kcells
          simp only
          rw [HLF.out, HDEAD.out]
        rw [hcells] at HFIN HBW
        clear kF hbF hDF hbwF hOF hneF hgF hcells HD5 HO5 kD5 kC5 kH5 kL5
        go_wp2_with fail
        exact bodyPost_ret (v := .tuple #[.pointer (some ⟨w5.heap.size, 0, none⟩), .int .i64 0]) (by simp [results, Tryz.results12, go_sem]) rfl ⟨⟨w5.heap.size, .slice Ar nr cr, rfl, HFIN.out, hsx, HGF.out⟩, HBW.out⟩
end Go.Proofs.YtojincohnjophaaGreatDoor

/-! The walk of layer 21's Save. (printed by gensv.py) -/
namespace Go.Proofs.YtojincohnjophaaGreatDoor
open Go.RowKit
open DiskP (Bytes Disk Wr Fate noughts)
open KeepP (Cut Head K Kept okC okH pagesP saveP beginP)
open LogP (Log zeroL Live okL Holds)
set_option linter.unusedVariables false

end Go.Proofs.YtojincohnjophaaGreatDoor

/-! The walk of law 21's cut and awake. (merged: KeepQ KeepR) -/
/-! What is kept, in memory, and its methods, as the laws of layer 21 use them. -/
namespace Go.Proofs.YtojincohnjophaaGreatDoor
open Go.RowKit
open DiskP (Bytes Disk Wr Fate noughts)
open KeepP (Cut Head K Kept okC okH pagesP saveP beginP openP)
open LogP (Log zeroL Live okL Holds)
set_option linter.unusedVariables false

/-- what is kept, at block b, all of it in blocks of S -/
def KM (w : World) (S : Nat → Prop) (b : Nat) (k : K) : Prop := ∃ rv, KeepAt w S b rv k ∧ S b ∧ ∀ g, rv.ownBlock = some g → S g
/-- nothing that was there changes but in blocks of S -/
structure KChg (S : Nat → Prop) (w w' : World) : Prop where
  os : w'.os = w.os
  tape : w'.tape = w.tape
  output : w'.output = w.output
  size : w.heap.size ≤ w'.heap.size
  block : ∀ x, x < w.heap.size → ¬ S x → w'.heap[x]? = w.heap[x]?
theorem KChg.of {S : Nat → Prop} {b : Nat} {rv : Value} {w w' : World} (h : Chg b rv w w') (hb : S b) (hr : ∀ g, rv.ownBlock = some g → S g) : KChg S w w' :=
  ⟨h.os, h.tape, h.output, h.size, fun x hx hS => h.block x hx (fun e => hS (e ▸ hb)) fun e => hS (hr x e)⟩
theorem KChg.toBelow {S : Nat → Prop} {base : Nat} {w w' : World} (h : KChg S w w') (hS : ∀ x, S x → base ≤ x) (h0 : base ≤ w.heap.size) : Below base w w' :=
  ⟨h.os, h.tape, h.output, h.size, fun x hx => h.block x (by omega) fun hs => by have := hS x hs; omega⟩
theorem KM.below {w w' : World} {S : Nat → Prop} {b : Nat} {k : K} (h : KM w S b k) (hb : Below w.heap.size w w') : KM w' S b k := by
  obtain ⟨rv, h1, h2, h3⟩ := h
  exact ⟨rv, h1.below hb, h2, h3⟩
theorem KM.lt {w : World} {S : Nat → Prop} {b : Nat} {k : K} (h : KM w S b k) : b < w.heap.size := by
  obtain ⟨rv, h1, h2, h3⟩ := h
  exact h1.lt.1
theorem KM.mono {w : World} {S S' : Nat → Prop} {b : Nat} {k : K} (h : KM w S b k) (hS : ∀ x, S x → x < w.heap.size → S' x) : KM w S' b k := by
  obtain ⟨rv, h1, h2, h3⟩ := h
  have hl := h1.lt
  exact ⟨rv, h1.mono hS, hS _ h2 hl.1, fun g hg => hS _ (h3 g hg) (hl.2 g hg)⟩
theorem KM.other {w w' : World} {S S' : Nat → Prop} {b : Nat} {k : K} (h : KM w S b k) (hc : KChg S' w w') (hd : ∀ x, S x → ¬ S' x) : KM w' S b k := by
  obtain ⟨rv, h1, h2, h3⟩ := h
  refine ⟨rv, h1.keep hc.size fun x hx hs => hc.block x hx ?_, h2, h3⟩
  rcases hs with h | h | h
  · exact hd x h
  · exact hd x (h ▸ h2)
  · exact hd x (h3 x h)

theorem km_text {w : World} {S : Nat → Prop} {b : Nat} {k : K} (h : KM w S b k) :
    Calls Tryz.prog 16 #[.pointer (some ⟨b, 0, none⟩)] w fun q w' => q = .returned (.string (mkB k.text)) ∧ w = w' := by
  obtain ⟨rv, h1, _⟩ := h
  exact text_any S b rv k w h1
theorem km_records {w : World} {S : Nat → Prop} {b : Nat} {k : K} (h : KM w S b k) (hr : k.records.length ≤ 1000000) :
    Calls Tryz.prog 17 #[.pointer (some ⟨b, 0, none⟩)] w fun q w' => ∃ v, q = .returned v ∧ w'.ownsRow w.heap.size 9 1 v k.records.length (secV k.records) ∧ Below w.heap.size w w' := by
  obtain ⟨rv, h1, _⟩ := h
  exact records_any S b rv k w h1 hr
theorem km_disk {w : World} {S : Nat → Prop} {b : Nat} {k : K} (h : KM w S b k) :
    Calls Tryz.prog 14 #[.pointer (some ⟨b, 0, none⟩)] w fun q w' => ∃ A n c B m e, q = .returned (.agg #[.slice A n c, .slice B m e, .int .i64 k.drive.left, .bool k.drive.dead]) ∧ Dk w' S A n c B m e k.drive ∧ Below w.heap.size w w' := by
  obtain ⟨rv, h1, _⟩ := h
  exact disk_any S b rv k w h1
/-- a kept disk, crashed -/
theorem km_crash {w : World} {V V2 : Nat → Prop} {A B FA : Option Addr} {n c m e fn fc : Nat} {f : Fate} {d : Disk} (hD : Dk w V A n c B m e d) (hm : DiskP.may d = true) (hF : Ft w V2 FA fn fc f) :
    Calls Tryz.prog 13 #[.agg #[.slice A n c, .slice B m e, .int .i64 d.left, .bool d.dead], .agg #[.slice FA fn fc, .int .i64 f.torn, .int .i64 f.cut]] w fun q w' => ∃ A n c B m e, q = .returned (.agg #[.slice A n c, .slice B m e, .int .i64 (DiskP.crash d f).left, .bool (DiskP.crash d f).dead]) ∧ Dk w' (fun x => w.heap.size ≤ x) A n c B m e (DiskP.crash d f) ∧ Below w.heap.size w w' := by
  refine (crash_any A n c B m e d V V2 FA fn fc f w hD hm hF).mono ?_
  rintro q w' ⟨v, rfl, ⟨A, n, c, B, m, e, rfl, h⟩, hb⟩
  exact ⟨A, n, c, B, m, e, rfl, h, hb⟩
/-- what is kept on a disk is opened -/
theorem km_open {w : World} {V : Nat → Prop} {A B : Option Addr} {n c m e : Nat} {k : K} (hk : Kept k) (hD : Dk w V A n c B m e k.drive) :
    Calls Tryz.prog 12 #[.agg #[.slice A n c, .slice B m e, .int .i64 k.drive.left, .bool k.drive.dead], .agg #[.int .i64 (k.cut.log : Nat), .int .i64 (k.cut.pages : Nat)]] w fun q w' => ∃ b, q = .returned (.tuple #[.pointer (some ⟨b, 0, none⟩), .int .i64 0]) ∧ KM w' (fun x => V x ∨ w.heap.size ≤ x) b k ∧ w.heap.size ≤ b ∧ Below w.heap.size w w' := by
  have hn : n = KeepP.size k.cut := by rw [← hD.len]; exact hk.log.live.len
  refine (open_any A n c B m e k.drive V k.cut w hD hk.log.live.may hk.log.live.dead hk.cut hn).mono ?_
  rintro q w' ⟨h, hb⟩
  rw [hk.opened] at h
  obtain ⟨b, rv, h1, h2, h3, h4⟩ := h
  exact ⟨b, h1, ⟨rv, h2, .inr h3, fun g hg => .inr (h4 g hg)⟩, h3, hb⟩
theorem km_format (ct : Cut) (s : ByteArray) (w : World) (hc : okC ct) (hs : s.size ≤ 1000000) (hfit : (pagesP (oct s)).length ≤ ct.pages) :
    Calls Tryz.prog 10 #[.agg #[.int .i64 (ct.log : Nat), .int .i64 (ct.pages : Nat)], .string s] w fun q w' => ∃ b d', q = .returned (.tuple #[.pointer (some ⟨b, 0, none⟩), .int .i64 0]) ∧ KM w' (fun x => w.heap.size ≤ x) b (fmtK ct (oct s) d') ∧ Kept (fmtK ct (oct s) d') ∧ d'.left = -1 ∧ w.heap.size ≤ b ∧ Below w.heap.size w w' := by
  refine (format_any ct s w hc hs hfit).mono ?_
  rintro q w' ⟨b, d', h1, h2, h3, h4, h5, h6⟩
  exact ⟨b, d', h1, ⟨_, h2, h3, fun g hg => by simp [Value.ownBlock] at hg⟩, h4, h5, h3, h6⟩
theorem km_add {w : World} {S : Nat → Prop} {b : Nat} {k : K} (h : KM w S b k) (hk : Kept k) (hq : k.head.seq + k.records.length ≤ LogP.maxSeq) (hl : k.drive.left = -1) (s : ByteArray) (hs : s.size ≤ 4000) (hrl : k.records.length ≤ 1000000) (hroom : LogP.sum k.records + LogP.secs s.size < k.cut.log) :
    Calls Tryz.prog 11 #[.pointer (some ⟨b, 0, none⟩), .string s] w fun q w' => ∃ d' l', q = .returned (.int .i64 0) ∧ KM w' (fun x => S x ∨ w.heap.size ≤ x) b { k with drive := d', records := k.records ++ [oct s], log := l' } ∧ Kept { k with drive := d', records := k.records ++ [oct s], log := l' } ∧ d'.left = -1 ∧ KChg S w w' := by
  obtain ⟨rv, h1, h2, h3⟩ := h
  have hlv := hk.log.live
  have hz := oct_length s
  have hA := add_any S b rv k s w h1 (hk.log.okL hq) hlv.dead (by rw [hk.log.quiet]; simp) (by omega) hrl
  rcases hk.add hq (oct s) with ⟨h0, _⟩ | ⟨_, h0, _⟩ | ⟨_, _, d', l', e, he, h0⟩
  · omega
  · rw [hz] at h0; exact absurd hroom h0
  · rcases h0 with ⟨rfl, hkN, hlN⟩ | ⟨_, h0, _⟩
    · rw [he] at hA
      refine hA.mono ?_
      rintro q w' ⟨rfl, rv', g1, g2, g3⟩
      rw [addK] at g1
      simp only at g1
      rw [if_pos trivial] at g1
      refine ⟨d', l', rfl, ⟨rv', g1, .inl h2, fun g hg => ?_⟩, hkN, hlN hl, KChg.of g3 h2 h3⟩
      rcases g2 g hg with h | h
      · exact .inl (h3 g h)
      · exact .inr h
    · exact absurd hl h0

end Go.Proofs.YtojincohnjophaaGreatDoor

/-! The walk of law 21's cut and awake. -/
namespace Go.Proofs.YtojincohnjophaaGreatDoor
open Go.RowKit
open DiskP (Bytes Disk Wr Fate noughts)
open KeepP (Cut Head K Kept okC okH pagesP saveP beginP openP)
open LogP (Log zeroL Live okL Holds)
set_option linter.unusedVariables false

theorem pages_fit {t : Bytes} {p : Nat} (h : KeepP.cells t.length + 2 < 3 * (p + 1)) : (pagesP t).length ≤ p := by
  have := KeepP.pages_few t
  omega
end Go.Proofs.YtojincohnjophaaGreatDoor
