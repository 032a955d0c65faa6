/- The walk of layer 21's save. (printed by gensave.py) -/
import Derived.Test.YtojincohnjophaaGreatDoorKeepE
import Derived.Test.YtojincohnjophaaGreatDoorDiskG
namespace Go.Proofs.YtojincohnjophaaGreatDoor
open Go.RowKit
open DiskP (Bytes Disk Wr Fate noughts)
open KeepP (Cut Head okC okH saveP putK sectorB)
set_option linter.unusedVariables false

def Fc.kput (i : Nat) (s : ByteArray) : Fc := ⟨fun v w => ∃ b1 b2, v = kstV (.put b1 b2 i s) ∧ kstBox w (KSt.put b1 b2 i s), fun _ _ _ hb ⟨b1, b2, e, h⟩ => ⟨b1, b2, e, kstBox.keep (B := 0) h fun b h => hb.block b h⟩⟩
/-- the steps of a save -/
abbrev svSteps (b1 b2 b3 b4 b5 b6 b7 b8 i j p : Nat) (J Z S : ByteArray) : List KSt := [.put b1 b2 i J, .put b3 b4 j Z, .put b5 b6 p Z, .bar, .put b7 b8 p S, .bar]
def Fc.ksteps (i j p : Nat) (J Z S : ByteArray) : Fc := ⟨fun v w => ∃ g b1 b2 b3 b4 b5 b6 b7 b8, v = .slice (some ⟨g, 0, none⟩) 6 6 ∧ Sl w (fun _ => True) 1 (some ⟨g, 0, none⟩) 6 ((svSteps b1 b2 b3 b4 b5 b6 b7 b8 i j p J Z S).map kstV) ∧ kstBox w (KSt.put b1 b2 i J) ∧ kstBox w (KSt.put b3 b4 j Z) ∧ kstBox w (KSt.put b5 b6 p Z) ∧ kstBox w (KSt.put b7 b8 p S),
  fun _ _ _ hb ⟨g, b1, b2, b3, b4, b5, b6, b7, b8, e, h1, t1, t2, t3, t4⟩ => ⟨g, b1, b2, b3, b4, b5, b6, b7, b8, e, h1.below hb, kstBox.keep (B := 0) t1 fun b h => hb.block b h, kstBox.keep (B := 0) t2 fun b h => hb.block b h, kstBox.keep (B := 0) t3 fun b h => hb.block b h, kstBox.keep (B := 0) t4 fun b h => hb.block b h⟩⟩

def kstSz : KSt → Prop
  | .put _ _ _ s => s.size ≤ 1000000
  | .bar => True
theorem krun_ok : ∀ (l : List KSt) (d : Disk), DiskP.may d = true → d.W.length + 8000 * l.length ≤ 900000000 → (∀ st ∈ l, kstSz st) → KRunOK d l
  | [], _, _, _, _ => trivial
  | st :: l, d, hm, hw, hz => by
    rw [List.length_cons] at hw
    refine ⟨hm, by omega, fun h0 => ?_⟩
    have hz2 : ∀ st ∈ l, kstSz st := fun x hx => hz x (by simp [hx])
    have hz1 := hz st (by simp)
    cases st with
    | put b1 b2 i s =>
      have h0' : (putK d i (oct s)).2 = 0 := h0
      show KRunOK (putK d i (oct s)).1 l
      unfold putK at h0' ⊢
      by_cases he : oct s = []
      · rw [if_pos he]
        exact krun_ok l d hm (by omega) hz2
      · rw [if_neg he] at h0' ⊢
        obtain ⟨q1, q2, _⟩ := put_ok_may hm h0'
        have hz3 : s.size ≤ 1000000 := hz1
        have ho := oct_length s
        exact krun_ok l _ q1 (by omega) hz2
    | bar =>
      have h0' : (DiskP.barrier d).2 = 0 := h0
      show KRunOK (DiskP.barrier d).1 l
      obtain ⟨q1, q2, _⟩ := barrier_ok_may hm h0'
      exact krun_ok l _ q1 (by rw [q2]; simp; omega) hz2
theorem sv_run (b1 b2 b3 b4 b5 b6 b7 b8 : Nat) (d : Disk) (c : Cut) (h : Head) (l : List Bytes) :
    LogP.runP d ((svSteps b1 b2 b3 b4 b5 b6 b7 b8 (KeepP.start c h.half + c.log) (KeepP.start c h.half) (h.gen % 2) (mkB l.flatten) (mkB (noughts 128)) (mkB (sectorB h))).map kstF) = saveP d c h l := by
  simp [saveP, kstF, oct_mkB]

set_option maxRecDepth 100000 in
set_option maxHeartbeats 6400000 in
theorem save_any (A : Option Addr) (n c : Nat) (B : Option Addr) (m e : Nat) (d : Disk) (V : Nat → Prop) (ct : Cut) (h : Head) (Al : Option Addr) (nl al : Nat) (l : List Bytes) (V2 : Nat → Prop) (w : World) (hD : Dk w V A n c B m e d) (hm : DiskP.may d = true) (hmm : m ≤ 800000000) (hc : okC ct)
    (h1 : h.gen ≤ 9223372036854775807) (h2 : h.half ≤ 1) (h3 : h.seq ≤ 9223372036854775807) (h4 : h.pages ≤ 9223372036854775807)
    (hl : Sl w V2 1 Al nl (secV l)) (hA : nl = 0 ∨ ∃ g o, Al = some ⟨g, o, none⟩) (hal : nl ≤ al) (hfl : l.flatten.length ≤ 1000000) (hnl : nl ≤ 1000000) :
    Calls Tryz.prog 30 #[dkv A n c B m e d.left d.dead, ctv ct, hdv h, .slice Al nl al] w fun q w' => ∃ v, q = .returned (.tuple #[v, .int .i64 ((saveP d ct h l).2 : Nat)]) ∧ DkV w' (fun b => V b ∨ w.heap.size ≤ b) v (saveP d ct h l).1 ∧ Below w.heap.size w w' := by
  have hst := fun w1 => start_any ct h.half w1 hc h2
  have hsec := fun w1 => sector_any h w1 h1 (by omega) h3 h4
  have hj : ∀ w1, Sl w1 V2 1 Al nl (secV l) → Calls Tryz.prog 60 #[.slice Al nl al, .string ⟨#[]⟩] w1 fun e w' => e = .returned (.string (mkB l.flatten)) ∧ Below w1.heap.size w1 w' := fun w1 hS => by
    have := join_any Al nl al (l.map mkB) V2 w1 hS hA hal (by omega) (by rw [show ((l.map mkB).map oct) = l from octs_map_mkB l]; omega)
    rw [show ((l.map mkB).map oct) = l from octs_map_mkB l] at this
    exact this
  have hnz := fun w1 => noughts_any 128 w1 (by omega) (by omega)
  rw [show (128 : Int).toNat = 128 from rfl] at hnz
  have hkp := fun (i : Nat) (s : ByteArray) (w1 : World) => kput_any i s w1
  have hwl := hD.wlen
  have hstb : KeepP.start ct h.half ≤ 2000 := by
    obtain ⟨k1, k2, k3, k4⟩ := hc
    unfold KeepP.start KeepP.half
    have : h.half * (ct.log + 8 * ct.pages) ≤ 1 * (ct.log + 8 * ct.pages) := Nat.mul_le_mul_right _ h2
    omega
  have hclb : ct.log ≤ 400 := hc.2.1
  have hpl : h.gen % 2 ≤ 1 := by omega
  obtain ⟨RR, hRR⟩ : ∃ RR, RR = saveP d ct h l := ⟨_, rfl⟩
  have hsv := fun b1 b2 b3 b4 b5 b6 b7 b8 => sv_run b1 b2 b3 b4 b5 b6 b7 b8 d ct h l
  obtain ⟨JB, hJB⟩ : ∃ JB, JB = mkB l.flatten := ⟨_, rfl⟩
  obtain ⟨ZB, hZB⟩ : ∃ ZB, ZB = mkB (noughts 128) := ⟨_, rfl⟩
  obtain ⟨SB, hSB⟩ : ∃ SB, SB = mkB (sectorB h) := ⟨_, rfl⟩
  have zJ : JB.size ≤ 1000000 := by rw [hJB, mkB_size]; exact hfl
  have zZ : ZB.size ≤ 1000000 := by rw [hZB, mkB_size]; simp [noughts]
  have zS : SB.size ≤ 1000000 := by rw [hSB, mkB_size, KeepP.sectorB_len]; decide
  rw [← hJB] at hj
  rw [← hZB] at hnz
  rw [← hSB] at hsec
  rw [← hRR, ← hJB, ← hZB, ← hSB] at hsv
  obtain ⟨st, hst'⟩ : ∃ st, st = KeepP.start ct h.half := ⟨_, rfl⟩
  rw [← hst'] at hst hsv hstb
  obtain ⟨pl, hpl'⟩ : ∃ pl, pl = h.gen % 2 := ⟨_, rfl⟩
  rw [← hpl'] at hsv hpl
  have tpl : (h.gen : Int).tmod 2 = (pl : Int) := by rw [Int.tmod_eq_emod_of_nonneg (by omega), hpl']; rfl
  rw [← hRR]
  obtain ⟨cl, cp⟩ := ct
  obtain ⟨gg, gf, gq, gp⟩ := h
  unfold ctv hdv at *
  simp only at hst hsv hsec hclb tpl h1 h2 h3 h4 ⊢
  have hrun : ∀ b1 b2 b3 b4 b5 b6 b7 b8 F fc w1, Dk w1 (fun x => V x ∧ x < w.heap.size) A n c B m e d → Sl w1 (fun _ => True) 1 F 6 ((svSteps b1 b2 b3 b4 b5 b6 b7 b8 (st + cl) st pl JB ZB SB).map kstV) → kstBox w1 (.put b1 b2 (st + cl) JB) → kstBox w1 (.put b3 b4 st ZB) → kstBox w1 (.put b5 b6 pl ZB) → kstBox w1 (.put b7 b8 pl SB) →
      Calls Tryz.prog 58 #[dkv A n c B m e d.left d.dead, .slice F 6 fc] w1 fun q w' => ∃ v, q = .returned (.tuple #[v, .int .i64 (RR.2 : Nat)]) ∧ DkV w' (fun b => (V b ∧ b < w.heap.size) ∨ w1.heap.size ≤ b) v RR.1 ∧ Below w1.heap.size w1 w' := fun b1 b2 b3 b4 b5 b6 b7 b8 F fc w1 q1 q2 t1 t2 t3 t4 => by
    have := krun_any A n c B m e d (fun x => V x ∧ x < w.heap.size) F 6 fc (svSteps b1 b2 b3 b4 b5 b6 b7 b8 (st + cl) st pl JB ZB SB) w1 q1 q2 (fun s hs => by
      simp only [svSteps, List.mem_cons, List.not_mem_nil, or_false] at hs
      rcases hs with rfl | rfl | rfl | rfl | rfl | rfl
      · exact t1
      · exact t2
      · exact t3
      · trivial
      · exact t4
      · trivial) (krun_ok _ d hm (by show d.W.length + 8000 * 6 ≤ _; omega) (fun s hs => by
      simp only [svSteps, List.mem_cons, List.not_mem_nil, or_false] at hs
      rcases hs with rfl | rfl | rfl | rfl | rfl | rfl
      · exact zJ
      · exact zZ
      · exact zZ
      · trivial
      · exact zS
      · trivial)) (by decide)
    rw [hsv] at this
    exact this
  have HST := hide hst
  have HSEC := hide hsec
  have HJ := hide hj
  have HNZ := hide hnz
  have HKP := hide hkp
  obtain ⟨lf, hlf⟩ : ∃ lf, lf = d.left := ⟨_, rfl⟩
  obtain ⟨dd, hdd⟩ : ∃ dd, dd = d.dead := ⟨_, rfl⟩
  rw [← hlf, ← hdd] at hrun ⊢
  have HRUN := hide hrun
  have HLE : Hid (st ≤ 2000 ∧ cl ≤ 400 ∧ pl ≤ 1 ∧ JB.size ≤ 1000000 ∧ ZB.size ≤ 1000000 ∧ SB.size ≤ 1000000) := ⟨hstb, hclb, hpl, zJ, zZ, zS⟩
  have HEW : Hid (IntKind.i64.wrap ((st : Int) + (cl : Int)) = (st : Int) + (cl : Int)) := IntWalk.i64_in _ (by omega)
  have tw : IntKind.i64.wrap (pl : Int) = (pl : Int) := IntWalk.i64_in _ (by omega)
  have kD0 := (((Box.new w 54 #[.slice A n c, .slice B m e, .int .i64 lf, .bool dd]).up (.cells #[.int .i64 (cl : Nat), .int .i64 (cp : Nat)] 46)).up (.cells #[.int .i64 (gg : Nat), .int .i64 (gf : Nat), .int .i64 (gq : Nat), .int .i64 (gp : Nat)] 77)).up (.cells #[.slice none 0 0, .slice none 0 0, .int .i64 0, .bool false] 54)
  have kC0 := ((Box.new (w.alloc (.cells #[.slice A n c, .slice B m e, .int .i64 lf, .bool dd] 54)) 46 #[.int .i64 (cl : Nat), .int .i64 (cp : Nat)]).up (.cells #[.int .i64 (gg : Nat), .int .i64 (gf : Nat), .int .i64 (gq : Nat), .int .i64 (gp : Nat)] 77)).up (.cells #[.slice none 0 0, .slice none 0 0, .int .i64 0, .bool false] 54)
  have kH0 := (Box.new ((w.alloc (.cells #[.slice A n c, .slice B m e, .int .i64 lf, .bool dd] 54)).alloc (.cells #[.int .i64 (cl : Nat), .int .i64 (cp : Nat)] 46)) 77 #[.int .i64 (gg : Nat), .int .i64 (gf : Nat), .int .i64 (gq : Nat), .int .i64 (gp : Nat)]).up (.cells #[.slice none 0 0, .slice none 0 0, .int .i64 0, .bool false] 54)
  have kR0 := Box.new (((w.alloc (.cells #[.slice A n c, .slice B m e, .int .i64 lf, .bool dd] 54)).alloc (.cells #[.int .i64 (cl : Nat), .int .i64 (cp : Nat)] 46)).alloc (.cells #[.int .i64 (gg : Nat), .int .i64 (gf : Nat), .int .i64 (gq : Nat), .int .i64 (gp : Nat)] 77)) 54 #[.slice none 0 0, .slice none 0 0, .int .i64 0, .bool false]
  have hb0 := ((((Below.refl w.heap.size w).alloc (Nat.le_refl _) (.cells #[.slice A n c, .slice B m e, .int .i64 lf, .bool dd] 54)).alloc (by simp) (.cells #[.int .i64 (cl : Nat), .int .i64 (cp : Nat)] 46)).alloc (by simp; omega) (.cells #[.int .i64 (gg : Nat), .int .i64 (gf : Nat), .int .i64 (gq : Nat), .int .i64 (gp : Nat)] 77)).alloc (by simp; omega) (.cells #[.slice none 0 0, .slice none 0 0, .int .i64 0, .bool false] 54)
  simp only [World.size_alloc] at kC0 kH0 kR0
  have hD0 := hD.lt'.below hb0
  have hl0 := hl.below hb0
  obtain ⟨w0, hw0⟩ : ∃ y, y = (((w.alloc (.cells #[.slice A n c, .slice B m e, .int .i64 lf, .bool dd] 54)).alloc (.cells #[.int .i64 (cl : Nat), .int .i64 (cp : Nat)] 46)).alloc (.cells #[.int .i64 (gg : Nat), .int .i64 (gf : Nat), .int .i64 (gq : Nat), .int .i64 (gp : Nat)] 77)).alloc (.cells #[.slice none 0 0, .slice none 0 0, .int .i64 0, .bool false] 54) := ⟨_, rfl⟩
  have hs0 : w.heap.size + 4 ≤ w0.heap.size := by rw [hw0]; simp
  rw [← hw0] at kD0 kC0 kH0 kR0 hb0 hD0 hl0
  have HW0 := hide hw0
  clear hst hsec hj hnz hkp hrun hwl hstb hclb hpl hRR hJB hZB hSB zJ zZ zS hst' hlf hdd hw0 hsv hD hm hl hA hal hfl hc hpl' h1 h2 h3 h4
  go_enter Tryz.func30, Tryz.ntmps30
  go_upto_region 1 with (fail)
  rw [← HW0.out]
  clear HW0
  go_wp2_with fail
  refine (HNZ.out _).mono ?_
  rintro r w1 ⟨rfl, hb1⟩
  have kD1 := kD0.belowS hb1
  have kC1 := kC0.belowS hb1
  have kH1 := kH0.belowS hb1
  have kR1 := kR0.belowS hb1
  have hD1 := hD0.below hb1
  have hl1 := hl0.below hb1
  have hbw1 := hb0.trans (hb1.mono hb0.size)
  have hs1 : w.heap.size + 4 ≤ w1.heap.size := Nat.le_trans hs0 hb1.size
  clear kD0 kC0 kH0 kR0 hD0 hl0 hb0 hb1 hs0
  go_upto_region 2 with (fail)
  have HSS : Hid (∀ ww, Below w1.heap.size w1 ww → (ww.cell? ⟨w.heap.size + 1, 0, none⟩ = some (.int .i64 (cl : Nat)) ∧ ww.cell? ⟨w.heap.size + 1, 1, none⟩ = some (.int .i64 (cp : Nat))) ∧ ww.cell? ⟨w.heap.size + 1 + 1, 0, none⟩ = some (.int .i64 (gg : Nat)) ∧ ww.cell? ⟨w.heap.size + 1 + 1, 1, none⟩ = some (.int .i64 (gf : Nat)) ∧ ww.cell? ⟨w.heap.size + 1 + 1, 2, none⟩ = some (.int .i64 (gq : Nat)) ∧ ww.cell? ⟨w.heap.size + 1 + 1, 3, none⟩ = some (.int .i64 (gp : Nat))) :=
    fun ww hb => ⟨(kC1.belowS hb).cell2, (kH1.belowS hb).cell4⟩
  go_region_held3 (fun ww => (ww.cell? ⟨w.heap.size + 1, 0, none⟩ = some (.int .i64 (cl : Nat)) ∧ ww.cell? ⟨w.heap.size + 1, 1, none⟩ = some (.int .i64 (cp : Nat))) ∧ ww.cell? ⟨w.heap.size + 1 + 1, 0, none⟩ = some (.int .i64 (gg : Nat)) ∧ ww.cell? ⟨w.heap.size + 1 + 1, 1, none⟩ = some (.int .i64 (gf : Nat)) ∧ ww.cell? ⟨w.heap.size + 1 + 1, 2, none⟩ = some (.int .i64 (gq : Nat)) ∧ ww.cell? ⟨w.heap.size + 1 + 1, 3, none⟩ = some (.int .i64 (gp : Nat)))
    (first | (with_reducible exact (HSS.out w1 (Below.refl _ _))) | (with_reducible exact (HSS.out w1.drew (Below.refl _ _).drew)) | (with_reducible exact (HSS.out wx hbx)))
    (((with_reducible refine (HST.out _).mono ?_); rintro q wx ⟨rfl, hbx⟩; have hbx := below_undrewD hbx))
  have kD := kD1.belowS hbx
  have kC := kC1.belowS hbx
  have kH := kH1.belowS hbx
  have kR := kR1.belowS hbx
  have HDD1 := hide (hD1.below hbx)
  have HLS := hide (hl1.below hbx)
  have hbwx := hbw1.trans (hbx.mono hbw1.size)
  have hs3 : w.heap.size + 4 ≤ wx.heap.size := Nat.le_trans hs1 hbx.size
  clear kD1 kC1 kH1 kR1 hD1 hl1 hbw1 hs1 hbx HSS HST HNZ tpl tw
  go_upto_region 3 with (fail)
  refine wp_region_noPanic ?_
  refine RegS.region (ds := [21, 22, 23, 24, 25, 26, 27, 28, 29, 30, 31, 32, 33, 34, 35, 36, 37, 38, 39, 40, 41, 42]) (pure := [20, 21]) (fresh := [])
    (G := Gs [.is (dkv A n c B m e lf dd), .is (.int .i64 (st : Nat)), .is (.pointer (some ⟨w.heap.size + 1, 0, none⟩)), .is (.int .i64 (cl : Nat)), .is (.int .i64 (st + cl : Nat)), .is (.slice Al nl al), .is (.string JB), (Fc.kput (st + cl) JB), .is (.int .i64 (st : Nat)), .is (.string ZB), (Fc.kput (st) ZB), .is (.int .i64 (pl : Nat)), .is (.string ZB), (Fc.kput (pl) ZB), .is (.int .i64 (pl : Nat)), .is (.agg #[.int .i64 (gg : Nat), .int .i64 (gf : Nat), .int .i64 (gq : Nat), .int .i64 (gp : Nat)]), .is (.string SB), (Fc.kput (pl) SB), (Fc.ksteps (st + cl) st pl JB ZB SB), .two (.dk (fun b => (V b ∧ b < w.heap.size) ∨ w.heap.size + 4 ≤ b) RR.1) (.int .i64 (RR.2 : Nat)), .dk (fun b => (V b ∧ b < w.heap.size) ∨ w.heap.size + 4 ≤ b) RR.1, .is (.int .i64 (RR.2 : Nat))])
    rfl (by kernel_rfl) (by kernel_rfl) ⟨by kernel_rfl, by kernel_rfl, fun i _ v w w' => gs_keep _ i v w w', ?quiet, ?step⟩ (fun _ _ _ _ _ h => h) ?tail
  case quiet =>
    intro i o hi hp ho u ww hd
    obtain rfl | rfl : i = 20 ∨ i = 21 := by simp at hp; omega
    · simp only [List.getElem?_toArray, List.getElem?_cons_succ, List.getElem?_cons_zero, Option.some.injEq] at ho
      subst ho
      simp only [RegS.putAll, List.length_cons, List.length_nil, Nat.reduceAdd, List.getD_cons_zero, List.getD_cons_succ, Act.put, List.setIfInBounds_toArray, List.set_cons_zero, List.set_cons_succ]
      obtain ⟨x, e, h⟩ := hd 19 (by decide) (by rfl)
      rw [e]
      exact ⟨_, fun _ => rfl, h⟩
    · simp only [List.getElem?_toArray, List.getElem?_cons_succ, List.getElem?_cons_zero, Option.some.injEq] at ho
      subst ho
      simp only [RegS.putAll, List.length_cons, List.length_nil, Nat.reduceAdd, List.getD_cons_zero, List.getD_cons_succ, Act.put, List.setIfInBounds_toArray, List.set_cons_zero, List.set_cons_succ]
      obtain ⟨x, e, h⟩ := hd 19 (by decide) (by rfl)
      rw [e]
      exact ⟨_, fun _ => rfl, rfl⟩
  case step =>
    intro i o hi hp ho u ww hb hd K hK
    obtain rfl | rfl | rfl | rfl | rfl | rfl | rfl | rfl | rfl | rfl | rfl | rfl | rfl | rfl | rfl | rfl | rfl | rfl | rfl | rfl : i = 0 ∨ i = 1 ∨ i = 2 ∨ i = 3 ∨ i = 4 ∨ i = 5 ∨ i = 6 ∨ i = 7 ∨ i = 8 ∨ i = 9 ∨ i = 10 ∨ i = 11 ∨ i = 12 ∨ i = 13 ∨ i = 14 ∨ i = 15 ∨ i = 16 ∨ i = 17 ∨ i = 18 ∨ i = 19 := by simp at hp hi; omega
    · simp only [List.getElem?_toArray, List.getElem?_cons_zero, Option.some.injEq] at ho
      subst ho
      simp only [RegS.putAll, List.length_cons, List.length_nil, Nat.reduceAdd, List.getD_cons_zero, List.getD_cons_succ, Act.put, List.setIfInBounds_toArray, List.set_cons_zero, List.set_cons_succ]
      obtain ⟨q0, q1, q2, q3⟩ := (kD.belowS hb).cell4
      go_simp
      exact hK _ _ rfl (Below.refl _ _) rfl (fun h => absurd h (by decide))
    · simp only [List.getElem?_toArray, List.getElem?_cons_succ, List.getElem?_cons_zero, Option.some.injEq] at ho
      subst ho
      simp only [RegS.putAll, List.length_cons, List.length_nil, Nat.reduceAdd, List.getD_cons_zero, List.getD_cons_succ, Act.put, List.setIfInBounds_toArray, List.set_cons_zero, List.set_cons_succ]
      go_simp
      exact hK _ _ rfl (Below.refl _ _) rfl (fun h => absurd h (by decide))
    · simp only [List.getElem?_toArray, List.getElem?_cons_succ, List.getElem?_cons_zero, Option.some.injEq] at ho
      subst ho
      simp only [RegS.putAll, List.length_cons, List.length_nil, Nat.reduceAdd, List.getD_cons_zero, List.getD_cons_succ, Act.put, List.setIfInBounds_toArray, List.set_cons_zero, List.set_cons_succ]
      go_simp
      exact hK _ _ rfl (Below.refl _ _) rfl (fun h => absurd h (by decide))
    · simp only [List.getElem?_toArray, List.getElem?_cons_succ, List.getElem?_cons_zero, Option.some.injEq] at ho
      subst ho
      simp only [RegS.putAll, List.length_cons, List.length_nil, Nat.reduceAdd, List.getD_cons_zero, List.getD_cons_succ, Act.put, List.setIfInBounds_toArray, List.set_cons_zero, List.set_cons_succ]
      have e2 : u 2 = .pointer (some ⟨w.heap.size + 1, 0, none⟩) := hd 2 (by decide) (by rfl)
      obtain ⟨q0, q1⟩ := (kC.belowS hb).cell2
      go_simp
      exact hK _ _ rfl (Below.refl _ _) rfl (fun h => absurd h (by decide))
    · simp only [List.getElem?_toArray, List.getElem?_cons_succ, List.getElem?_cons_zero, Option.some.injEq] at ho
      subst ho
      simp only [RegS.putAll, List.length_cons, List.length_nil, Nat.reduceAdd, List.getD_cons_zero, List.getD_cons_succ, Act.put, List.setIfInBounds_toArray, List.set_cons_zero, List.set_cons_succ]
      have e1 : u 1 = .int .i64 (st : Nat) := hd 1 (by decide) (by rfl)
      have e3 : u 3 = .int .i64 (cl : Nat) := hd 3 (by decide) (by rfl)
      have ew := HEW.out
      go_simp
      exact hK _ _ rfl (Below.refl _ _) (congrArg (Value.int .i64) (Int.natCast_add st cl).symm) (fun h => absurd h (by decide))
    · simp only [List.getElem?_toArray, List.getElem?_cons_succ, List.getElem?_cons_zero, Option.some.injEq] at ho
      subst ho
      simp only [RegS.putAll, List.length_cons, List.length_nil, Nat.reduceAdd, List.getD_cons_zero, List.getD_cons_succ, Act.put, List.setIfInBounds_toArray, List.set_cons_zero, List.set_cons_succ]
      go_simp
      exact hK _ _ rfl (Below.refl _ _) rfl (fun h => absurd h (by decide))
    · simp only [List.getElem?_toArray, List.getElem?_cons_succ, List.getElem?_cons_zero, Option.some.injEq] at ho
      subst ho
      simp only [RegS.putAll, List.length_cons, List.length_nil, Nat.reduceAdd, List.getD_cons_zero, List.getD_cons_succ, Act.put, List.setIfInBounds_toArray, List.set_cons_zero, List.set_cons_succ]
      have e5 : u 5 = .slice Al nl al := hd 5 (by decide) (by rfl)
      go_simp
      refine (HJ.out _ (HLS.out.below hb)).mono ?_
      rintro r w3 ⟨rfl, hb3⟩
      exact hK _ _ rfl hb3 rfl (fun h => absurd h (by decide))
    · simp only [List.getElem?_toArray, List.getElem?_cons_succ, List.getElem?_cons_zero, Option.some.injEq] at ho
      subst ho
      simp only [RegS.putAll, List.length_cons, List.length_nil, Nat.reduceAdd, List.getD_cons_zero, List.getD_cons_succ, Act.put, List.setIfInBounds_toArray, List.set_cons_zero, List.set_cons_succ]
      have e4 : u 4 = .int .i64 (st + cl : Nat) := hd 4 (by decide) (by rfl)
      have e6 : u 6 = .string JB := hd 6 (by decide) (by rfl)
      go_simp
      refine (HKP.out _ _ _).mono ?_
      rintro r w3 ⟨b1, b2, rfl, k1, k2, _, _, hb3⟩
      exact hK _ _ rfl hb3 ⟨b1, b2, rfl, k1, k2, by have := HLE.out; omega, by have := HLE.out; omega⟩ (fun h => absurd h (by decide))
    · simp only [List.getElem?_toArray, List.getElem?_cons_succ, List.getElem?_cons_zero, Option.some.injEq] at ho
      subst ho
      simp only [RegS.putAll, List.length_cons, List.length_nil, Nat.reduceAdd, List.getD_cons_zero, List.getD_cons_succ, Act.put, List.setIfInBounds_toArray, List.set_cons_zero, List.set_cons_succ]
      go_simp
      exact hK _ _ rfl (Below.refl _ _) rfl (fun h => absurd h (by decide))
    · simp only [List.getElem?_toArray, List.getElem?_cons_succ, List.getElem?_cons_zero, Option.some.injEq] at ho
      subst ho
      simp only [RegS.putAll, List.length_cons, List.length_nil, Nat.reduceAdd, List.getD_cons_zero, List.getD_cons_succ, Act.put, List.setIfInBounds_toArray, List.set_cons_zero, List.set_cons_succ]
      go_simp
      exact hK _ _ rfl (Below.refl _ _) rfl (fun h => absurd h (by decide))
    · simp only [List.getElem?_toArray, List.getElem?_cons_succ, List.getElem?_cons_zero, Option.some.injEq] at ho
      subst ho
      simp only [RegS.putAll, List.length_cons, List.length_nil, Nat.reduceAdd, List.getD_cons_zero, List.getD_cons_succ, Act.put, List.setIfInBounds_toArray, List.set_cons_zero, List.set_cons_succ]
      have e8 : u 8 = .int .i64 (st : Nat) := hd 8 (by decide) (by rfl)
      have e9 : u 9 = .string ZB := hd 9 (by decide) (by rfl)
      go_simp
      refine (HKP.out _ _ _).mono ?_
      rintro r w3 ⟨b1, b2, rfl, k1, k2, _, _, hb3⟩
      exact hK _ _ rfl hb3 ⟨b1, b2, rfl, k1, k2, by have := HLE.out; omega, by have := HLE.out; omega⟩ (fun h => absurd h (by decide))
    · simp only [List.getElem?_toArray, List.getElem?_cons_succ, List.getElem?_cons_zero, Option.some.injEq] at ho
      subst ho
      simp only [RegS.putAll, List.length_cons, List.length_nil, Nat.reduceAdd, List.getD_cons_zero, List.getD_cons_succ, Act.put, List.setIfInBounds_toArray, List.set_cons_zero, List.set_cons_succ]
      go_simp
      exact hK _ _ rfl (Below.refl _ _) rfl (fun h => absurd h (by decide))
    · simp only [List.getElem?_toArray, List.getElem?_cons_succ, List.getElem?_cons_zero, Option.some.injEq] at ho
      subst ho
      simp only [RegS.putAll, List.length_cons, List.length_nil, Nat.reduceAdd, List.getD_cons_zero, List.getD_cons_succ, Act.put, List.setIfInBounds_toArray, List.set_cons_zero, List.set_cons_succ]
      go_simp
      exact hK _ _ rfl (Below.refl _ _) rfl (fun h => absurd h (by decide))
    · simp only [List.getElem?_toArray, List.getElem?_cons_succ, List.getElem?_cons_zero, Option.some.injEq] at ho
      subst ho
      simp only [RegS.putAll, List.length_cons, List.length_nil, Nat.reduceAdd, List.getD_cons_zero, List.getD_cons_succ, Act.put, List.setIfInBounds_toArray, List.set_cons_zero, List.set_cons_succ]
      have e11 : u 11 = .int .i64 (pl : Nat) := hd 11 (by decide) (by rfl)
      have e12 : u 12 = .string ZB := hd 12 (by decide) (by rfl)
      go_simp
      refine (HKP.out _ _ _).mono ?_
      rintro r w3 ⟨b1, b2, rfl, k1, k2, _, _, hb3⟩
      exact hK _ _ rfl hb3 ⟨b1, b2, rfl, k1, k2, by have := HLE.out; omega, by have := HLE.out; omega⟩ (fun h => absurd h (by decide))
    · simp only [List.getElem?_toArray, List.getElem?_cons_succ, List.getElem?_cons_zero, Option.some.injEq] at ho
      subst ho
      simp only [RegS.putAll, List.length_cons, List.length_nil, Nat.reduceAdd, List.getD_cons_zero, List.getD_cons_succ, Act.put, List.setIfInBounds_toArray, List.set_cons_zero, List.set_cons_succ]
      go_simp
      exact hK _ _ rfl (Below.refl _ _) rfl (fun h => absurd h (by decide))
    · simp only [List.getElem?_toArray, List.getElem?_cons_succ, List.getElem?_cons_zero, Option.some.injEq] at ho
      subst ho
      simp only [RegS.putAll, List.length_cons, List.length_nil, Nat.reduceAdd, List.getD_cons_zero, List.getD_cons_succ, Act.put, List.setIfInBounds_toArray, List.set_cons_zero, List.set_cons_succ]
      obtain ⟨q0, q1, q2, q3⟩ := (kH.belowS hb).cell4
      go_simp
      exact hK _ _ rfl (Below.refl _ _) rfl (fun h => absurd h (by decide))
    · simp only [List.getElem?_toArray, List.getElem?_cons_succ, List.getElem?_cons_zero, Option.some.injEq] at ho
      subst ho
      simp only [RegS.putAll, List.length_cons, List.length_nil, Nat.reduceAdd, List.getD_cons_zero, List.getD_cons_succ, Act.put, List.setIfInBounds_toArray, List.set_cons_zero, List.set_cons_succ]
      have e15 : u 15 = .agg #[.int .i64 (gg : Nat), .int .i64 (gf : Nat), .int .i64 (gq : Nat), .int .i64 (gp : Nat)] := hd 15 (by decide) (by rfl)
      go_simp
      refine (HSEC.out _).mono ?_
      rintro r w3 ⟨rfl, hb3⟩
      exact hK _ _ rfl hb3 rfl (fun h => absurd h (by decide))
    · simp only [List.getElem?_toArray, List.getElem?_cons_succ, List.getElem?_cons_zero, Option.some.injEq] at ho
      subst ho
      simp only [RegS.putAll, List.length_cons, List.length_nil, Nat.reduceAdd, List.getD_cons_zero, List.getD_cons_succ, Act.put, List.setIfInBounds_toArray, List.set_cons_zero, List.set_cons_succ]
      have e14 : u 14 = .int .i64 (pl : Nat) := hd 14 (by decide) (by rfl)
      have e16 : u 16 = .string SB := hd 16 (by decide) (by rfl)
      go_simp
      refine (HKP.out _ _ _).mono ?_
      rintro r w3 ⟨b1, b2, rfl, k1, k2, _, _, hb3⟩
      exact hK _ _ rfl hb3 ⟨b1, b2, rfl, k1, k2, by have := HLE.out; omega, by have := HLE.out; omega⟩ (fun h => absurd h (by decide))
    · simp only [List.getElem?_toArray, List.getElem?_cons_succ, List.getElem?_cons_zero, Option.some.injEq] at ho
      subst ho
      simp only [RegS.putAll, List.length_cons, List.length_nil, Nat.reduceAdd, List.getD_cons_zero, List.getD_cons_succ, Act.put, List.setIfInBounds_toArray, List.set_cons_zero, List.set_cons_succ]
      obtain ⟨b1, b2, e7, t7⟩ := hd 7 (by decide) (by rfl)
      obtain ⟨b3, b4, e10, t10⟩ := hd 10 (by decide) (by rfl)
      obtain ⟨b5, b6, e13, t13⟩ := hd 13 (by decide) (by rfl)
      obtain ⟨b7, b8, e17, t17⟩ := hd 17 (by decide) (by rfl)
      unfold kstV at e7 e10 e13 e17
      go_simp
      have hsl := sl_lit ww #[kstV (KSt.put b1 b2 (st + cl) JB), kstV (KSt.put b3 b4 st ZB), kstV (KSt.put b5 b6 pl ZB), kstV KSt.bar, kstV (KSt.put b7 b8 pl SB), kstV KSt.bar] 141 (n := 6) rfl (by decide)
      have hk : ∀ b, b < ww.heap.size → (ww.alloc (.cells #[kstV (KSt.put b1 b2 (st + cl) JB), kstV (KSt.put b3 b4 st ZB), kstV (KSt.put b5 b6 pl ZB), kstV KSt.bar, kstV (KSt.put b7 b8 pl SB), kstV KSt.bar] 141)).heap[b]? = ww.heap[b]? := fun b h => Below.heap_alloc _ _ _ h
      have hbb : Below ww.heap.size ww (ww.alloc (.cells #[kstV (KSt.put b1 b2 (st + cl) JB), kstV (KSt.put b3 b4 st ZB), kstV (KSt.put b5 b6 pl ZB), kstV KSt.bar, kstV (KSt.put b7 b8 pl SB), kstV KSt.bar] 141)) := (Below.refl _ _).alloc (Nat.le_refl _) _
      exact hK _ _ rfl hbb ⟨ww.heap.size, b1, b2, b3, b4, b5, b6, b7, b8, rfl, hsl, kstBox.keep (B := 0) t7 hk, kstBox.keep (B := 0) t10 hk, kstBox.keep (B := 0) t13 hk, kstBox.keep (B := 0) t17 hk⟩ (fun h => absurd h (by decide))
    · simp only [List.getElem?_toArray, List.getElem?_cons_succ, List.getElem?_cons_zero, Option.some.injEq] at ho
      subst ho
      simp only [RegS.putAll, List.length_cons, List.length_nil, Nat.reduceAdd, List.getD_cons_zero, List.getD_cons_succ, Act.put, List.setIfInBounds_toArray, List.set_cons_zero, List.set_cons_succ]
      have e0 : u 0 = dkv A n c B m e lf dd := hd 0 (by decide) (by rfl)
      obtain ⟨g, b1, b2, b3, b4, b5, b6, b7, b8, e18, hsl, t1, t2, t3, t4⟩ := hd 18 (by decide) (by rfl)
      go_simp
      refine (HRUN.out b1 b2 b3 b4 b5 b6 b7 b8 _ 6 ww (HDD1.out.below hb) hsl t1 t2 t3 t4).mono ?_
      rintro r w3 ⟨v, rfl, hv, hb3⟩
      exact hK _ _ rfl hb3 ⟨v, rfl, hv.mono fun b h => h.elim (fun h => .inl h) fun h => .inr (Nat.le_trans hs3 (Nat.le_trans hb.size h))⟩ (fun h => absurd h (by decide))
  case tail =>
    intro u ww hb hG hp hne
    simp only [RegS.putAll, List.length_cons, List.length_nil, Nat.reduceAdd, List.getD_cons_zero, List.getD_cons_succ, Act.put, List.setIfInBounds_toArray, List.set_cons_zero, List.set_cons_succ, List.drop_succ_cons, List.drop_zero]
    obtain ⟨A2, n2, c2, B2, m2, e2, e20, hD2⟩ := hG 20 (by decide)
    have e21 : u 21 = .int .i64 (RR.2 : Nat) := hG 21 (by decide)
    have kR2 := kR.belowS hb
    have hbw2 := hbwx.trans (hb.mono hbwx.size)
    have HD2 := hide hD2
    clear hG hp hne hD2 HSEC HJ HKP HRUN HLE HEW kD kC kH HDD1 HLS
    obtain ⟨lf2, hlf2⟩ : ∃ lf2, lf2 = RR.1.left := ⟨_, rfl⟩
    obtain ⟨dd2, hdd2⟩ : ∃ dd2, dd2 = RR.1.dead := ⟨_, rfl⟩
    rw [← hlf2, ← hdd2] at e20
    have HL := hide hlf2
    have HDD := hide hdd2
    clear hlf2 hdd2
    obtain ⟨q0, q1, q2, q3⟩ := kR2.cell4
    have f0 := kR2.frozen 0
    have f1 := kR2.frozen 1
    have f2 := kR2.frozen 2
    have f3 := kR2.frozen 3
    go_wp2_with fail
    refine NoPanic.normal ?_
    go_wp2_with fail
    have kF := kR2.set4 (u0 := .slice A2 n2 c2) (u1 := .slice B2 m2 e2) (u2 := .int .i64 lf2) (u3 := .bool dd2)
    have hbF := below_set4 (b := w.heap.size + 1 + 1 + 1) (u0 := .slice A2 n2 c2) (u1 := .slice B2 m2 e2) (u2 := .int .i64 lf2) (u3 := .bool dd2) hbw2 (by omega)
    obtain ⟨s0, s1, s2, s3⟩ := kF.cell4
    refine bodyPost_ret (v := .tuple #[.agg #[.slice A2 n2 c2, .slice B2 m2 e2, .int .i64 lf2, .bool dd2], .int .i64 (RR.2 : Nat)]) (by simp [results, Tryz.results30, go_sem, s0, s1, s2, s3, e21]) rfl ⟨_, rfl, ⟨_, _, _, _, _, _, by rw [HL.out, HDD.out], ?_⟩, hbF⟩
    exact (HD2.out.set4 fun x hx => by rcases hx with hx | hx <;> omega).mono fun x hx => hx.elim (fun h => .inl h.1) fun h => .inr (by omega)
end Go.Proofs.YtojincohnjophaaGreatDoor
