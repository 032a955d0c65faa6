/- The parser of expressions: the comparison k = 1 (seat c). -/
import Derived.Test.YtojincohnjophaaGreatDoorExE
/-! The parser of expressions: an atom that is a number (seat c). -/
namespace Go.Proofs.YtojincohnjophaaGreatDoor
open Go.RowKit
set_option linter.unusedVariables false

theorem isB_n (word : ByteArray) : isB 2 ⟨#[49]⟩ word = false := by unfold isB; rfl
set_option maxRecDepth 100000 in
set_option maxHeartbeats 800000 in
theorem atom_n (b : Nat) (A : Option Addr) (n c i deep : Nat) (ts : List Tok) (hn : n ≤ 1000000) (hi : ts[i]? = some (2, ⟨#[49]⟩)) (w : World) (h : Ps w b A n c i deep ts) :
    Calls Tryz.prog 268 #[.pointer (some ⟨b, 0, none⟩)] w fun q w' => q = .returned (.tuple #[eN, .bool true]) ∧ Exc b w w' ∧ Ps w' b A n c (i + 1) deep ts := by
  have hlt : i < n := by
    have := (List.getElem?_eq_some_iff.1 hi).1
    have := h.sl.toks; omega
  have HT := hide (fun ww (hh : Ps ww b A n c i deep ts) => take_any b A n c i deep ts ⟨#[40]⟩ hn ww hh)
  rw [takes_at hi, isB_n] at HT
  have HO : takenO ts i [⟨#[45]⟩] = none := by unfold takenO; simp [takes_at hi, isB_n]
  have HD := hide (fun ww (B : Option Addr) (hh : Ps ww b A n c i deep ts) (hw : Sl ww (fun x => x ≠ b) 1 B 1 (strs [⟨#[45]⟩])) => taken_any b A n c i deep ts hn B 1 1 [⟨#[45]⟩] (by omega) ww hh hw)
  rw [HO] at HD
  have HM := hide (fun ww => lmay_num ⟨#[49]⟩ 49 [] rfl (by decide) (by decide) ww)
  have HR := hide (fun ww => Tryz.strconv_ParseInt_10_at64_ok ⟨#[49]⟩ (by decide) 1 (by kernel_rfl) ww)
  have HI := hide hi
  have HH := hide h
  have hb := h.box.lt
  have H := hide (h.below ((Below.refl _ _).alloc (Nat.le_refl _) (.cells #[.string .empty, .int .i64 0, .int .i64 0, .string .empty, .string .empty, .slice none 0 0] 107)))
  have kE := Box.new w 107 #[.string .empty, .int .i64 0, .int .i64 0, .string .empty, .string .empty, .slice none 0 0]
  have HE := hide ((Exc.refl b w).alloc (.cells #[.string .empty, .int .i64 0, .int .i64 0, .string .empty, .string .empty, .slice none 0 0] 107))
  clear hi HO h
  go_enter Tryz.func268, Tryz.ntmps268
  go_wp2_with fail
  refine (HT.out _ H.out).mono ?_
  rintro q w1 ⟨rfl, hx1, hp1⟩
  have kE := kE.exc hx1 (by omega)
  have HX1 := hide (HE.out.trans hx1)
  simp only [Bool.false_eq_true, if_false] at hp1
  have HP1 := hide hp1
  clear hx1 hp1 HE H
  go_wp2_with fail
  have hb1 : b < w1.heap.size := HP1.out.box.lt
  have kE := kE.up (.cells #[.string ⟨#[45]⟩] 9)
  have hlE := kE.lt
  have HP2 := HP1.out.below ((Below.refl _ _).alloc (Nat.le_refl _) (.cells #[.string ⟨#[45]⟩] 9))
  have HX2 := hide (HX1.out.alloc (.cells #[.string ⟨#[45]⟩] 9))
  refine (HD.out _ _ HP2 (words_new w1 b hb1 [⟨#[45]⟩] _)).mono ?_
  rintro q w2 ⟨rfl, hx2, hp2⟩
  have kE := kE.exc hx2 (by omega)
  have hlE2 := kE.lt
  have HX3 := hide (HX2.out.trans hx2)
  simp only [Option.isSome_none, Bool.false_eq_true, if_false] at hp2
  have HP3 := hide hp2
  have c0 := hp2.box.cellAt (i := 0) rfl
  have c1 := hp2.box.cellAt (i := 1) rfl
  have hd : decide ((n : Int) ≤ (i : Int)) = false := by simp; omega
  have hd0 : decide (n ≤ i) = false := by simp; omega
  have hi1 : (0 : Int) ≤ (i : Int) := by omega
  have hi2 : (i : Int) < (n : Int) := by omega
  obtain ⟨ad, t, hA, ht, hc1, hc2⟩ := hp2.sl.tok hlt
  subst hA
  obtain rfl := Option.some.inj (HI.out.symm.trans ht)
  have HS : Hid (∀ ww, Below w2.heap.size w2 ww → (ww.cell? ⟨b, 0, none⟩ = some (.slice (some ad) n c) ∧ ww.cell? ⟨b, 1, none⟩ = some (.int .i64 (i : Nat))) ∧ ww.cell? (ad.add (i * 2)) = some (.int .i64 2) ∧ ww.cell? ⟨(ad.add (i * 2)).block, (ad.add (i * 2)).off + 1, none⟩ = some (.string ⟨#[49]⟩)) := by
    intro ww hb
    have h2 := HP3.out.below hb
    obtain ⟨a2, t2, ha2, ht2, h3, h4⟩ := h2.sl.tok hlt
    obtain rfl := Option.some.inj ha2
    obtain rfl := Option.some.inj (HI.out.symm.trans ht2)
    exact ⟨⟨h2.box.cellAt rfl, h2.box.cellAt rfl⟩, h3, h4⟩
  have hbx : Below w2.heap.size w2 w2.drew := (Below.refl _ _).drew
  clear hx2 hp2 HP2 ht HX2 HX1 HP1
  go_upto_region 5 with (fail)
  go_region_held3 (fun ww => (ww.cell? ⟨b, 0, none⟩ = some (.slice (some ad) n c) ∧ ww.cell? ⟨b, 1, none⟩ = some (.int .i64 (i : Nat))) ∧ ww.cell? (ad.add (i * 2)) = some (.int .i64 2) ∧ ww.cell? ⟨(ad.add (i * 2)).block, (ad.add (i * 2)).off + 1, none⟩ = some (.string ⟨#[49]⟩))
    (first | exact HS.out _ hbx)
    (((with_reducible refine (HM.out _).mono ?_); (rintro q wn ⟨rfl, hbn⟩; have hbx := hbx.trans (hbn.mono hbx.size))))
  have hbW := hbx
  have hbx := hbx.drew
  go_upto_region 7 with (fail)
  go_region_held3 (fun ww => (ww.cell? ⟨b, 0, none⟩ = some (.slice (some ad) n c) ∧ ww.cell? ⟨b, 1, none⟩ = some (.int .i64 (i : Nat))) ∧ ww.cell? (ad.add (i * 2)) = some (.int .i64 2) ∧ ww.cell? ⟨(ad.add (i * 2)).block, (ad.add (i * 2)).off + 1, none⟩ = some (.string ⟨#[49]⟩))
    (first | exact HS.out _ hbx | exact HS.out _ (hbx.alloc hbx.size _))
    (fail)
  have hby := (hbW.alloc hbW.size (.cells #[.int .i64 2, .string ⟨#[49]⟩] 202)).drew
  have kT := (Box.new wn 202 #[.int .i64 2, .string ⟨#[49]⟩]).drew
  have hbn2 := hbn.size
  have kE := kE.belowS hby
  have hwn := hbW.size
  generalize hwy : (wn.alloc (.cells #[.int .i64 2, .string ⟨#[49]⟩] 202)).drew = wy at *
  have hP4 := HP3.out.below hby
  have HX4 := hide (HX3.out.below hby)
  have hbw := HP3.out.box.lt
  have c1 := hP4.box.cellAt (i := 1) rfl
  have f1 := hP4.box.frozen 1
  have hbT : b < wn.heap.size := by omega
  have kT := kT.other (a := ⟨b, 1, none⟩) (by simp; omega) (.int .i64 ((i + 1 : Nat) : Int))
  have kE := kE.other (a := ⟨b, 1, none⟩) (by simp; omega) (.int .i64 ((i + 1 : Nat) : Int))
  have HP5 := hide (hP4.set (i + 1))
  have HX5 := hide (HX4.out.set 1 (.int .i64 ((i + 1 : Nat) : Int)))
  have ei : ((i + 1 : Nat) : Int) = (i : Int) + 1 := by simp
  rw [ei] at kT kE HP5 HX5
  have z0 := kT.cellAt (i := 0) rfl
  have z1 := kT.cellAt (i := 1) rfl
  clear hbx hbW hby hbn hP4 HS ei
  go_wp2_with fail
  generalize hwz : wy.setCell _ _ = wz at *
  refine (HR.out _).mono ?_
  rintro q wr ⟨rfl, hw⟩
  have hbr : Below wz.heap.size wz wr := by
    rcases hw with rfl | ⟨t, rfl⟩
    · exact Below.refl _ _
    · exact Lib.bytesWorld_below _ _ _
  have kE := kE.belowS hbr
  have HP6 := hide (HP5.out.below hbr)
  have HX6 := hide (HX5.out.below hbr)
  have p0 := kE.cellAt (i := 0) rfl
  have f0 := kE.frozen 0
  have p1 := kE.cellAt (i := 1) rfl
  have f1 := kE.frozen 1
  have p2 := kE.cellAt (i := 2) rfl
  have f2 := kE.frozen 2
  have p3 := kE.cellAt (i := 3) rfl
  have f3 := kE.frozen 3
  have p4 := kE.cellAt (i := 4) rfl
  have f4 := kE.frozen 4
  have p5 := kE.cellAt (i := 5) rfl
  have f5 := kE.frozen 5
  clear hw hbr z0 z1
  go_upto_region 11 with (fail)
  go_region_held3 (fun _ => True) (exact trivial) (fail)
  have hneb : w.heap.size ≠ b := by omega
  have kF := ((((((kE.set 0 (.string ⟨#[108, 105, 116]⟩)).set 1 (.int .i64 1)).set 2 (.int .i64 1)).set 3 (.string .empty)).set 4 (.string .empty)).set 5 (.slice none 0 0)).drew
  have HKF := hide kF
  have HXF := hide ((((((HX6.out.setNew (x := ⟨w.heap.size, 0, none⟩) (Nat.le_refl _) (.string ⟨#[108, 105, 116]⟩)).setNew (x := ⟨w.heap.size, 1, none⟩) (Nat.le_refl _) (.int .i64 1)).setNew (x := ⟨w.heap.size, 2, none⟩) (Nat.le_refl _) (.int .i64 1)).setNew (x := ⟨w.heap.size, 3, none⟩) (Nat.le_refl _) (.string .empty)).setNew (x := ⟨w.heap.size, 4, none⟩) (Nat.le_refl _) (.string .empty)).setNew (x := ⟨w.heap.size, 5, none⟩) (Nat.le_refl _) (.slice none 0 0)).drew
  have HBF := hide ((((((HP6.out.box.other (a := ⟨w.heap.size, 0, none⟩) (by simpa using hneb) (.string ⟨#[108, 105, 116]⟩)).other (a := ⟨w.heap.size, 1, none⟩) (by simpa using hneb) (.int .i64 1)).other (a := ⟨w.heap.size, 2, none⟩) (by simpa using hneb) (.int .i64 1)).other (a := ⟨w.heap.size, 3, none⟩) (by simpa using hneb) (.string .empty)).other (a := ⟨w.heap.size, 4, none⟩) (by simpa using hneb) (.string .empty)).other (a := ⟨w.heap.size, 5, none⟩) (by simpa using hneb) (.slice none 0 0)).drew
  clear p0 p1 p2 p3 p4 p5 f0 f1 f2 f3 f4 f5 kF kE kT
  go_wp2_with fail
  refine bodyPost_ret (v := .tuple #[eN, .bool true]) ?_ rfl ⟨rfl, HXF.out, ⟨HBF.out, HH.out.sl.exc HXF.out⟩⟩
  exact res_expr (p := 2) (u := 3) rfl _ _ w.heap.size #[.string ⟨#[108, 105, 116]⟩, .int .i64 1, .int .i64 1, .string .empty, .string .empty, .slice none 0 0] rfl rfl HKF.out
end Go.Proofs.YtojincohnjophaaGreatDoor

/-! The parser of expressions: chains without a word between (seat c). -/
namespace Go.Proofs.YtojincohnjophaaGreatDoor
open Go.RowKit
set_option linter.unusedVariables false

set_option maxRecDepth 100000 in
set_option maxHeartbeats 800000 in
theorem chain_atom (b : Nat) (A : Option Addr) (n c i j deep : Nat) (ts : List Tok) (hn : n ≤ 1000000) (o v3 v4 : ByteArray) (v1 v2 : Int) (A5 : Option Addr) (n5 c5 : Nat) (B : Option Addr) (m e : Nat) (ws : List ByteArray) (hm : m ≤ 1000000) (w : World) (h : Ps w b A n c i deep ts)
    (hw : Sl w (fun x => x ≠ b) 1 B m (strs ws)) (ho : takenO ts j ws = none)
    (hp : ∀ ww, Ps ww b A n c i deep ts → Calls Tryz.prog 268 #[.pointer (some ⟨b, 0, none⟩)] ww fun q w' => q = .returned (.tuple #[.agg #[.string o, .int .i64 v1, .int .i64 v2, .string v3, .string v4, .slice A5 n5 c5], .bool true]) ∧ Exc b ww w' ∧ Ps w' b A n c j deep ts) :
    Calls Tryz.prog 239 #[.pointer (some ⟨b, 0, none⟩), .func (Fn.func 268) #[.pointer (some ⟨b, 0, none⟩)] #[], .slice B m e] w fun q w' => q = .returned (.tuple #[.agg #[.string o, .int .i64 v1, .int .i64 v2, .string v3, .string v4, .slice A5 n5 c5], .bool true]) ∧ Exc b w w' ∧ Ps w' b A n c j deep ts := by
  have HP := hide hp
  have H := hide h
  have HW := hide hw
  have HO := hide ho
  clear hp h hw ho
  go_enter Tryz.func239, Tryz.ntmps239
  go_wp2_with fail
  have kE := Box.new w 107 #[.string .empty, .int .i64 0, .int .i64 0, .string .empty, .string .empty, .slice none 0 0]
  have HE := hide ((Exc.refl b w).alloc (.cells #[.string .empty, .int .i64 0, .int .i64 0, .string .empty, .string .empty, .slice none 0 0] 107))
  refine (HP.out _ (H.out.below ((Below.refl _ _).alloc (Nat.le_refl _) (.cells #[.string .empty, .int .i64 0, .int .i64 0, .string .empty, .string .empty, .slice none 0 0] 107)))).mono ?_
  rintro q w1 ⟨rfl, hx1, hp1⟩
  have hbw := H.out.box.lt
  have kE := kE.exc hx1 (by omega)
  have HX1 := hide (HE.out.trans hx1)
  have HP1 := hide hp1
  clear hx1 hp1
  go_wp2_with fail
  have hb1 := HP1.out.box.lt
  have kN := Box.new w1 107 #[.string o, .int .i64 v1, .int .i64 v2, .string v3, .string v4, .slice A5 n5 c5]
  have kE := kE.up (.cells #[.string o, .int .i64 v1, .int .i64 v2, .string v3, .string v4, .slice A5 n5 c5] 107)
  have HX2 := hide (HX1.out.alloc (.cells #[.string o, .int .i64 v1, .int .i64 v2, .string v3, .string v4, .slice A5 n5 c5] 107))
  have HP2 := HP1.out.below ((Below.refl _ _).alloc (Nat.le_refl _) (.cells #[.string o, .int .i64 v1, .int .i64 v2, .string v3, .string v4, .slice A5 n5 c5] 107))
  have HT := taken_any b A n c j deep ts hn B m e ws hm _ HP2 ((HW.out.exc HX2.out))
  rw [HO.out] at HT
  have HT := hide HT
  refine wp_loop_rounds 1 ?_
  rw [rounds_succ]
  go_wp2_with fail
  refine HT.out.mono ?_
  rintro q w2 ⟨rfl, hx2, hp2⟩
  have kE := kE.exc hx2 (by omega)
  have kN := kN.exc hx2 (by omega)
  have HX3 := hide (HX2.out.trans hx2)
  simp only [Option.isSome_none, Bool.false_eq_true, if_false] at hp2
  have HP3 := hide hp2
  clear hx2 hp2 HP2
  have hneb : w.heap.size ≠ b := by omega
  have e0 := kN.cellAt (i := 0) rfl
  have p0 := kE.cellAt (i := 0) rfl
  have f0 := kE.frozen 0
  have e1 := kN.cellAt (i := 1) rfl
  have p1 := kE.cellAt (i := 1) rfl
  have f1 := kE.frozen 1
  have e2 := kN.cellAt (i := 2) rfl
  have p2 := kE.cellAt (i := 2) rfl
  have f2 := kE.frozen 2
  have e3 := kN.cellAt (i := 3) rfl
  have p3 := kE.cellAt (i := 3) rfl
  have f3 := kE.frozen 3
  have e4 := kN.cellAt (i := 4) rfl
  have p4 := kE.cellAt (i := 4) rfl
  have f4 := kE.frozen 4
  have e5 := kN.cellAt (i := 5) rfl
  have p5 := kE.cellAt (i := 5) rfl
  have f5 := kE.frozen 5
  have HKF := hide ((((((kE.set 0 (.string o)).set 1 (.int .i64 v1)).set 2 (.int .i64 v2)).set 3 (.string v3)).set 4 (.string v4)).set 5 (.slice A5 n5 c5))
  have HXF := hide ((((((HX3.out.setNew (x := ⟨w.heap.size, 0, none⟩) (Nat.le_refl _) (.string o)).setNew (x := ⟨w.heap.size, 1, none⟩) (Nat.le_refl _) (.int .i64 v1)).setNew (x := ⟨w.heap.size, 2, none⟩) (Nat.le_refl _) (.int .i64 v2)).setNew (x := ⟨w.heap.size, 3, none⟩) (Nat.le_refl _) (.string v3)).setNew (x := ⟨w.heap.size, 4, none⟩) (Nat.le_refl _) (.string v4)).setNew (x := ⟨w.heap.size, 5, none⟩) (Nat.le_refl _) (.slice A5 n5 c5))
  have HBF := hide ((((((HP3.out.box.other (a := ⟨w.heap.size, 0, none⟩) (by simpa using hneb) (.string o)).other (a := ⟨w.heap.size, 1, none⟩) (by simpa using hneb) (.int .i64 v1)).other (a := ⟨w.heap.size, 2, none⟩) (by simpa using hneb) (.int .i64 v2)).other (a := ⟨w.heap.size, 3, none⟩) (by simpa using hneb) (.string v3)).other (a := ⟨w.heap.size, 4, none⟩) (by simpa using hneb) (.string v4)).other (a := ⟨w.heap.size, 5, none⟩) (by simpa using hneb) (.slice A5 n5 c5))
  clear kN kE
  go_wp2_with fail
  refine bodyPost_ret (v := .tuple #[.agg #[.string o, .int .i64 v1, .int .i64 v2, .string v3, .string v4, .slice A5 n5 c5], .bool true]) ?_ rfl ⟨rfl, HXF.out, ⟨HBF.out, H.out.sl.exc HXF.out⟩⟩
  exact res_expr (p := 6) (u := 7) rfl _ _ w.heap.size #[.string o, .int .i64 v1, .int .i64 v2, .string v3, .string v4, .slice A5 n5 c5] rfl rfl HKF.out
end Go.Proofs.YtojincohnjophaaGreatDoor

/-! The parser of expressions: a sum of one atom (seat c). -/
namespace Go.Proofs.YtojincohnjophaaGreatDoor
open Go.RowKit
set_option linter.unusedVariables false

set_option maxRecDepth 100000 in
set_option maxHeartbeats 800000 in
theorem sum_one (b : Nat) (A : Option Addr) (n c i j deep : Nat) (ts : List Tok) (hn : n ≤ 1000000) (o v3 v4 : ByteArray) (v1 v2 : Int) (A5 : Option Addr) (n5 c5 : Nat) (w : World) (h : Ps w b A n c i deep ts)
    (ho : takenO ts j [⟨#[43]⟩, ⟨#[45]⟩] = none)
    (hp : ∀ ww, Ps ww b A n c i deep ts → Calls Tryz.prog 268 #[.pointer (some ⟨b, 0, none⟩)] ww fun q w' => q = .returned (.tuple #[.agg #[.string o, .int .i64 v1, .int .i64 v2, .string v3, .string v4, .slice A5 n5 c5], .bool true]) ∧ Exc b ww w' ∧ Ps w' b A n c j deep ts) :
    Calls Tryz.prog 267 #[.pointer (some ⟨b, 0, none⟩)] w fun q w' => q = .returned (.tuple #[.agg #[.string o, .int .i64 v1, .int .i64 v2, .string v3, .string v4, .slice A5 n5 c5], .bool true]) ∧ Exc b w w' ∧ Ps w' b A n c j deep ts := by
  have H := hide h
  have HC := hide (fun ww (B : Option Addr) (hh : Ps ww b A n c i deep ts) (hw : Sl ww (fun x => x ≠ b) 1 B 2 (strs [⟨#[43]⟩, ⟨#[45]⟩])) => chain_atom b A n c i j deep ts hn o v3 v4 v1 v2 A5 n5 c5 B 2 2 [⟨#[43]⟩, ⟨#[45]⟩] (by omega) ww hh hw ho hp)
  clear h ho hp
  go_enter Tryz.func267, Tryz.ntmps267
  go_wp2_with fail
  have hbw := H.out.box.lt
  have kE := (Box.new w 107 #[.string .empty, .int .i64 0, .int .i64 0, .string .empty, .string .empty, .slice none 0 0]).up (.cells #[.string ⟨#[43]⟩, .string ⟨#[45]⟩] 9)
  have HE := hide (((Exc.refl b w).alloc (.cells #[.string .empty, .int .i64 0, .int .i64 0, .string .empty, .string .empty, .slice none 0 0] 107)).alloc (.cells #[.string ⟨#[43]⟩, .string ⟨#[45]⟩] 9))
  have HP0 := (H.out.below ((Below.refl _ _).alloc (Nat.le_refl _) (.cells #[.string .empty, .int .i64 0, .int .i64 0, .string .empty, .string .empty, .slice none 0 0] 107))).below ((Below.refl _ _).alloc (Nat.le_refl _) (.cells #[.string ⟨#[43]⟩, .string ⟨#[45]⟩] 9))
  have hww := words_new (w.alloc (.cells #[.string .empty, .int .i64 0, .int .i64 0, .string .empty, .string .empty, .slice none 0 0] 107)) b (by simp; omega) [⟨#[43]⟩, ⟨#[45]⟩] 9
  simp only [World.size_alloc] at hww
  refine (HC.out _ _ HP0 hww).mono ?_
  rintro q w1 ⟨rfl, hx1, hp1⟩
  have kE := kE.exc hx1 (by omega)
  have HX1 := hide (HE.out.trans hx1)
  have HP1 := hide hp1
  have hneb : w.heap.size ≠ b := by omega
  have p0 := kE.cellAt (i := 0) rfl
  have f0 := kE.frozen 0
  have p1 := kE.cellAt (i := 1) rfl
  have f1 := kE.frozen 1
  have p2 := kE.cellAt (i := 2) rfl
  have f2 := kE.frozen 2
  have p3 := kE.cellAt (i := 3) rfl
  have f3 := kE.frozen 3
  have p4 := kE.cellAt (i := 4) rfl
  have f4 := kE.frozen 4
  have p5 := kE.cellAt (i := 5) rfl
  have f5 := kE.frozen 5
  have HKF := hide ((((((kE.set 0 (.string o)).set 1 (.int .i64 v1)).set 2 (.int .i64 v2)).set 3 (.string v3)).set 4 (.string v4)).set 5 (.slice A5 n5 c5))
  have HXF := hide ((((((HX1.out.setNew (x := ⟨w.heap.size, 0, none⟩) (Nat.le_refl _) (.string o)).setNew (x := ⟨w.heap.size, 1, none⟩) (Nat.le_refl _) (.int .i64 v1)).setNew (x := ⟨w.heap.size, 2, none⟩) (Nat.le_refl _) (.int .i64 v2)).setNew (x := ⟨w.heap.size, 3, none⟩) (Nat.le_refl _) (.string v3)).setNew (x := ⟨w.heap.size, 4, none⟩) (Nat.le_refl _) (.string v4)).setNew (x := ⟨w.heap.size, 5, none⟩) (Nat.le_refl _) (.slice A5 n5 c5))
  have HBF := hide ((((((HP1.out.box.other (a := ⟨w.heap.size, 0, none⟩) (by simpa using hneb) (.string o)).other (a := ⟨w.heap.size, 1, none⟩) (by simpa using hneb) (.int .i64 v1)).other (a := ⟨w.heap.size, 2, none⟩) (by simpa using hneb) (.int .i64 v2)).other (a := ⟨w.heap.size, 3, none⟩) (by simpa using hneb) (.string v3)).other (a := ⟨w.heap.size, 4, none⟩) (by simpa using hneb) (.string v4)).other (a := ⟨w.heap.size, 5, none⟩) (by simpa using hneb) (.slice A5 n5 c5))
  clear hx1 hp1 kE HP0 hww
  go_wp2_with fail
  refine bodyPost_ret (v := .tuple #[.agg #[.string o, .int .i64 v1, .int .i64 v2, .string v3, .string v4, .slice A5 n5 c5], .bool true]) ?_ rfl ⟨rfl, HXF.out, ⟨HBF.out, H.out.sl.exc HXF.out⟩⟩
  exact res_expr (p := 2) (u := 3) rfl _ _ w.heap.size #[.string o, .int .i64 v1, .int .i64 v2, .string v3, .string v4, .slice A5 n5 c5] rfl rfl HKF.out
end Go.Proofs.YtojincohnjophaaGreatDoor

/-! The parser of expressions: the comparison k = 1 (seat c). -/
namespace Go.Proofs.YtojincohnjophaaGreatDoor
open Go.RowKit
set_option linter.unusedVariables false

/-- The two parts of k = 1, as they lie in a list. -/
def twoCells : Array Value := #[.string ⟨#[99, 111, 108]⟩, .int .i64 0, .int .i64 0, .string .empty, .string ⟨#[107]⟩, .slice none 0 0, .string ⟨#[108, 105, 116]⟩, .int .i64 1, .int .i64 1, .string .empty, .string .empty, .slice none 0 0]
/-- The list of the two parts is laid. -/
theorem wp_bs2 {w : World} {ops : Array Oper} {rest : List Oper} {o : Oper} {a : Act} {Q : Exit → Act → World → Prop} (hgd : o.guard = none) (x y : Operand)
    (ho : o.op = .buildSlice 105 2 #[(0, x), (1, y)])
    (hx : a.eval x = .agg #[.string ⟨#[99, 111, 108]⟩, .int .i64 0, .int .i64 0, .string .empty, .string ⟨#[107]⟩, .slice none 0 0]) (hy : a.eval y = .agg #[.string ⟨#[108, 105, 116]⟩, .int .i64 1, .int .i64 1, .string .empty, .string .empty, .slice none 0 0])
    (h : wpList Tryz.prog ops Q rest (a.put o.dst (.slice (some ⟨w.heap.size, 0, none⟩) 2 2)) (w.alloc (.cells twoCells 107))) : wpList Tryz.prog ops Q (o :: rest) a w := by
  refine wpList_plain hgd fun K hK => ?_
  have hr : (execOp a.eval o).run Tryz.prog w = .ok (.value (.slice (some ⟨w.heap.size, 0, none⟩) 2 2)) (w.alloc (.cells twoCells 107)) := by
    unfold execOp
    rw [ho]
    simp only [List.map_toArray, List.map_cons, List.map_nil, hx, hy]
    kernel_rfl
  unfold Oper.wp
  rw [hr]
  exact hK _ _ h
/-- What a function of the parser returns for k = 1: the node, whose parts lie in a new block. -/
def EqPost (b : Nat) (w : World) (A : Option Addr) (n c j deep : Nat) (ts : List Tok) (q : Ending) (w' : World) : Prop :=
  ∃ g, q = .returned (.tuple #[.agg #[.string ⟨#[61]⟩, .int .i64 0, .int .i64 0, .string .empty, .string .empty, .slice (some ⟨g, 0, none⟩) 2 2], .bool true]) ∧ w.heap.size ≤ g ∧ Box w' g 107 twoCells ∧ Exc b w w' ∧ Ps w' b A n c j deep ts
theorem taken_at {ts : List Tok} {i : Nat} {k : Nat} {s : ByteArray} (h : ts[i]? = some (k, s)) (ws : List ByteArray) : takenO ts i ws = ws.find? (fun x => isB k s x) := by
  unfold takenO; congr 1; funext x; exact takes_at h
theorem taken_end {ts : List Tok} {i : Nat} (h : ts[i]? = none) (ws : List ByteArray) : takenO ts i ws = none := by
  unfold takenO
  rw [List.find?_eq_none]
  intro x _
  unfold takes
  rw [h]; simp

set_option maxRecDepth 100000 in
set_option maxHeartbeats 1600000 in
theorem comp_any (b : Nat) (A : Option Addr) (n c i deep : Nat) (ts : List Tok) (hn : n ≤ 1000000) (h0 : ts[i]? = some (1, ⟨#[107]⟩)) (h1 : ts[i + 1]? = some (4, ⟨#[61]⟩)) (h2 : ts[i + 1 + 1]? = some (2, ⟨#[49]⟩)) (h3 : ts[i + 1 + 1 + 1]? = none) (w : World) (h : Ps w b A n c i deep ts) :
    Calls Tryz.prog 262 #[.pointer (some ⟨b, 0, none⟩)] w (EqPost b w A n c (i + 1 + 1 + 1) deep ts) := by
  have H := hide h
  have HA := hide (fun ww hh => sum_one b A n c i (i + 1) deep ts hn ⟨#[99, 111, 108]⟩ .empty ⟨#[107]⟩ 0 0 none 0 0 ww hh (by rw [taken_at h1]; decide) (fun wv hv => atom_k b A n c i deep ts hn h0 wv hv))
  have HN := hide (fun ww hh => sum_one b A n c (i + 1 + 1) (i + 1 + 1 + 1) deep ts hn ⟨#[108, 105, 116]⟩ .empty .empty 1 1 none 0 0 ww hh (taken_end h3 _) (fun wv hv => atom_n b A n c (i + 1 + 1) deep ts hn h2 wv hv))
  have HT := hide (fun ww (B : Option Addr) (hh : Ps ww b A n c (i + 1) deep ts) (hw : Sl ww (fun x => x ≠ b) 1 B 3 (strs [⟨#[61]⟩, ⟨#[60]⟩, ⟨#[73, 83]⟩])) => taken_any b A n c (i + 1) deep ts hn B 3 3 [⟨#[61]⟩, ⟨#[60]⟩, ⟨#[73, 83]⟩] (by omega) ww hh hw)
  have ht : takenO ts (i + 1) [⟨#[61]⟩, ⟨#[60]⟩, ⟨#[73, 83]⟩] = some ⟨#[61]⟩ := by rw [taken_at h1]; decide
  rw [ht] at HT
  clear h h0 h1 h2 h3 ht
  go_enter Tryz.func262, Tryz.ntmps262
  go_wp2_with fail
  have hbw := H.out.box.lt
  have kE := Box.new w 107 #[.string .empty, .int .i64 0, .int .i64 0, .string .empty, .string .empty, .slice none 0 0]
  have HE := hide ((Exc.refl b w).alloc (.cells #[.string .empty, .int .i64 0, .int .i64 0, .string .empty, .string .empty, .slice none 0 0] 107))
  refine (HA.out _ (H.out.below ((Below.refl _ _).alloc (Nat.le_refl _) (.cells #[.string .empty, .int .i64 0, .int .i64 0, .string .empty, .string .empty, .slice none 0 0] 107)))).mono ?_
  rintro q w1 ⟨rfl, hx1, hp1⟩
  have kE := kE.exc hx1 (by omega)
  have HX1 := hide (HE.out.trans hx1)
  have HP1 := hide hp1
  have hb1 := hp1.box.lt
  clear hx1 hp1
  go_wp2_with fail
  have kE := (kE.up (.cells #[.string ⟨#[99, 111, 108]⟩, .int .i64 0, .int .i64 0, .string .empty, .string ⟨#[107]⟩, .slice none 0 0] 107)).up (.cells #[.string ⟨#[61]⟩, .string ⟨#[60]⟩, .string ⟨#[73, 83]⟩] 9)
  have kA := (Box.new w1 107 #[.string ⟨#[99, 111, 108]⟩, .int .i64 0, .int .i64 0, .string .empty, .string ⟨#[107]⟩, .slice none 0 0]).up (.cells #[.string ⟨#[61]⟩, .string ⟨#[60]⟩, .string ⟨#[73, 83]⟩] 9)
  have HX2 := hide ((HX1.out.alloc (.cells #[.string ⟨#[99, 111, 108]⟩, .int .i64 0, .int .i64 0, .string .empty, .string ⟨#[107]⟩, .slice none 0 0] 107)).alloc (.cells #[.string ⟨#[61]⟩, .string ⟨#[60]⟩, .string ⟨#[73, 83]⟩] 9))
  have HP2 := (HP1.out.below ((Below.refl _ _).alloc (Nat.le_refl _) (.cells #[.string ⟨#[99, 111, 108]⟩, .int .i64 0, .int .i64 0, .string .empty, .string ⟨#[107]⟩, .slice none 0 0] 107))).below ((Below.refl _ _).alloc (Nat.le_refl _) (.cells #[.string ⟨#[61]⟩, .string ⟨#[60]⟩, .string ⟨#[73, 83]⟩] 9))
  have hww := words_new (w1.alloc (.cells #[.string ⟨#[99, 111, 108]⟩, .int .i64 0, .int .i64 0, .string .empty, .string ⟨#[107]⟩, .slice none 0 0] 107)) b (by simp; omega) [⟨#[61]⟩, ⟨#[60]⟩, ⟨#[73, 83]⟩] 9
  simp only [World.size_alloc] at hww
  refine (HT.out _ _ HP2 hww).mono ?_
  rintro q w2 ⟨rfl, hx2, hp2⟩
  have kE := kE.exc hx2 (by omega)
  have kA := kA.exc hx2 (by omega)
  have HX3 := hide (HX2.out.trans hx2)
  simp only [Option.isSome_some, if_true] at hp2
  have HP3 := hide hp2
  clear hx2 hp2 HP2 hww
  go_wp2_with fail
  refine (HN.out _ HP3.out).mono ?_
  rintro q w3 ⟨rfl, hx3, hp3⟩
  have kE := kE.exc hx3 (by omega)
  have kA := kA.exc hx3 (by omega)
  have HX4 := hide (HX3.out.trans hx3)
  have HP4 := hide hp3
  have hb3 := hp3.box.lt
  clear hx3 hp3
  have hlw := kE.lt
  have hneb : w.heap.size ≠ b := by omega
  have kN := Box.new w3 107 #[.string ⟨#[108, 105, 116]⟩, .int .i64 1, .int .i64 1, .string .empty, .string .empty, .slice none 0 0]
  have kE := kE.up (.cells #[.string ⟨#[108, 105, 116]⟩, .int .i64 1, .int .i64 1, .string .empty, .string .empty, .slice none 0 0] 107)
  have kA := kA.up (.cells #[.string ⟨#[108, 105, 116]⟩, .int .i64 1, .int .i64 1, .string .empty, .string .empty, .slice none 0 0] 107)
  have HX5 := hide (HX4.out.alloc (.cells #[.string ⟨#[108, 105, 116]⟩, .int .i64 1, .int .i64 1, .string .empty, .string .empty, .slice none 0 0] 107))
  have HP5 := hide (HP4.out.below ((Below.refl _ _).alloc (Nat.le_refl _) (.cells #[.string ⟨#[108, 105, 116]⟩, .int .i64 1, .int .i64 1, .string .empty, .string .empty, .slice none 0 0] 107)))
  have hs4 : (w3.alloc (.cells #[.string ⟨#[108, 105, 116]⟩, .int .i64 1, .int .i64 1, .string .empty, .string .empty, .slice none 0 0] 107)).heap.size = w3.heap.size + 1 := by simp
  go_upto_region 7 with (fail)
  generalize hw4 : w3.alloc (.cells #[.string ⟨#[108, 105, 116]⟩, .int .i64 1, .int .i64 1, .string .empty, .string .empty, .slice none 0 0] 107) = w4 at *
  clear hw4
  have e0 := kA.cellAt (i := 0) rfl
  have n0 := kN.cellAt (i := 0) rfl
  have e1 := kA.cellAt (i := 1) rfl
  have n1 := kN.cellAt (i := 1) rfl
  have e2 := kA.cellAt (i := 2) rfl
  have n2 := kN.cellAt (i := 2) rfl
  have e3 := kA.cellAt (i := 3) rfl
  have n3 := kN.cellAt (i := 3) rfl
  have e4 := kA.cellAt (i := 4) rfl
  have n4 := kN.cellAt (i := 4) rfl
  have e5 := kA.cellAt (i := 5) rfl
  have n5 := kN.cellAt (i := 5) rfl
  have kE := kE.up (.cells twoCells 107)
  have kT := Box.new w4 107 twoCells
  have HX6 := hide (HX5.out.alloc (.cells twoCells 107))
  have HP6 := hide (HP5.out.below ((Below.refl _ _).alloc (Nat.le_refl _) (.cells twoCells 107)))
  have hg : w.heap.size ≤ w4.heap.size := by omega
  have hne4 : w.heap.size ≠ w4.heap.size := by omega
  clear kA kN hs4
  obtain ⟨w5, hw5⟩ : ∃ x, x = w4.alloc (.cells twoCells 107) := ⟨_, rfl⟩
  rw [← hw5] at kE kT HX6 HP6
  have p0 := kE.cellAt (i := 0) rfl
  have f0 := kE.frozen 0
  have p1 := kE.cellAt (i := 1) rfl
  have f1 := kE.frozen 1
  have p2 := kE.cellAt (i := 2) rfl
  have f2 := kE.frozen 2
  have p3 := kE.cellAt (i := 3) rfl
  have f3 := kE.frozen 3
  have p4 := kE.cellAt (i := 4) rfl
  have f4 := kE.frozen 4
  have p5 := kE.cellAt (i := 5) rfl
  have f5 := kE.frozen 5
  have HKT := hide ((((((kT.other (a := ⟨w.heap.size, 0, none⟩) (by simpa using hne4) (.string ⟨#[61]⟩)).other (a := ⟨w.heap.size, 1, none⟩) (by simpa using hne4) (.int .i64 0)).other (a := ⟨w.heap.size, 2, none⟩) (by simpa using hne4) (.int .i64 0)).other (a := ⟨w.heap.size, 3, none⟩) (by simpa using hne4) (.string .empty)).other (a := ⟨w.heap.size, 4, none⟩) (by simpa using hne4) (.string .empty)).other (a := ⟨w.heap.size, 5, none⟩) (by simpa using hne4) (.slice (some ⟨w4.heap.size, 0, none⟩) 2 2))
  have HKF := hide ((((((kE.set 0 (.string ⟨#[61]⟩)).set 1 (.int .i64 0)).set 2 (.int .i64 0)).set 3 (.string .empty)).set 4 (.string .empty)).set 5 (.slice (some ⟨w4.heap.size, 0, none⟩) 2 2))
  have HXF := hide ((((((HX6.out.setNew (x := ⟨w.heap.size, 0, none⟩) (Nat.le_refl _) (.string ⟨#[61]⟩)).setNew (x := ⟨w.heap.size, 1, none⟩) (Nat.le_refl _) (.int .i64 0)).setNew (x := ⟨w.heap.size, 2, none⟩) (Nat.le_refl _) (.int .i64 0)).setNew (x := ⟨w.heap.size, 3, none⟩) (Nat.le_refl _) (.string .empty)).setNew (x := ⟨w.heap.size, 4, none⟩) (Nat.le_refl _) (.string .empty)).setNew (x := ⟨w.heap.size, 5, none⟩) (Nat.le_refl _) (.slice (some ⟨w4.heap.size, 0, none⟩) 2 2))
  have HBF := hide ((((((HP6.out.box.other (a := ⟨w.heap.size, 0, none⟩) (by simpa using hneb) (.string ⟨#[61]⟩)).other (a := ⟨w.heap.size, 1, none⟩) (by simpa using hneb) (.int .i64 0)).other (a := ⟨w.heap.size, 2, none⟩) (by simpa using hneb) (.int .i64 0)).other (a := ⟨w.heap.size, 3, none⟩) (by simpa using hneb) (.string .empty)).other (a := ⟨w.heap.size, 4, none⟩) (by simpa using hneb) (.string .empty)).other (a := ⟨w.heap.size, 5, none⟩) (by simpa using hneb) (.slice (some ⟨w4.heap.size, 0, none⟩) 2 2))
  have HW5 := hide hw5
  clear kE kT hw5
  go_wp2_with (with_reducible refine wp_bs2 rfl (.tmp 27) (.tmp 28) rfl rfl rfl ?_; rw [← HW5.out])
  refine bodyPost_ret (v := .tuple #[.agg #[.string ⟨#[61]⟩, .int .i64 0, .int .i64 0, .string .empty, .string .empty, .slice (some ⟨w4.heap.size, 0, none⟩) 2 2], .bool true]) ?_ rfl ⟨w4.heap.size, rfl, hg, HKT.out, HXF.out, ⟨HBF.out, H.out.sl.exc HXF.out⟩⟩
  exact res_expr (p := 2) (u := 3) rfl _ _ w.heap.size #[.string ⟨#[61]⟩, .int .i64 0, .int .i64 0, .string .empty, .string .empty, .slice (some ⟨w4.heap.size, 0, none⟩) 2 2] rfl rfl HKF.out
end Go.Proofs.YtojincohnjophaaGreatDoor
