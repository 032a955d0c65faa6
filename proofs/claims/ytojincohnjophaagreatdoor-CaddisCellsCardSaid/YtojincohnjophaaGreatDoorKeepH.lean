/- The walk of layer 21's texts; newest on a dead disk. -/
import Derived.Test.YtojincohnjophaaGreatDoorShelfB
namespace Go.Proofs.YtojincohnjophaaGreatDoor
open Go.RowKit
open DiskP (Bytes Disk Wr Fate noughts)
open KeepP (Cut Head okC okH readH zeroH newestP textsN page)
set_option linter.unusedVariables false

theorem write_any (B b : Nat) (l : List UInt8) (s : ByteArray) (w : World) (h : Lib.IsBuilder 129 5 B b (Lib.byteCells l) w) (hlen : l.length + s.size ≤ 140737488355328) (hBw : B ≤ w.heap.size) :
    Calls Tryz.prog 51 #[.pointer (some ⟨b, 0, none⟩), .string s] w fun e w' => (∃ v, e = .returned v) ∧ Lib.IsBuilder 129 5 B b (Lib.byteCells (l ++ oct s)) w' ∧ Below B w w' := by
  refine (Any.Builder_WriteString Tryz.lays166 Tryz.Builder_Extra_156 B b (Lib.byteCells l) s w h (by rw [Lib.byteCells_length]; exact hlen) hBw).mono ?_
  rintro e w' ⟨rfl, h1, h2⟩
  refine ⟨⟨_, rfl⟩, .inr ?_, h2⟩
  rw [Lib.byteCells_append]
  exact h1
theorem builder_below {T e : TypeId} {B b : Nat} {bs : List Value} {w w' : World} (h : Lib.IsBuilder T e B b bs w) (hb : Below w.heap.size w w') : Lib.IsBuilder T e B b bs w' := by
  rcases h with h | h
  · obtain ⟨h1, v, h2, h3, h4⟩ := h
    exact .inl ⟨h1, v, (hb.block b (Array.getElem?_eq_some_iff.1 h2).1).trans h2, own_below h3 hb, h4⟩
  · obtain ⟨h1, v, h2, h3, h4⟩ := h
    exact .inr ⟨h1, v, (hb.block b (Array.getElem?_eq_some_iff.1 h2).1).trans h2, own_below h3 hb, h4⟩

def txv : Option Bytes → Value
  | some t => .tuple #[.string (mkB t), .int .i64 0]
  | none => .tuple #[.string ⟨#[]⟩, .int .i64 15]
/-- what texts says -/
def textsP (d : Disk) (c : Cut) (h : Head) : Option Bytes := if c.pages < h.pages then none else textsN (((DiskP.done d).drop (KeepP.start c h.half + c.log)).take (8 * h.pages)).flatten h.pages
theorem read_len (s : Bytes) : (SlotP.read s).1.flatten.length ≤ 1024 ∧ (SlotP.read s).1.length ≤ 40 := by
  by_cases h : (SlotP.read s).2 = 0
  · obtain ⟨h1, _⟩ := SlotP.lay_read s h
    have h2 := (SlotP.fits_iff _).1 h1
    have h3 : (SlotP.read s).1.flatten.length = SlotP.sumLen (SlotP.read s).1 := by simp [SlotP.sumLen, List.length_flatten]
    have h4 := h2.2.2
    unfold SlotP.used at h4
    exact ⟨by omega, h2.1⟩
  · have h0 : (SlotP.read s).1 = [] := by
      unfold SlotP.read at h ⊢
      by_cases c1 : s.length ≠ 1024
      · rw [if_pos c1]
      · rw [if_neg c1] at h ⊢
        by_cases c2 : SlotP.at16 s 0 > 40
        · rw [if_pos c2]
        · rw [if_neg c2] at h ⊢
          split
          · rfl
          · rename_i l hl
            rw [hl] at h
            simp only at h
            by_cases c3 : (SlotP.fits l && decide (SlotP.lay l = s)) = true
            · rw [if_pos c3] at h; exact absurd rfl h
            · rw [if_neg c3]
    rw [h0]; simp
theorem textsN_len (s : Bytes) : ∀ (i : Nat) (t : Bytes), textsN s i = some t → t.length ≤ 1024 * i
  | 0, t, h => by simp [textsN] at h; subst h; simp
  | i + 1, t, h => by
    rw [textsN] at h
    split at h
    · cases h
    · rename_i t0 h0
      split at h
      · injection h with h
        subst h
        have h1 := textsN_len s i t0 h0
        have h2 := (read_len (page s i)).1
        rw [List.length_append]
        have h3 : (page s i).length ≤ 1024 := List.length_take_le _ _
        omega
      · cases h
theorem texts_stop {s : Bytes} {i n : Nat} {t : Bytes} (h : textsN s i = some t) (hi : i < n) (hr : (SlotP.read (page s i)).2 ≠ 0) : textsN s n = none := by
  have h1 : textsN s (i + 1) = none := by rw [textsN, h]; simp only; rw [if_neg hr]
  have := KeepP.textsN_none h1 (n - (i + 1))
  rwa [show i + 1 + (n - (i + 1)) = n by omega] at this

set_option maxRecDepth 100000 in
set_option maxHeartbeats 6400000 in
theorem texts_any (A : Option Addr) (n c : Nat) (B : Option Addr) (m e : Nat) (d : Disk) (V : Nat → Prop) (ct : Cut) (h : Head) (w : World) (hD : Dk w V A n c B m e d) (hm : DiskP.may d = true) (hdead : d.dead = false) (hc : okC ct) (hn : n = KeepP.size ct) (hh : h.half ≤ 1) (hpg : h.pages ≤ 65535) :
    Calls Tryz.prog 35 #[dkv A n c B m e d.left d.dead, ctv ct, hdv h] w fun q w' => q = .returned (txv (textsP d ct h)) ∧ Below w.heap.size w w' := by
  have hlen := hD.len
  have hmi := (DiskP.may_iff d).1 hm
  have hdl : (DiskP.done d).length = n := by rw [DiskP.done, DiskP.doneGo_len, hlen]
  have hsz : ∀ s ∈ DiskP.done d, s.length = 128 := DiskP.doneGo_size d.W (fun w hw => (hmi.2.2.2.2 w hw).2.2) d.S hmi.2.2.2.1
  have hst := fun w1 => start_any ct h.half w1 hc hh
  have hfit := KeepP.half_fit (c := ct) hh
  have hcb := hc
  obtain ⟨k1, k2, k3, k4⟩ := hcb
  obtain ⟨st, hst'⟩ : ∃ st, st = KeepP.start ct h.half := ⟨_, rfl⟩
  obtain ⟨T, hT⟩ : ∃ T, T = textsP d ct h := ⟨_, rfl⟩
  have hT2 : T = if ct.pages < h.pages then none else textsN (((DiskP.done d).drop (st + ct.log)).take (8 * h.pages)).flatten h.pages := by rw [hT, textsP, hst']
  rw [← hT]
  rw [← hst'] at hst hfit
  rw [← hn] at hfit
  unfold KeepP.half at hfit
  obtain ⟨cl, cp⟩ := ct
  obtain ⟨gg, gf, gq, gp⟩ := h
  unfold ctv hdv at *
  simp only at hst hT2 k1 k2 k3 k4 hh hpg hfit ⊢
  have hr := fun (hle : gp ≤ cp) ww hD => read17_any A n c B m e d V (st + cl) (8 * gp) ww hD hm (by omega)
  have hrd : gp ≤ cp → DiskP.read d ((st + cl : Nat) : Int) ((8 * gp : Nat) : Int) = ((((DiskP.done d).drop (st + cl)).take (8 * gp)).flatten, 0) := fun hle => by
    rw [read_ok hm (by simp only [DiskP.there, Bool.and_eq_true, decide_eq_true_eq]; rw [hlen]; omega) hdead, Int.toNat_natCast, Int.toNat_natCast]
  have hfl : gp ≤ cp → (((DiskP.done d).drop (st + cl)).take (8 * gp)).flatten.length = 1024 * gp := fun hle => by
    rw [sized_flat (fun s hs => hsz s (List.mem_of_mem_drop (List.mem_of_mem_take hs))), List.length_take, List.length_drop, hdl]
    omega
  obtain ⟨F, hF⟩ : ∃ F, F = (((DiskP.done d).drop (st + cl)).take (8 * gp)).flatten := ⟨_, rfl⟩
  rw [← hF] at hT2 hrd hfl
  obtain ⟨lf, hlf⟩ : ∃ lf, lf = d.left := ⟨_, rfl⟩
  rw [hdead, ← hlf] at hr ⊢
  have hr2 : gp ≤ cp → ∀ ww, Dk ww V A n c B m e d → Calls Tryz.prog 68 #[.agg #[.slice A n c, .slice B m e, .int .i64 lf, .bool false], .int .i64 ((st : Int) + (cl : Int)), .int .i64 ((gp : Int) * 8)] ww fun q w' => q = .returned (.tuple #[.string (mkB F), .int .i64 0]) ∧ Below ww.heap.size ww w' := fun hle ww hD => by
    have := hr hle ww hD
    rw [hrd hle] at this
    rw [show (st : Int) + (cl : Int) = ((st + cl : Nat) : Int) by omega, show (gp : Int) * 8 = ((8 * gp : Nat) : Int) by omega]
    exact this
  have kD0 := (((Box.new w 54 #[.slice A n c, .slice B m e, .int .i64 lf, .bool false]).up (.cells #[.int .i64 (cl : Nat), .int .i64 (cp : Nat)] 46)).up (.cells #[.int .i64 (gg : Nat), .int .i64 (gf : Nat), .int .i64 (gq : Nat), .int .i64 (gp : Nat)] 77))
  have kC0 := ((Box.new (w.alloc (.cells #[.slice A n c, .slice B m e, .int .i64 lf, .bool false] 54)) 46 #[.int .i64 (cl : Nat), .int .i64 (cp : Nat)]).up (.cells #[.int .i64 (gg : Nat), .int .i64 (gf : Nat), .int .i64 (gq : Nat), .int .i64 (gp : Nat)] 77))
  have kH0 := (Box.new ((w.alloc (.cells #[.slice A n c, .slice B m e, .int .i64 lf, .bool false] 54)).alloc (.cells #[.int .i64 (cl : Nat), .int .i64 (cp : Nat)] 46)) 77 #[.int .i64 (gg : Nat), .int .i64 (gf : Nat), .int .i64 (gq : Nat), .int .i64 (gp : Nat)])
  have hb0 := (((Below.refl w.heap.size w).alloc (Nat.le_refl _) (.cells #[.slice A n c, .slice B m e, .int .i64 lf, .bool false] 54)).alloc (by simp) (.cells #[.int .i64 (cl : Nat), .int .i64 (cp : Nat)] 46)).alloc (by simp; omega) (.cells #[.int .i64 (gg : Nat), .int .i64 (gf : Nat), .int .i64 (gq : Nat), .int .i64 (gp : Nat)] 77)
  simp only [World.size_alloc] at kC0 kH0
  have hD0 := hD.below hb0
  obtain ⟨w0, hw0⟩ : ∃ y, y = ((w.alloc (.cells #[.slice A n c, .slice B m e, .int .i64 lf, .bool false] 54)).alloc (.cells #[.int .i64 (cl : Nat), .int .i64 (cp : Nat)] 46)).alloc (.cells #[.int .i64 (gg : Nat), .int .i64 (gf : Nat), .int .i64 (gq : Nat), .int .i64 (gp : Nat)] 77) := ⟨_, rfl⟩
  rw [← hw0] at kD0 kC0 kH0 hb0 hD0
  have HW0 := hide hw0
  have HST := hide hst
  by_cases hle : gp ≤ cp
  · rw [if_neg (by omega)] at hT2
    have HR := hide (hr2 hle)
    have HFL := hide (hfl hle)
    have HT := hide hT2
    have HD0 := hide hD0
    have x1 : ¬ (cp : Int) < (gp : Int) := by omega
    have x2 : decide ((cp : Int) < (gp : Int)) = false := by simp; omega
    have x3 : decide (cp < gp) = false := by simp; omega
    have hgp : (gp : Int) ≤ 100 := by omega
    have hst2 : (st : Int) ≤ 100000 := by
      have : st ≤ 100000 := by unfold KeepP.size KeepP.half at hn; simp only at hn; omega
      omega
    have hcl2 : (cl : Int) ≤ 400 := by omega
    have HN : Hid (gp ≤ 100) := by refine hide ?_; omega
    have ew1 : IntKind.i64.wrap ((st : Int) + (cl : Int)) = (st : Int) + (cl : Int) := IntWalk.i64_in _ (by omega)
    have ew2 : IntKind.i64.wrap ((gp : Int) * 8) = (gp : Int) * 8 := IntWalk.i64_in _ (by omega)
    clear hlen hmi hdl hsz hst hfit k1 k2 k3 k4 hst' hT hT2 hh hpg hr hrd hfl hF hlf hr2 hw0 hD hm hdead hc hn hle hD0
    obtain ⟨q0, q1⟩ := kC0.cell2
    obtain ⟨p0, p1, p2, p3⟩ := kH0.cell4
    go_enter Tryz.func35, Tryz.ntmps35
    go_upto_region 1 with (fail)
    rw [← HW0.out]
    clear HW0
    go_upto_region 3 with (fail)
    clear q0 q1 p0 p1 p2 p3 x1 x2 x3
    have HSS : Hid (∀ ww, Below w0.heap.size w0 ww → (ww.cell? ⟨w.heap.size, 0, none⟩ = some (.slice A n c) ∧ ww.cell? ⟨w.heap.size, 1, none⟩ = some (.slice B m e) ∧ ww.cell? ⟨w.heap.size, 2, none⟩ = some (.int .i64 lf) ∧ ww.cell? ⟨w.heap.size, 3, none⟩ = some (.bool false)) ∧ (ww.cell? ⟨w.heap.size + 1, 0, none⟩ = some (.int .i64 (cl : Nat)) ∧ ww.cell? ⟨w.heap.size + 1, 1, none⟩ = some (.int .i64 (cp : Nat))) ∧ ww.cell? ⟨w.heap.size + 1 + 1, 0, none⟩ = some (.int .i64 (gg : Nat)) ∧ ww.cell? ⟨w.heap.size + 1 + 1, 1, none⟩ = some (.int .i64 (gf : Nat)) ∧ ww.cell? ⟨w.heap.size + 1 + 1, 2, none⟩ = some (.int .i64 (gq : Nat)) ∧ ww.cell? ⟨w.heap.size + 1 + 1, 3, none⟩ = some (.int .i64 (gp : Nat))) :=
      fun ww hb => ⟨(kD0.belowS hb).cell4, (kC0.belowS hb).cell2, (kH0.belowS hb).cell4⟩
    go_region_held3 (fun ww => (ww.cell? ⟨w.heap.size, 0, none⟩ = some (.slice A n c) ∧ ww.cell? ⟨w.heap.size, 1, none⟩ = some (.slice B m e) ∧ ww.cell? ⟨w.heap.size, 2, none⟩ = some (.int .i64 lf) ∧ ww.cell? ⟨w.heap.size, 3, none⟩ = some (.bool false)) ∧ (ww.cell? ⟨w.heap.size + 1, 0, none⟩ = some (.int .i64 (cl : Nat)) ∧ ww.cell? ⟨w.heap.size + 1, 1, none⟩ = some (.int .i64 (cp : Nat))) ∧ ww.cell? ⟨w.heap.size + 1 + 1, 0, none⟩ = some (.int .i64 (gg : Nat)) ∧ ww.cell? ⟨w.heap.size + 1 + 1, 1, none⟩ = some (.int .i64 (gf : Nat)) ∧ ww.cell? ⟨w.heap.size + 1 + 1, 2, none⟩ = some (.int .i64 (gq : Nat)) ∧ ww.cell? ⟨w.heap.size + 1 + 1, 3, none⟩ = some (.int .i64 (gp : Nat)))
      (first | (with_reducible exact (HSS.out w0 (Below.refl _ _))) | (with_reducible exact (HSS.out w0.drew (Below.refl _ _).drew)) | (with_reducible exact (HSS.out wx hbx)) | (with_reducible exact (HSS.out wy (hbx.trans (hby.mono hbx.size)))))
      (first
        | ((with_reducible refine (HST.out _).mono ?_); rintro q wx ⟨rfl, hbx⟩; have hbx := below_undrewD hbx)
        | ((with_reducible refine (HR.out _ (HD0.out.below hbx)).mono ?_); rintro q wy ⟨rfl, hby⟩))
    have hby0 := hbx.trans (hby.mono hbx.size)
    have hbwy := hb0.trans (hby0.mono hb0.size)
    have kHy := kH0.belowS hby0
    obtain ⟨FS, hFS⟩ : ∃ FS, FS = mkB F := ⟨_, rfl⟩
    have zFS : FS.size = 1024 * gp := by rw [hFS, mkB_size]; exact HFL.out
    have hoF : oct FS = F := by rw [hFS, oct_mkB]
    rw [← hFS]
    have HOF := hide hoF
    have HZF := hide zFS
    have hbld := Lib.fresh_isBuilder 129 5 wy
    obtain ⟨bB, hbB⟩ : ∃ b, b = wy.heap.size := ⟨_, rfl⟩
    obtain ⟨w3, hw3⟩ : ∃ y, y = wy.alloc (.cells #[.pointer none, .slice none 0 0] 129) := ⟨_, rfl⟩
    have hb3 : Below wy.heap.size wy w3 := by rw [hw3]; exact (Below.refl _ _).alloc (Nat.le_refl _) _
    rw [← hw3, ← hbB] at hbld
    have HBLD := hide hbld
    have hbw3 := hbwy.trans (hb3.mono hbwy.size)
    have HW3 := hide hw3
    have HBB := hide hbB
    have hsz3 : bB ≤ w3.heap.size := by rw [hbB]; exact hb3.size
    have hwB : w.heap.size ≤ bB := by rw [hbB]; exact hbwy.size
    obtain ⟨p0, p1, p2, p3⟩ := (kHy.up (.cells #[.pointer none, .slice none 0 0] 129)).cell4
    clear hbx hby hby0 HSS hFS zFS hoF hbld hw3 hbB hb3 hb0 kD0 kC0 kH0 kHy hbwy HST HR HFL HD0 hst2 hcl2 ew1 ew2
    go_upto_block 0 with (fail)
    rw [← HW3.out, ← HBB.out]
    clear HW3 HBB p0 p1 p2 p3
    go_wp2_with fail
    go_loopw [39] (fun jv wr => ∃ (j : Nat) (t : Bytes), jv = .int .i64 j ∧ j ≤ gp ∧ textsN F j = some t ∧ Lib.IsBuilder 129 5 bB bB (Lib.byteCells t) wr ∧ bB ≤ wr.heap.size ∧ Below w.heap.size w wr) (fun jv _ => gp - (intOf jv).toNat)
    case atStart => exact ⟨0, [], rfl, Nat.zero_le _, rfl, HBLD.out, hsz3, hbw3⟩
    case round =>
      clear HBLD hsz3 hbw3
      obtain ⟨j, t, rfl, hj, htx, hbl, hsr, hbr⟩ := hrel
      by_cases hlt : j < gp
      · have c1 : decide (j < gp) = true := by simpa using hlt
        have c2 : (j : Int) < (gp : Int) := by omega
        have c3 : (FS.size : Int) = 1024 * (gp : Int) := by have := HZF.out; omega
        have hti := textsN_len F j t htx
        have hg100 := HN.out
        have HTX := hide htx
        have HBL := hide hbl
        have htl : t.length ≤ 102400 := by omega
        clear htx hbl hti
        have hpg : oct (FS.extract (j * 1024) ((j + 1) * 1024)) = page F j := by
          rw [oct_extract, HOF.out, page, Nat.mul_comm j 1024, show (j + 1) * 1024 - 1024 * j = 1024 by omega]
        have hpz : (FS.extract (j * 1024) ((j + 1) * 1024)).size ≤ 9223372036854775807 := by
          rw [← oct_length, hpg]
          have : (page F j).length ≤ 1024 := List.length_take_le _ _
          omega
        have hrd := read_any (FS.extract (j * 1024) ((j + 1) * 1024)) wr hpz
        rw [hpg] at hrd
        have hrl := read_len (page F j)
        have hst1 := fun he => texts_stop HTX.out hlt he
        have hnx : (SlotP.read (page F j)).2 = 0 → textsN F (j + 1) = some (t ++ (SlotP.read (page F j)).1.flatten) := fun he => by rw [textsN, HTX.out]; simp only; rw [if_pos he]
        obtain ⟨RP, hRP⟩ : ∃ RP, RP = SlotP.read (page F j) := ⟨_, rfl⟩
        rw [← hRP] at hrd hrl hst1 hnx
        obtain ⟨ev, hev⟩ : ∃ ev, ev = RP.2 := ⟨_, rfl⟩
        rw [← hev] at hrd hst1 hnx
        have HRD := hide hrd
        have HRL := hide hrl
        have HNX := hide hnx
        have HST1 := hide hst1
        clear hpg hpz hrd hrl hst1 hnx hRP hev hg100
        by_cases he : ev = 0
        · subst he
          have h00 : ((0 : Nat) : Int) = 0 := rfl
          rw [h00] at HRD
          have hnx := HNX.out rfl
          have HNX2 := hide hnx
          clear h00 hnx HST1 HNX
          go_wp2_with fail
          refine HRD.out.mono ?_
          rintro q w5 ⟨v, ts, rfl, ho, hoc, hb5⟩
          obtain ⟨A5, c5, rfl⟩ := own_shape ho
          have hcap := own_cap ho
          have hA5 : ts.length = 0 ∨ ∃ g o, A5 = some ⟨g, o, none⟩ := by
            rcases Nat.eq_zero_or_pos ts.length with h0 | h0
            · exact .inl h0
            · obtain ⟨g, cap, hv, _⟩ := own_form ho h0
              injection hv with hv _ _
              exact .inr ⟨g, 0, hv⟩
          have hfl5 : (ts.map oct).flatten = RP.1.flatten := by rw [← hoc]; rfl
          have htl5 : ts.length ≤ 1000000000 := by
            have h1 : ts.length = RP.1.length := by rw [← hoc]; simp [octs]
            have h2 := HRL.out.2
            omega
          have hjn := join_any A5 ts.length c5 ts _ w5 (Sl.of_own ho) hA5 hcap htl5 (by rw [hfl5]; have := HRL.out.1; omega)
          rw [hfl5] at hjn
          have HJN := hide hjn
          have HBL5 := hide (builder_below HBL.out hb5)
          have hbr5 := hbr.trans (hb5.mono hbr.size)
          have hs5 : bB ≤ w5.heap.size := Nat.le_trans hsr hb5.size
          clear ho hoc hcap hA5 hfl5 htl5 hjn hb5
          go_wp2_with fail
          refine HJN.out.mono ?_
          rintro q w6 ⟨rfl, hb6⟩
          have hbr6 := hbr5.trans (hb6.mono hbr5.size)
          have hs6 : bB ≤ w6.heap.size := Nat.le_trans hs5 hb6.size
          have hwr := write_any bB bB t (mkB RP.1.flatten) w6 (builder_below HBL5.out hb6) (by rw [mkB_size]; have := HRL.out.1; omega) hs6
          rw [oct_mkB] at hwr
          have HWR := hide hwr
          clear hwr hb6 hbr5 hs5
          go_wp2_with fail
          refine HWR.out.mono ?_
          rintro q w7 ⟨⟨v7, rfl⟩, hbl7, hb7⟩
          have hbr7 := hbr6.trans (hb7.mono hwB)
          have hs7 : bB ≤ w7.heap.size := Nat.le_trans hs6 hb7.size
          have HBL7 := hide hbl7
          clear hbl7 hb7 hbr6 hs6
          go_wp2_with fail
          go_roundw
          case rel => exact ⟨j + 1, _, by go_num, by omega, HNX2.out, HBL7.out, hs7, hbr7⟩
          case measure => simp [intOf]; omega
        · have hT : T = none := by rw [HT.out]; exact HST1.out he
          subst hT
          have n1 : ((ev : Nat) : Int) ≠ 0 := by omega
          have n2 : decide (ev = 0) = false := by simpa using he
          clear he HST1 HNX
          go_wp2_with fail
          refine HRD.out.mono ?_
          rintro q w5 ⟨v, ts, rfl, ho, hoc, hb5⟩
          have hbr5 := hbr.trans (hb5.mono hbr.size)
          clear ho hoc hb5
          go_wp2_with fail
          exact bodyPost_ret (v := .tuple #[.string ⟨#[]⟩, .int .i64 15]) (by simp [results, Tryz.results35, go_sem]) rfl ⟨rfl, hbr5⟩
      · obtain rfl : j = gp := by omega
        have hT : T = some t := by rw [HT.out]; exact htx
        subst hT
        have hstr := Tryz.Builder_String_any bB bB t wr hbl hsr
        have HSTR := hide hstr
        have c1 : decide (j < j) = false := by simp
        clear hbl hstr htx
        go_wp2_with fail
        refine HSTR.out.mono ?_
        rintro q w5 ⟨rfl, hb5⟩
        have hbr5 := hbr.trans (hb5.mono hwB)
        clear hb5
        go_wp2_with fail
        exact bodyPost_ret (v := .tuple #[.string ⟨t.toArray⟩, .int .i64 0]) (by simp [results, Tryz.results35, go_sem]) rfl ⟨rfl, hbr5⟩
  · have hT3 : T = none := by rw [hT2, if_pos (by omega)]
    subst hT3
    have x1 : (cp : Int) < (gp : Int) := by omega
    have x2 : decide (cp < gp) = true := by simp; omega
    have HB0 := hide hb0
    clear hlen hmi hdl hsz hst hfit k1 k2 k3 k4 hst' hT hT2 hh hpg hr hrd hfl hF hlf hr2 hw0 hD hm hdead hc hn hle hD0 hb0
    obtain ⟨q0, q1⟩ := kC0.cell2
    obtain ⟨p0, p1, p2, p3⟩ := kH0.cell4
    go_enter Tryz.func35, Tryz.ntmps35
    go_upto_region 1 with (fail)
    rw [← HW0.out]
    clear HW0
    go_wp2_with fail
    exact bodyPost_ret (v := .tuple #[.string ⟨#[]⟩, .int .i64 15]) (by simp [results, Tryz.results35, go_sem]) rfl ⟨rfl, HB0.out⟩
end Go.Proofs.YtojincohnjophaaGreatDoor
