/- The walk of layer 18's examples. -/
import Derived.Test.YtojincohnjophaaGreatDoorLogD
import Derived.Deep.LoopGhost
import Derived.Test.YtojincohnjophaaGreatDoorRegT
import Derived.Test.YtojincohnjophaaGreatDoorTreePure
import Derived.Test.YtojincohnjophaaGreatDoorKeepLaw
/-! The walk of layer 18's Scan. -/
namespace Go.Proofs.YtojincohnjophaaGreatDoor
open Go.RowKit
open DiskP (Bytes Disk Wr Fate noughts)
open LogP (Log zeroL Live okL scanGo)
set_option linter.unusedVariables false

/-- an own list of texts -/
def OwnT (w : World) (base : Nat) (v : Value) (l : List Bytes) : Prop := w.ownsRow base 9 1 v l.length (secV l)
theorem OwnT.below {w w' : World} {base : Nat} {v : Value} {l : List Bytes} (h : OwnT w base v l) (hb : Below w.heap.size w w') : OwnT w' base v l := own_below h hb

theorem own_set_far {w : World} {base b : Nat} {v : Value} {l : List Bytes} {i j : Nat} {u u' : Value} (h : OwnT w base v l) (hb : b < base) : OwnT ((w.setCell ⟨b, i, none⟩ u).setCell ⟨b, j, none⟩ u').drew base v l :=
  (ownsRow_setCell_below (ownsRow_setCell_below h (a := ⟨b, i, none⟩) hb u) (a := ⟨b, j, none⟩) hb u').drew
/-- what stands ahead of Scan's round, k sectors ahead of the log's end -/
def ScanR (w0 : World) (b frm len : Nat) (all : Bytes) (R : List Bytes × Nat × Nat) (k : Nat) (v : Value) (wr : World) : Prop :=
  ∃ acc at_ q f, k = len - at_ ∧ at_ ≤ len ∧ len ≤ at_ + f ∧ acc.length ≤ at_ ∧ q ≤ 4611686018427387904 ∧ R = (acc ++ (scanGo all f at_ q).1, (scanGo all f at_ q).2) ∧
    Box wr (b + 1) 82 #[.int .i64 (frm : Nat), .int .i64 (len : Nat), .int .i64 (at_ : Nat), .int .i64 (q : Nat)] ∧ Box wr (b + 1 + 1) 82 #[.int .i64 0, .int .i64 0, .int .i64 0, .int .i64 0] ∧ OwnT wr (b + 3) v acc ∧ Below b w0 wr
/-- what stands behind Scan's loop -/
def ScanE (w0 : World) (b frm len : Nat) (R : List Bytes × Nat × Nat) (v : Value) (wr : World) : Prop :=
  ∃ v0, v0 = v ∧ Box wr (b + 1) 82 #[.int .i64 (frm : Nat), .int .i64 (len : Nat), .int .i64 (R.2.1 : Nat), .int .i64 (R.2.2 : Nat)] ∧ Box wr (b + 1 + 1) 82 #[.int .i64 0, .int .i64 0, .int .i64 0, .int .i64 0] ∧ OwnT wr (b + 3) v0 R.1 ∧ Below b w0 wr

theorem scan_stop {all : Bytes} {f at_ q : Nat} (h : LogP.maxSeq < q ∨ LogP.recordB (all.drop (128 * at_)) q = none) : scanGo all f at_ q = ([], at_, q) := by
  cases f with
  | zero => rfl
  | succ f =>
    rw [scanGo]
    split
    · rfl
    · rw [h.resolve_left (by assumption)]
theorem scan_go {all : Bytes} {f at_ q len : Nat} {s : Bytes} (h1 : ¬ LogP.maxSeq < q) (h : LogP.recordB (all.drop (128 * at_)) q = some s) (hl : all.length = 128 * len) (hf : len ≤ at_ + f) :
    ∃ g, f = g + 1 ∧ scanGo all f at_ q = (s :: (scanGo all g (at_ + LogP.secs s.length) (q + 1)).1, (scanGo all g (at_ + LogP.secs s.length) (q + 1)).2) ∧ at_ + LogP.secs s.length < len ∧ 1 ≤ LogP.secs s.length ∧ s.length ≤ 4000 := by
  obtain ⟨h2, h3, _⟩ := LogP.record_is h
  have h4 := LogP.secs_pos h2
  rw [List.length_drop, hl] at h3
  cases f with
  | zero => omega
  | succ g =>
    refine ⟨g, rfl, ?_, by omega, h4, h2⟩
    rw [scanGo, if_neg h1, h]

set_option maxRecDepth 100000 in
set_option maxHeartbeats 6400000 in
theorem scan_any (A : Option Addr) (n c : Nat) (B : Option Addr) (m e : Nat) (d : Disk) (V : Nat → Prop) (l : Log) (w : World) (h : Dk w V A n c B m e d) (hok : okL d l) :
    Calls Tryz.prog 36 #[dkv A n c B m e d.left d.dead, lgv l] w fun q w' => ∃ v, q = .returned (.tuple #[v, lgv (LogP.scanP d l).2.1, .int .i64 ((LogP.scanP d l).2.2 : Nat)]) ∧ OwnT w' w.heap.size v (LogP.scanP d l).1 ∧ Below w.heap.size w w' := by
  have hlm := fun w1 hD => lmay_any A n c B m e d V l w1 hD hok
  have hm := hok.1
  obtain ⟨_, k1, k2, k3, k4, k5⟩ := hok
  rw [h.len] at k1
  have hnle := h.nle
  have hn4 : n ≤ 4000 := by have := ((DiskP.may_iff d).1 hm).2.1; rw [h.len] at this; exact this
  unfold LogP.maxSeq at k5
  obtain ⟨frm, len, at_, seq⟩ := l
  simp only at k1 k2 k3 k4 k5
  unfold lgv at hlm
  simp only at hlm
  have hrd := fun w1 hD => read17_any A n c B m e d V frm len w1 hD hm k1
  have hb1 : Below w.heap.size w (w.alloc (.cells #[.slice A n c, .slice B m e, .int .i64 d.left, .bool d.dead] 54)) := (Below.refl _ _).alloc (Nat.le_refl _) _
  have hb2 := hb1.alloc hb1.size (.cells #[.int .i64 (frm : Nat), .int .i64 (len : Nat), .int .i64 (at_ : Nat), .int .i64 (seq : Nat)] 82)
  have hb4 := hb2.alloc hb2.size (.cells #[.int .i64 0, .int .i64 0, .int .i64 0, .int .i64 0] 82)
  have kA := ((Box.new w 54 #[.slice A n c, .slice B m e, .int .i64 d.left, .bool d.dead]).up (.cells #[.int .i64 (frm : Nat), .int .i64 (len : Nat), .int .i64 (at_ : Nat), .int .i64 (seq : Nat)] 82)).up (.cells #[.int .i64 0, .int .i64 0, .int .i64 0, .int .i64 0] 82)
  have kB := (Box.new (w.alloc (.cells #[.slice A n c, .slice B m e, .int .i64 d.left, .bool d.dead] 54)) 82 #[.int .i64 (frm : Nat), .int .i64 (len : Nat), .int .i64 (at_ : Nat), .int .i64 (seq : Nat)]).up (.cells #[.int .i64 0, .int .i64 0, .int .i64 0, .int .i64 0] 82)
  have kD := Box.new ((w.alloc (.cells #[.slice A n c, .slice B m e, .int .i64 d.left, .bool d.dead] 54)).alloc (.cells #[.int .i64 (frm : Nat), .int .i64 (len : Nat), .int .i64 (at_ : Nat), .int .i64 (seq : Nat)] 82)) 82 #[.int .i64 0, .int .i64 0, .int .i64 0, .int .i64 0]
  simp only [World.size_alloc] at kB kD
  clear hb1 hb2
  obtain ⟨lf, hlf⟩ : ∃ lf, lf = d.left := ⟨_, rfl⟩
  obtain ⟨dd, hdd⟩ : ∃ dd, dd = d.dead := ⟨_, rfl⟩
  have hlm' := hlm _ (h.below hb4)
  obtain ⟨Y, hY⟩ : ∃ Y, Y = LogP.scanP d ⟨frm, len, at_, seq⟩ := ⟨_, rfl⟩
  rw [← hY]
  have hY' := hY
  rw [LogP.scanP] at hY'
  simp only at hY'
  have ht : DiskP.there d (frm : Int) (len : Int) = true := by
    simp only [DiskP.there, Bool.and_eq_true, decide_eq_true_eq]
    rw [h.len]; omega
  unfold lgv
  simp only
  cases hd : d.dead with
  | true =>
    rw [read_dead hm ht hd] at hY' hrd
    rw [if_neg (by simp)] at hY'
    rw [hd] at hdd
    rw [← hlf, hd] at kA kB kD hb4 hlm' hrd
    rw [← hlf]
    have HM := hide hlm'
    have HRD := hide hrd
    have HY := hide hY'
    clear hlm hlm' hrd hY hY' hlf hdd ht hd
    go_enter Tryz.func36, Tryz.ntmps36
    go_wp2_with fail
    refine HM.out.mono ?_
    rintro q w1 ⟨rfl, hb1⟩
    have kA1 := kA.belowS hb1
    have kB1 := kB.belowS hb1
    have kD1 := kD.belowS hb1
    have hbw1 := hb4.trans (hb1.mono hb4.size)
    obtain ⟨a0, a1, a2, a3⟩ := kA1.cell4
    obtain ⟨p0, p1, p2, p3⟩ := kB1.cell4
    go_wp2_with fail
    refine (HRD.out _ (h.below hbw1)).mono ?_
    rintro q w2 ⟨rfl, hb2⟩
    have kD2 := kD1.belowS hb2
    have hbw2 := hbw1.trans (hb2.mono hbw1.size)
    clear a0 a1 a2 a3 p0 p1 p2 p3
    obtain ⟨q0, q1, q2, q3⟩ := kD2.cell4
    have f0 := kD2.frozen 0
    have f1 := kD2.frozen 1
    have f2 := kD2.frozen 2
    have f3 := kD2.frozen 3
    go_wp2_with fail
    have kF := kD2.set4 (u0 := .int .i64 0) (u1 := .int .i64 0) (u2 := .int .i64 0) (u3 := .int .i64 0)
    have hbF := below_set4 (b := w.heap.size + 1 + 1) (u0 := .int .i64 0) (u1 := .int .i64 0) (u2 := .int .i64 0) (u3 := .int .i64 0) hbw2 (by omega)
    obtain ⟨s0, s1, s2, s3⟩ := kF.cell4
    refine bodyPost_ret (v := .tuple #[.slice none 0 0, .agg #[.int .i64 0, .int .i64 0, .int .i64 0, .int .i64 0], .int .i64 14]) (by simp [results, Tryz.results36, go_sem, s0, s1, s2, s3]) rfl ⟨.slice none 0 0, by rw [HY.out]; rfl, by rw [HY.out]; exact World.ownsRow_nil _ _ _ _, hbF⟩
  | false =>
    have hdl : (DiskP.done d).length = n := by rw [DiskP.done, DiskP.doneGo_len, h.len]
    have hsz : ∀ s ∈ DiskP.done d, s.length = 128 := DiskP.doneGo_size d.W (fun w hw => (((DiskP.may_iff d).1 hm).2.2.2.2 w hw).2.2) d.S ((DiskP.may_iff d).1 hm).2.2.2.1
    rw [read_ok hm ht hd] at hY' hrd
    rw [if_pos rfl] at hY'
    rw [Int.toNat_natCast, Int.toNat_natCast] at hY' hrd
    obtain ⟨all, hall⟩ : ∃ all, all = (((DiskP.done d).drop frm).take len).flatten := ⟨_, rfl⟩
    have hal : all.length = 128 * len := by
      rw [hall, sized_flat fun s hs => hsz s (List.mem_of_mem_drop (List.mem_of_mem_take hs)), List.length_take, List.length_drop, hdl]
      omega
    rw [← hall] at hY' hrd
    simp only at hY'
    obtain ⟨R, hR⟩ : ∃ R, R = scanGo all len at_ seq := ⟨_, rfl⟩
    rw [← hR] at hY'
    rw [hd] at hdd
    rw [← hlf, hd] at kA kB kD hb4 hlm' hrd
    rw [← hlf]
    obtain ⟨sa, hsa⟩ : ∃ sa, sa = mkB all := ⟨_, rfl⟩
    have hsaz : sa.size = 128 * len := by rw [hsa, mkB_size, hal]
    have hosa : oct sa = all := by rw [hsa, oct_mkB]
    rw [← hsa] at hrd
    have HM := hide hlm'
    have HRD := hide hrd
    have HY := hide hY'
    have HR := hide hR
    have HAL := hide hal
    have HSAZ := hide hsaz
    have HOSA := hide hosa
    clear hlm hlm' hrd hY hY' hlf hdd ht hd hR hal hall hsaz hosa hdl hsz hsa
    go_enter Tryz.func36, Tryz.ntmps36
    go_wp2_with fail
    refine HM.out.mono ?_
    rintro q w1 ⟨rfl, hb1⟩
    have kA1 := kA.belowS hb1
    have kB1 := kB.belowS hb1
    have kD1 := kD.belowS hb1
    have hbw1 := hb4.trans (hb1.mono hb4.size)
    obtain ⟨a0, a1, a2, a3⟩ := kA1.cell4
    obtain ⟨p0, p1, p2, p3⟩ := kB1.cell4
    go_wp2_with fail
    refine (HRD.out _ (h.below hbw1)).mono ?_
    rintro q w2 ⟨rfl, hb2⟩
    have kB2 := kB1.belowS hb2
    have kD2 := kD1.belowS hb2
    have hbw2 := hbw1.trans (hb2.mono hbw1.size)
    have hlt2 := kD2.lt
    clear a0 a1 a2 a3 p0 p1 p2 p3
    go_upto_block 0 with (fail)
    go_cut [9] (fun v wc => ScanE w w.heap.size frm len R v wc)
    case first =>
      go_wp2_with fail
      go_loopg [9] (len - at_) (fun k v wr => ScanR w w.heap.size frm len all R k v wr)
      case atStart => exact ⟨[], at_, seq, len, rfl, by omega, by omega, Nat.zero_le _, by omega, by rw [HR.out]; rfl, kB2, kD2, World.ownsRow_nil _ _ _ _, hbw2⟩
      case round =>
        obtain ⟨acc, at1, q, f, hk, hat, hf, hacc, hq, hRR, kB3, kD3, how, hbr⟩ := hrel
        have HRR := hide hRR
        have HK := hide hk
        clear hRR hk kB1 kD1 kB2 kD2 hbw1 hbw2 hb1 hb2
        obtain ⟨p0, p1, p2, p3⟩ := kB3.cell4
        have hltB := kB3.lt
        have hltD := kD3.lt
        by_cases hmx : q ≤ 4611686018427387903
        · have hdq : decide ((q : Int) ≤ 4611686018427387903) = true := by simp; omega
          have hb8 : (at1 : Int) * 128 ≤ sa.size := by have := HSAZ.out; omega
          have hrec := fun w => record_any (sa.extract (at1 * 128) sa.size) q w (by have h1 := HSAZ.out; rw [← oct_length, oct_extract, List.length_take, List.length_drop, oct_length]; omega) (by omega)
          have hox : oct (sa.extract (at1 * 128) sa.size) = all.drop (128 * at1) := by
            rw [oct_extract, HOSA.out, List.take_of_length_le (by rw [List.length_drop, HAL.out, HSAZ.out]; omega), Nat.mul_comm]
          rw [hox] at hrec
          have e1 : IntKind.i64.wrap ((at1 : Int) * 128) = (at1 : Int) * 128 := IntWalk.i64_in _ (by omega)
          have e2 : ((at1 : Int) * 128).toNat = at1 * 128 := by omega
          have hb9 : (0 : Int) ≤ (at1 : Int) * 128 := by omega
          have HREC := hide hrec
          clear hrec hox
          go_wp2_with fail
          go_cut [10, 11] from 33 to 43 (fun sv bv wc => ∃ S, sv = .string S ∧ bv = .bool (LogP.recordB (all.drop (128 * at1)) q).isSome ∧ Hid (∀ t, LogP.recordB (all.drop (128 * at1)) q = some t → S = mkB t) ∧ Below wr.heap.size wr wc)
          case first =>
            refine wp_region_noPanic ?_
            go_region_law (go_simp; go_at_call 70; refine (HREC.out _).mono ?_; rintro r w4 ⟨S, rfl, hS, hb4'⟩; have HS := hide hS; clear hS)
            all_goals refine NoPanic.normal ?_
            all_goals (try simp only [Act.put, List.setIfInBounds_toArray])
            all_goals go_simp
            all_goals (try go_wp2_with fail)
            all_goals go_meet
            all_goals exact ⟨S, rfl, rfl, HS, (Below.refl _ wr).drew.trans hb4'⟩
          case rest =>
            obtain ⟨S, rfl, rfl, HS, hb5⟩ := hcut
            rename World => w5
            clear e1 e2 hb8 hb9 HREC p0 p1 p2 p3
            have kB5 := kB3.belowS hb5
            have kD5 := kD3.belowS hb5
            have hbr5 := hbr.trans (hb5.mono (by omega))
            have how5 := how.below hb5
            have hs5 := hb5.size
            cases hr : LogP.recordB (all.drop (128 * at1)) q with
            | none =>
              have hstop := scan_stop (all := all) (f := f) (at_ := at1) (q := q) (.inr hr)
              have hend : R = (acc, at1, q) := by rw [HRR.out, hstop, List.append_nil]
              have HEND := hide hend
              clear hstop hend hr HS
              go_wp2_with fail
              go_meet
              rw [HEND.out]
              exact ⟨_, rfl, kB5, kD5, how5, hbr5⟩
            | some t =>
              have hST := HS.out t hr
              obtain ⟨g, hfg, hgo, hlt1, hp1, ht4⟩ := scan_go (by unfold LogP.maxSeq; omega) hr HAL.out hf
              have hSz : S.size ≤ 4000 := by rw [hST, mkB_size]; exact ht4
              have hsec := fun w => sectors_any S.size w (by omega)
              have hSz2 : S.size = t.length := by rw [hST, mkB_size]
              rw [hSz2] at hsec
              obtain ⟨sc, hsc⟩ : ∃ sc, sc = LogP.secs t.length := ⟨_, rfl⟩
              rw [← hsc] at hsec hgo hlt1 hp1
              have HGO := hide hgo
              have HST := hide hST
              have HSC := hide hsc
              have HSEC := hide hsec
              have HFG := hide hfg
              have hSt : (S.size : Int) = t.length := by omega
              clear hST hgo hsc hsec hr hfg hSz2 HS
              go_wp2_with (at_builtin; refine wp_app_str rfl _ _ rfl (w.heap.size + 3) _ _ _ how5 rfl S rfl (by omega) (by omega) ?_; intro v6 w6 hA6)
              have hb6 := hA6.below how5 hbr5 (by omega) (by omega)
              have ho6 : OwnT w6 (w.heap.size + 3) v6 (acc ++ [t]) := by
                have := hA6.own
                rw [HST.out] at this
                show w6.ownsRow _ _ _ _ (acc ++ [t]).length (secV (acc ++ [t]))
                rw [List.length_append, List.length_singleton]
                have e : strs (acc.map mkB ++ [mkB t]) = secV (acc ++ [t]) := by simp [secV]
                rw [e] at this
                exact this
              have kB6 := kB5.at (w' := w6) (hA6.grown.block _ (by omega) (fun e => by have := (how5.lt _ e.symm).1; omega))
              have kD6 := kD5.at (w' := w6) (hA6.grown.block _ (by omega) (fun e => by have := (how5.lt _ e.symm).1; omega))
              have hs6 := hA6.grown.size
              clear hA6
              obtain ⟨p0, p1, p2, p3⟩ := kB6.cell4
              have pf2 := kB6.frozen 2
              have pf3 := kB6.frozen 3
              have e1 : IntKind.i64.wrap ((at1 : Int) + (sc : Int)) = (at1 : Int) + (sc : Int) := IntWalk.i64_in _ (by omega)
              have e2 : IntKind.i64.wrap ((q : Int) + 1) = (q : Int) + 1 := IntWalk.i64_in _ (by omega)
              go_region_law (go_simp; go_at_call 18; refine (HSEC.out _).mono ?_; rintro r w7 ⟨rfl, rfl⟩)
              all_goals (try simp only [Act.put, List.setIfInBounds_toArray, List.set_cons_zero, List.set_cons_succ])
              all_goals go_simp
              all_goals (try go_wp2_with fail)
              all_goals
                go_roundg (len - (at1 + sc))
                case measure => have := HK.out; omega
                case rel => exact ⟨acc ++ [t], at1 + sc, q + 1, g, rfl, by omega, by have := HFG.out; omega, by rw [List.length_append, List.length_singleton]; omega, by omega, by rw [HRR.out, HGO.out]; simp, by simp only [Int.natCast_add]; exact ((kB6.set 2 _).set 3 _).drew, ((kD6.other (by simp <;> omega) _).other (by simp <;> omega) _).drew, own_set_far ho6 (by omega), ((hb6.setCell (by simp <;> omega) _).setCell (by simp <;> omega) _).drew⟩
        · have hstop := scan_stop (all := all) (f := f) (at_ := at1) (q := q) (.inl (by unfold LogP.maxSeq; omega))
          have hend : R = (acc, at1, q) := by rw [HRR.out, hstop, List.append_nil]
          have HEND := hide hend
          clear hstop hend
          go_wp2_with fail
          go_meet
          rw [HEND.out]
          exact ⟨_, rfl, kB3, kD3, how, hbr⟩
    case rest =>
      obtain ⟨v, rfl, kB3, kD3, how, hb3⟩ := hcut
      rename World => wc
      have hlt3 := kD3.lt
      obtain ⟨p0, p1, p2, p3⟩ := kB3.cell4
      obtain ⟨q0, q1, q2, q3⟩ := kD3.cell4
      have f0 := kD3.frozen 0
      have f1 := kD3.frozen 1
      have f2 := kD3.frozen 2
      have f3 := kD3.frozen 3
      go_wp2_with fail
      go_region_law (fail)
      all_goals go_wp2_with fail
      all_goals
        have kF := (kD3.set4 (u0 := .int .i64 (frm : Nat)) (u1 := .int .i64 (len : Nat)) (u2 := .int .i64 (R.2.1 : Nat)) (u3 := .int .i64 (R.2.2 : Nat))).drew
        have hbF := (below_set4 (b := w.heap.size + 1 + 1) (u0 := .int .i64 (frm : Nat)) (u1 := .int .i64 (len : Nat)) (u2 := .int .i64 (R.2.1 : Nat)) (u3 := .int .i64 (R.2.2 : Nat)) hb3 (by omega)).drew
        obtain ⟨s0, s1, s2, s3⟩ := kF.cell4
        refine bodyPost_ret (v := .tuple #[v, .agg #[.int .i64 (frm : Nat), .int .i64 (len : Nat), .int .i64 (R.2.1 : Nat), .int .i64 (R.2.2 : Nat)], .int .i64 0]) (by simp [results, Tryz.results36, go_sem, s0, s1, s2, s3]) rfl ⟨v, by rw [HY.out]; rfl, ?_, hbF⟩
        rw [HY.out]
        exact own_mono (base := w.heap.size + 3) (own_keep (base := w.heap.size + 3) how fun b hb _ => set4_far (by omega)).drew (by omega)
end Go.Proofs.YtojincohnjophaaGreatDoor

/-! Facts for the law of drawn regions. -/
namespace Go.Proofs.YtojincohnjophaaGreatDoor
open Go.RowKit
open DiskP (Bytes Disk Wr Fate noughts)
open LogP (Log zeroL Live okL)
set_option linter.unusedVariables false

/-- what an operation leaves, and later allocations do not end -/
structure Fc where
  p : Value → World → Prop
  st : ∀ v w w', Below w.heap.size w w' → p v w → p v w'
def Gs (l : List Fc) (i : Nat) (v : Value) (w : World) : Prop := match l[i]? with
  | some f => f.p v w
  | none => True
theorem gs_keep (l : List Fc) (i : Nat) (v : Value) (w w' : World) (hb : Below w.heap.size w w') (h : Gs l i v w) : Gs l i v w' := by
  unfold Gs at *
  split
  · rename_i f hf
    rw [hf] at h
    exact f.st v w w' hb h
  · trivial
/-- this value -/
def Fc.is (x : Value) : Fc := ⟨fun v _ => v = x, fun _ _ _ _ h => h⟩
/-- a disk -/
def Fc.dk (V : Nat → Prop) (d : Disk) : Fc := ⟨fun v w => DkV w V v d, fun _ _ _ hb h => h.below hb⟩
/-- a tuple whose first limb is so -/
def Fc.two (f : Fc) (y : Value) : Fc := ⟨fun v w => ∃ x, v = .tuple #[x, y] ∧ f.p x w, fun _ _ _ hb ⟨x, e, h⟩ => ⟨x, e, f.st _ _ _ hb h⟩⟩
def Fc.three (f : Fc) (y z : Value) : Fc := ⟨fun v w => ∃ x, v = .tuple #[x, y, z] ∧ f.p x w, fun _ _ _ hb ⟨x, e, h⟩ => ⟨x, e, f.st _ _ _ hb h⟩⟩
/-- a new block -/
def Fc.box (B : Nat) (T : TypeId) (z : Array Value) : Fc := ⟨fun v w => ∃ b, v = .pointer (some ⟨b, 0, none⟩) ∧ B ≤ b ∧ Box w b T z, fun _ _ _ hb ⟨b, e, h1, h2⟩ => ⟨b, e, h1, h2.belowS hb⟩⟩

/-- nothing of a disk lies in a block that holds no string -/
theorem Dk.notBox {w : World} {V : Nat → Prop} {A B : Option Addr} {n c m e b : Nat} {d : Disk} {T : TypeId} {vs : Array Value} (h : Dk w V A n c B m e d) (hB : Box w b T vs) (hs : ∀ (i : Nat) (s : ByteArray), vs[i]? ≠ some (Value.string s)) : Dk w (fun x => V x ∧ x ≠ b) A n c B m e d := by
  have key : ∀ (a : Addr) s, w.cell? a = some (.string s) → a.block ≠ b := by
    intro a s hc e
    unfold Box at hB
    subst e
    simp only [World.cell?, hB] at hc
    split at hc
    · cases hc
    · exact hs _ _ hc
  refine ⟨⟨h.sS.1, fun hn => ?_⟩, ⟨h.sW.1, fun hm => ?_⟩, h.nle, h.mle, h.cle, h.ele, h.hi⟩
  · obtain ⟨a, e, hv, hx, hc⟩ := h.sS.2 hn
    obtain ⟨a', s, e', _, hc'⟩ := h.sec hn
    obtain rfl : a = a' := Option.some.inj (e.symm.trans e')
    exact ⟨a, e, ⟨hv, key _ _ hc'⟩, hx, hc⟩
  · obtain ⟨a, e, hv, hx, hc⟩ := h.sW.2 hm
    obtain ⟨a', x, e', _, _, hc'⟩ := h.wr hm
    obtain rfl : a = a' := Option.some.inj (e.symm.trans e')
    have hk := key _ _ hc'
    exact ⟨a, e, ⟨hv, hk⟩, hx, hc⟩

end Go.Proofs.YtojincohnjophaaGreatDoor

/-! The walks of layer 19: Free; the reference's Fits; Same. (merged: SlotA SlotB) -/
/-! The walks of layer 19's first functions: used, Fits. -/
namespace Go.Proofs.YtojincohnjophaaGreatDoor
open Go.RowKit
set_option linter.unusedVariables false

def octs (ss : List ByteArray) : List (List UInt8) := ss.map oct
theorem octs_append (a b : List ByteArray) : octs (a ++ b) = octs a ++ octs b := by simp [octs]
theorem octs_length (a : List ByteArray) : (octs a).length = a.length := by simp [octs]
theorem octs_nil : octs [] = [] := rfl
theorem octs_cons (s : ByteArray) (l : List ByteArray) : octs (s :: l) = oct s :: octs l := rfl


theorem sumLen_take_succ (ss : List ByteArray) (k : Nat) (s : ByteArray) (h : ss[k]? = some s) :
    SlotP.sumLen (octs (ss.take (k + 1))) = SlotP.sumLen (octs (ss.take k)) + s.size := by
  have h1 : k < ss.length := (List.getElem?_eq_some_iff.1 h).1
  have h2 : ss[k] = s := (List.getElem?_eq_some_iff.1 h).2
  rw [List.take_succ_eq_append_getElem h1, octs_append, SlotP.sumLen_append, h2, octs_cons, octs_nil, SlotP.sumLen_cons, SlotP.sumLen_nil, oct_length]
  rfl

theorem sumLen_take_le (ss : List ByteArray) (k : Nat) : SlotP.sumLen (octs (ss.take k)) ≤ SlotP.sumLen (octs ss) := by
  have : octs ss = octs (ss.take k) ++ octs (ss.drop k) := by rw [← octs_append, List.take_append_drop]
  rw [this, SlotP.sumLen_append]; omega

set_option maxHeartbeats 400000 in
theorem used_any (A : Option Addr) (n c : Nat) (ss : List ByteArray) (V : Nat → Prop) (w : World) (h : Sl w V 1 A n (strs ss)) (hn : n ≤ 100000) (hs : SlotP.sumLen (octs ss) ≤ 1000000000) :
    Calls Tryz.prog 25 #[.slice A n c] w fun e w' => e = .returned (.int .i64 (SlotP.used (octs ss) : Nat)) ∧ w = w' := by
  have hlen : ss.length = n := h.len
  have HL := hide hlen
  clear hlen
  go_enter Tryz.func25, Tryz.ntmps25
  go_wp2
  go_loop [3, 12] (fun v i => ∃ k : Nat, k ≤ n ∧ i = .int .i64 k ∧ v = .int .i64 ((2 + 2 * n + SlotP.sumLen (octs (ss.take k)) : Nat) : Int)) (fun _ i => n - (intOf i).toNat)
  case atStart => exact ⟨0, Nat.zero_le _, rfl, by simp [octs_nil, SlotP.sumLen_nil]⟩
  case round =>
    obtain ⟨k, hk, rfl, rfl⟩ := hrel
    by_cases hlt : k < n
    · obtain ⟨a, s, hA, hsk, hc⟩ := h.str hlt
      subst hA
      have h1 := sumLen_take_succ ss k s hsk
      have h2 := sumLen_take_le ss (k + 1)
      have hsz : (SlotP.sumLen (octs (ss.take k)) : Int) + s.size ≤ 1000000000 := by omega
      have H1 := hide h1
      clear h1 h2 hsk h
      go_wp2
      go_round
      case rel => exact ⟨k + 1, by omega, by go_num, by rw [H1.out]; go_num⟩
      case measure => simp [intOf]; omega
    · have hkn : k = n := by omega
      subst hkn
      go_wp2
      go_ret
      refine ⟨ret_int ?_, rfl⟩
      have e : ss.take k = ss := List.take_of_length_le (by have := HL.out; omega)
      have := HL.out
      rw [e]
      simp only [SlotP.used, octs_length]
      omega

def AllLe (ss : List ByteArray) (k : Nat) : Prop := ∀ s ∈ ss.take k, s.size ≤ 1000
theorem allLe_zero (ss : List ByteArray) : AllLe ss 0 := by intro s hs; simp at hs
theorem allLe_succ {ss : List ByteArray} {k : Nat} {s : ByteArray} (h : AllLe ss k) (hs : ss[k]? = some s) (hl : (s.size : Int) ≤ 1000) : AllLe ss (k + 1) := by
  have h1 : k < ss.length := (List.getElem?_eq_some_iff.1 hs).1
  have h2 : ss[k] = s := (List.getElem?_eq_some_iff.1 hs).2
  intro x hx
  rw [List.take_succ_eq_append_getElem h1, h2] at hx
  rcases List.mem_append.1 hx with hx | hx
  · exact h x hx
  · simp at hx; subst hx; omega
theorem mem_octs {ss : List ByteArray} {c : List UInt8} : c ∈ octs ss ↔ ∃ s ∈ ss, oct s = c := by simp [octs]
theorem fits_far (ss : List ByteArray) (h : 40 < ss.length) : SlotP.fits (octs ss) = false := by
  rw [Bool.eq_false_iff]; intro hf
  have := ((SlotP.fits_iff _).1 hf).1
  rw [octs_length] at this; omega
theorem fits_long (ss : List ByteArray) (k : Nat) (s : ByteArray) (hs : ss[k]? = some s) (h : 1000 < (s.size : Int)) : SlotP.fits (octs ss) = false := by
  rw [Bool.eq_false_iff]; intro hf
  have := ((SlotP.fits_iff _).1 hf).2.1 (oct s) (mem_octs.2 ⟨s, List.mem_of_getElem? hs, rfl⟩)
  rw [oct_length] at this; omega
theorem sumLen_le (ss : List ByteArray) (b : Nat) (h : ∀ s ∈ ss, s.size ≤ b) : SlotP.sumLen (octs ss) ≤ b * ss.length := by
  induction ss with
  | nil => simp [octs_nil, SlotP.sumLen_nil]
  | cons s ss ih =>
    have := ih (fun x hx => h x (by simp [hx]))
    have h2 := h s (by simp)
    rw [octs_cons, SlotP.sumLen_cons, oct_length, List.length_cons, Nat.mul_add]
    omega
theorem fits_used (ss : List ByteArray) (h40 : ss.length ≤ 40) (h : AllLe ss ss.length) : SlotP.fits (octs ss) = decide (((SlotP.used (octs ss) : Nat) : Int) ≤ 1024) := by
  rw [Bool.eq_iff_iff, SlotP.fits_iff, octs_length]
  simp only [decide_eq_true_eq]
  constructor
  · rintro ⟨_, _, c⟩; omega
  · intro c
    refine ⟨h40, ?_, by omega⟩
    intro c hc
    obtain ⟨s, hs, rfl⟩ := mem_octs.1 hc
    rw [oct_length]
    exact h s (by rw [List.take_length]; exact hs)

set_option maxHeartbeats 400000 in
theorem fits_any (A : Option Addr) (n c : Nat) (ss : List ByteArray) (V : Nat → Prop) (w : World) (h : Sl w V 1 A n (strs ss)) (hn : n ≤ 9223372036854775807) :
    Calls Tryz.prog 23 #[.slice A n c] w fun e w' => e = .returned (.bool (SlotP.fits (octs ss))) ∧ w = w' := by
  have hlen : ss.length = n := h.len
  by_cases h40 : 40 < n
  · have hf := fits_far ss (by omega)
    have HF := hide hf
    clear hf hlen
    go_enter Tryz.func23, Tryz.ntmps23
    go_wp2
    go_ret
    exact ⟨by rw [HF.out]; rfl, rfl⟩
  have HL := hide hlen
  clear hlen
  go_enter Tryz.func23, Tryz.ntmps23
  go_wp2
  go_loop [10] (fun i => ∃ k : Nat, k ≤ n ∧ i = .int .i64 k ∧ AllLe ss k) (fun i => n - (intOf i).toNat)
  case atStart => exact ⟨0, Nat.zero_le _, rfl, allLe_zero ss⟩
  case round =>
    obtain ⟨k, hk, rfl, hall⟩ := hrel
    by_cases hlt : k < n
    · obtain ⟨a, s, hA, hsk, hc⟩ := h.str hlt
      subst hA
      have HS := hide hsk
      clear hsk h
      by_cases hl : 1000 < (s.size : Int)
      · go_wp2
        go_ret
        exact ⟨by rw [fits_long ss k s HS.out hl]; rfl, rfl⟩
      · go_wp2
        go_round
        case rel => exact ⟨k + 1, by omega, by go_num, allLe_succ hall HS.out (by omega)⟩
        case measure => simp [intOf]; omega
    · have hkn : k = n := by omega
      subst hkn
      have hsum : SlotP.sumLen (octs ss) ≤ 1000 * ss.length := sumLen_le ss 1000 (fun s hs => hall s (by rw [List.take_of_length_le (by have := HL.out; omega)]; exact hs))
      rw [HL.out] at hsum
      go_wp2_with (go_at_call 25; refine (used_any A k c ss V _ h (by omega) (by omega)).mono ?_; rintro e w' ⟨rfl, rfl⟩)
      go_ret
      have hlen := HL.out
      refine ⟨ret_bool ?_, rfl⟩
      rw [fits_used ss (by omega) (by rw [hlen]; exact hall)]

end Go.Proofs.YtojincohnjophaaGreatDoor

/-! The walks of layer 19: Free; the reference's Fits; Same. -/
namespace Go.Proofs.YtojincohnjophaaGreatDoor
open Go.RowKit
set_option linter.unusedVariables false

/-! ### Same -/
theorem same_len {a b : List ByteArray} (h : a.length ≠ b.length) : decide (octs a = octs b) = false := by
  simp only [decide_eq_false_iff_not]
  intro e
  exact h (by rw [← octs_length a, e, octs_length])
theorem octs_inj {a b : List ByteArray} (h : octs a = octs b) : a = b := by
  induction a generalizing b with
  | nil => cases b with
    | nil => rfl
    | cons y b => simp [octs] at h
  | cons x a ih => cases b with
    | nil => simp [octs] at h
    | cons y b =>
      rw [octs_cons, octs_cons] at h
      injection h with h1 h2
      rw [oct_inj h1, ih h2]
theorem same_at {a b : List ByteArray} {k : Nat} {s t : ByteArray} (ha : a[k]? = some s) (hb : b[k]? = some t) (h : oct s ≠ oct t) : decide (octs a = octs b) = false := by
  simp only [decide_eq_false_iff_not]
  intro e
  rw [octs_inj e, hb] at ha
  injection ha with ha
  exact h (by rw [ha])
def SameTo (a b : List ByteArray) (k : Nat) : Prop := ∀ j, j < k → a[j]? = b[j]?
theorem sameTo_zero (a b : List ByteArray) : SameTo a b 0 := fun j h => absurd h (by omega)
theorem sameTo_succ {a b : List ByteArray} {k : Nat} {s t : ByteArray} (h : SameTo a b k) (ha : a[k]? = some s) (hb : b[k]? = some t) (e : oct s = oct t) : SameTo a b (k + 1) := by
  intro j hj
  rcases Nat.lt_or_ge j k with h1 | h1
  · exact h j h1
  · obtain rfl : j = k := by omega
    rw [ha, hb, oct_inj e]
theorem sameTo_all {a b : List ByteArray} {k : Nat} (h : SameTo a b k) (ha : a.length = k) (hb : b.length = k) : a = b := by
  refine List.ext_getElem? fun j => ?_
  rcases Nat.lt_or_ge j k with h1 | h1
  · exact h j h1
  · rw [List.getElem?_eq_none (by omega), List.getElem?_eq_none (by omega)]

set_option maxHeartbeats 800000 in
theorem same_any (A B : Option Addr) (n m c d : Nat) (ss ts : List ByteArray) (V U : Nat → Prop) (w : World) (h : Sl w V 1 A n (strs ss)) (g : Sl w U 1 B m (strs ts)) (hn : n ≤ 9223372036854775807) :
    Calls Tryz.prog 7 #[.slice A n c, .slice B m d] w fun e w' => e = .returned (.bool (decide (octs ss = octs ts))) ∧ ∃ q, w' = w.drewN q := by
  have hl := h.len
  have gl := g.len
  by_cases hnm : n = m
  · subst hnm
    have HL := hide hl
    have GL := hide gl
    clear hl gl
    have hne : ((n : Int) != n) = false := by simp
    go_enter Tryz.func7, Tryz.ntmps7
    go_wp2
    go_loopw [5] (fun i wr => ∃ k : Nat, k ≤ n ∧ i = .int .i64 k ∧ SameTo ss ts k ∧ ∃ q, wr = w.drewN q) (fun i _ => n - (intOf i).toNat)
    case atStart => exact ⟨0, Nat.zero_le _, rfl, sameTo_zero _ _, 0, rfl⟩
    case round =>
      obtain ⟨k, hk, rfl, hs, q, rfl⟩ := hrel
      by_cases hlt : k < n
      · obtain ⟨a, s, hA, hsk, hc⟩ := h.str hlt
        obtain ⟨b, t, hB, htk, hd⟩ := g.str hlt
        subst hA
        subst hB
        have HS := hide hsk
        have HT := hide htk
        clear hsk htk h g
        have hi0 : (0 : Int) ≤ (k : Int) := by omega
        have hi1 : (k : Int) < (n : Int) := by omega
        go_wp2
        go_quiet (fail)
        go_wp2
        · have hne' : (!s.toList == t.toList) = true := by assumption
          have hne2 : oct s ≠ oct t := by
            intro e
            have e2 : s.toList = t.toList := by rw [ByteArray.toList_eq, ByteArray.toList_eq]; exact e
            rw [e2] at hne'; simp at hne'
          go_ret
          exact ⟨by rw [same_at HS.out HT.out hne2]; rfl, drewN_some⟩
        · have he : (!s.toList == t.toList) = false := by assumption
          have he2 : oct s = oct t := by
            have e2 : s.toList = t.toList := by simpa using he
            rw [ByteArray.toList_eq, ByteArray.toList_eq] at e2; exact e2
          go_roundw
          case rel => exact ⟨k + 1, by omega, by go_num, sameTo_succ hs HS.out HT.out he2, _, rfl⟩
          case measure => simp [intOf]; omega
      · have hkn : k = n := by omega
        subst hkn
        have e : ss = ts := sameTo_all hs HL.out GL.out
        have E := hide e
        clear e
        go_wp2
        go_ret
        exact ⟨ret_bool (by rw [E.out]; simp), _, rfl⟩
  · have hne : ((n : Int) != m) = true := by simp; omega
    have hf := same_len (a := ss) (b := ts) (by omega)
    have HF := hide hf
    clear hf hl gl hnm
    go_enter Tryz.func7, Tryz.ntmps7
    go_wp2
    go_ret
    exact ⟨by rw [HF.out]; rfl, 0, rfl⟩

/-! ### The reference's Fits -/
/-! ### many, few -/
end Go.Proofs.YtojincohnjophaaGreatDoor

/-! The walk of layer 18's examples. -/
namespace Go.Proofs.YtojincohnjophaaGreatDoor
open Go.RowKit
open DiskP (Bytes Disk Wr Fate noughts)
open LogP (Log zeroL Live okL)
set_option linter.unusedVariables false

theorem Box.far4 {w : World} {b c : Nat} {T : TypeId} {vs : Array Value} {u0 u1 u2 u3 : Value} (h : Box w b T vs) (hc : c ≠ b) : Box ((((w.setCell ⟨c, 0, none⟩ u0).setCell ⟨c, 1, none⟩ u1).setCell ⟨c, 2, none⟩ u2).setCell ⟨c, 3, none⟩ u3) b T vs :=
  (((h.other (a := ⟨c, 0, none⟩) hc u0).other (a := ⟨c, 1, none⟩) hc u1).other (a := ⟨c, 2, none⟩) hc u2).other (a := ⟨c, 3, none⟩) hc u3
/-- a block of ints, slices and truths holds no string -/
theorem noStr_log {z0 z1 z2 z3 : Int} : ∀ (i : Nat) (s : ByteArray), (#[Value.int .i64 z0, .int .i64 z1, .int .i64 z2, .int .i64 z3] : Array Value)[i]? ≠ some (Value.string s) := by
  intro i s h
  rcases i with _ | _ | _ | _ | i <;> simp at h
theorem noStr_disk {A B : Option Addr} {n c m e : Nat} {lf : Int} {dd : Bool} : ∀ (i : Nat) (s : ByteArray), (#[Value.slice A n c, .slice B m e, .int .i64 lf, .bool dd] : Array Value)[i]? ≠ some (Value.string s) := by
  intro i s h
  rcases i with _ | _ | _ | _ | i <;> simp at h

end Go.Proofs.YtojincohnjophaaGreatDoor
