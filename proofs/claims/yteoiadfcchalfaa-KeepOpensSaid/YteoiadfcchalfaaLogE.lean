/- The walk of layer 18's Scan. -/
import Derived.Test.YteoiadfcchalfaaLogD
import Derived.Deep.LoopGhost
namespace Go.Proofs.Yteoiadfcchalfaa
open Go.RowKit
open DiskP (Bytes Disk Wr Fate noughts)
open LogP (Log zeroL Live okL scanGo)
set_option linter.unusedVariables false

/-- an own list of texts -/
def OwnT (w : World) (base : Nat) (v : Value) (l : List Bytes) : Prop := w.ownsRow base 9 1 v l.length (secV l)
theorem OwnT.below {w w' : World} {base : Nat} {v : Value} {l : List Bytes} (h : OwnT w base v l) (hb : Below w.heap.size w w') : OwnT w' base v l := own_below h hb

theorem own_set_far {w : World} {base b : Nat} {v : Value} {l : List Bytes} {i j : Nat} {u u' : Value} (h : OwnT w base v l) (hb : b < base) : OwnT ((w.setCell ⟨b, i, none⟩ u).setCell ⟨b, j, none⟩ u').drew base v l :=
  (ownsRow_setCell_below (ownsRow_setCell_below h (a := ⟨b, i, none⟩) hb u) (a := ⟨b, j, none⟩) hb u').drew
/-- what stands ahead of Scan's round, k sectors ahead of the log's end -/
def ScanR (w0 : World) (b frm len : Nat) (all : Bytes) (R : List Bytes × Nat × Nat) (k : Nat) (v : Value) (wr : World) : Prop :=
  ∃ acc at_ q f, k = len - at_ ∧ at_ ≤ len ∧ len ≤ at_ + f ∧ acc.length ≤ at_ ∧ q ≤ 4611686018427387904 ∧ R = (acc ++ (scanGo all f at_ q).1, (scanGo all f at_ q).2) ∧
    Box wr (b + 1) 67 #[.int .i64 (frm : Nat), .int .i64 (len : Nat), .int .i64 (at_ : Nat), .int .i64 (q : Nat)] ∧ Box wr (b + 1 + 1) 67 #[.int .i64 0, .int .i64 0, .int .i64 0, .int .i64 0] ∧ OwnT wr (b + 3) v acc ∧ Below b w0 wr
/-- what stands behind Scan's loop -/
def ScanE (w0 : World) (b frm len : Nat) (R : List Bytes × Nat × Nat) (v : Value) (wr : World) : Prop :=
  ∃ v0, v0 = v ∧ Box wr (b + 1) 67 #[.int .i64 (frm : Nat), .int .i64 (len : Nat), .int .i64 (R.2.1 : Nat), .int .i64 (R.2.2 : Nat)] ∧ Box wr (b + 1 + 1) 67 #[.int .i64 0, .int .i64 0, .int .i64 0, .int .i64 0] ∧ OwnT wr (b + 3) v0 R.1 ∧ Below b w0 wr

theorem scan_stop {all : Bytes} {f at_ q : Nat} (h : LogP.maxSeq < q ∨ LogP.recordB (all.drop (128 * at_)) q = none) : scanGo all f at_ q = ([], at_, q) := by
  cases f with
  | zero => rfl
  | succ f =>
    rw [scanGo]
    split
    · rfl
    · rw [h.resolve_left (by assumption)]
theorem scan_go {all : Bytes} {f at_ q len : Nat} {s : Bytes} (h1 : ¬ LogP.maxSeq < q) (h : LogP.recordB (all.drop (128 * at_)) q = some s) (hl : all.length = 128 * len) (hf : len ≤ at_ + f) :
    ∃ g, f = g + 1 ∧ scanGo all f at_ q = (s :: (scanGo all g (at_ + LogP.secs s.length) (q + 1)).1, (scanGo all g (at_ + LogP.secs s.length) (q + 1)).2) ∧ at_ + LogP.secs s.length < len ∧ 1 ≤ LogP.secs s.length ∧ s.length ≤ 4000 := by
  obtain ⟨h2, h3, _⟩ := LogP.record_is h
  have h4 := LogP.secs_pos h2
  rw [List.length_drop, hl] at h3
  cases f with
  | zero => omega
  | succ g =>
    refine ⟨g, rfl, ?_, by omega, h4, h2⟩
    rw [scanGo, if_neg h1, h]

set_option maxRecDepth 100000 in
set_option maxHeartbeats 6400000 in
theorem scan_any (A : Option Addr) (n c : Nat) (B : Option Addr) (m e : Nat) (d : Disk) (V : Nat → Prop) (l : Log) (w : World) (h : Dk w V A n c B m e d) (hok : okL d l) :
    Calls Try.prog 47 #[dkv A n c B m e d.left d.dead, lgv l] w fun q w' => ∃ v, q = .returned (.tuple #[v, lgv (LogP.scanP d l).2.1, .int .i64 ((LogP.scanP d l).2.2 : Nat)]) ∧ OwnT w' w.heap.size v (LogP.scanP d l).1 ∧ Below w.heap.size w w' := by
  have hlm := fun w1 hD => lmay_any A n c B m e d V l w1 hD hok
  have hm := hok.1
  obtain ⟨_, k1, k2, k3, k4, k5⟩ := hok
  rw [h.len] at k1
  have hnle := h.nle
  have hn4 : n ≤ 4000 := by have := ((DiskP.may_iff d).1 hm).2.1; rw [h.len] at this; exact this
  unfold LogP.maxSeq at k5
  obtain ⟨frm, len, at_, seq⟩ := l
  simp only at k1 k2 k3 k4 k5
  unfold lgv at hlm
  simp only at hlm
  have hrd := fun w1 hD => read17_any A n c B m e d V frm len w1 hD hm k1
  have hb1 : Below w.heap.size w (w.alloc (.cells #[.slice A n c, .slice B m e, .int .i64 d.left, .bool d.dead] 50)) := (Below.refl _ _).alloc (Nat.le_refl _) _
  have hb2 := hb1.alloc hb1.size (.cells #[.int .i64 (frm : Nat), .int .i64 (len : Nat), .int .i64 (at_ : Nat), .int .i64 (seq : Nat)] 67)
  have hb4 := hb2.alloc hb2.size (.cells #[.int .i64 0, .int .i64 0, .int .i64 0, .int .i64 0] 67)
  have kA := ((Box.new w 50 #[.slice A n c, .slice B m e, .int .i64 d.left, .bool d.dead]).up (.cells #[.int .i64 (frm : Nat), .int .i64 (len : Nat), .int .i64 (at_ : Nat), .int .i64 (seq : Nat)] 67)).up (.cells #[.int .i64 0, .int .i64 0, .int .i64 0, .int .i64 0] 67)
  have kB := (Box.new (w.alloc (.cells #[.slice A n c, .slice B m e, .int .i64 d.left, .bool d.dead] 50)) 67 #[.int .i64 (frm : Nat), .int .i64 (len : Nat), .int .i64 (at_ : Nat), .int .i64 (seq : Nat)]).up (.cells #[.int .i64 0, .int .i64 0, .int .i64 0, .int .i64 0] 67)
  have kD := Box.new ((w.alloc (.cells #[.slice A n c, .slice B m e, .int .i64 d.left, .bool d.dead] 50)).alloc (.cells #[.int .i64 (frm : Nat), .int .i64 (len : Nat), .int .i64 (at_ : Nat), .int .i64 (seq : Nat)] 67)) 67 #[.int .i64 0, .int .i64 0, .int .i64 0, .int .i64 0]
  simp only [World.size_alloc] at kB kD
  clear hb1 hb2
  obtain ⟨lf, hlf⟩ : ∃ lf, lf = d.left := ⟨_, rfl⟩
  obtain ⟨dd, hdd⟩ : ∃ dd, dd = d.dead := ⟨_, rfl⟩
  have hlm' := hlm _ (h.below hb4)
  obtain ⟨Y, hY⟩ : ∃ Y, Y = LogP.scanP d ⟨frm, len, at_, seq⟩ := ⟨_, rfl⟩
  rw [← hY]
  have hY' := hY
  rw [LogP.scanP] at hY'
  simp only at hY'
  have ht : DiskP.there d (frm : Int) (len : Int) = true := by
    simp only [DiskP.there, Bool.and_eq_true, decide_eq_true_eq]
    rw [h.len]; omega
  unfold lgv
  simp only
  cases hd : d.dead with
  | true =>
    rw [read_dead hm ht hd] at hY' hrd
    rw [if_neg (by simp)] at hY'
    rw [hd] at hdd
    rw [← hlf, hd] at kA kB kD hb4 hlm' hrd
    rw [← hlf]
    have HM := hide hlm'
    have HRD := hide hrd
    have HY := hide hY'
    clear hlm hlm' hrd hY hY' hlf hdd ht hd
    go_enter Try.func47, Try.ntmps47
    go_wp2_with fail
    refine HM.out.mono ?_
    rintro q w1 ⟨rfl, hb1⟩
    have kA1 := kA.belowS hb1
    have kB1 := kB.belowS hb1
    have kD1 := kD.belowS hb1
    have hbw1 := hb4.trans (hb1.mono hb4.size)
    obtain ⟨a0, a1, a2, a3⟩ := kA1.cell4
    obtain ⟨p0, p1, p2, p3⟩ := kB1.cell4
    go_wp2_with fail
    refine (HRD.out _ (h.below hbw1)).mono ?_
    rintro q w2 ⟨rfl, hb2⟩
    have kD2 := kD1.belowS hb2
    have hbw2 := hbw1.trans (hb2.mono hbw1.size)
    clear a0 a1 a2 a3 p0 p1 p2 p3
    obtain ⟨q0, q1, q2, q3⟩ := kD2.cell4
    have f0 := kD2.frozen 0
    have f1 := kD2.frozen 1
    have f2 := kD2.frozen 2
    have f3 := kD2.frozen 3
    go_wp2_with fail
    have kF := kD2.set4 (u0 := .int .i64 0) (u1 := .int .i64 0) (u2 := .int .i64 0) (u3 := .int .i64 0)
    have hbF := below_set4 (b := w.heap.size + 1 + 1) (u0 := .int .i64 0) (u1 := .int .i64 0) (u2 := .int .i64 0) (u3 := .int .i64 0) hbw2 (by omega)
    obtain ⟨s0, s1, s2, s3⟩ := kF.cell4
    refine bodyPost_ret (v := .tuple #[.slice none 0 0, .agg #[.int .i64 0, .int .i64 0, .int .i64 0, .int .i64 0], .int .i64 14]) (by simp [results, Try.results47, go_sem, s0, s1, s2, s3]) rfl ⟨.slice none 0 0, by rw [HY.out]; rfl, by rw [HY.out]; exact World.ownsRow_nil _ _ _ _, hbF⟩
  | false =>
    have hdl : (DiskP.done d).length = n := by rw [DiskP.done, DiskP.doneGo_len, h.len]
    have hsz : ∀ s ∈ DiskP.done d, s.length = 128 := DiskP.doneGo_size d.W (fun w hw => (((DiskP.may_iff d).1 hm).2.2.2.2 w hw).2.2) d.S ((DiskP.may_iff d).1 hm).2.2.2.1
    rw [read_ok hm ht hd] at hY' hrd
    rw [if_pos rfl] at hY'
    rw [Int.toNat_natCast, Int.toNat_natCast] at hY' hrd
    obtain ⟨all, hall⟩ : ∃ all, all = (((DiskP.done d).drop frm).take len).flatten := ⟨_, rfl⟩
    have hal : all.length = 128 * len := by
      rw [hall, sized_flat fun s hs => hsz s (List.mem_of_mem_drop (List.mem_of_mem_take hs)), List.length_take, List.length_drop, hdl]
      omega
    rw [← hall] at hY' hrd
    simp only at hY'
    obtain ⟨R, hR⟩ : ∃ R, R = scanGo all len at_ seq := ⟨_, rfl⟩
    rw [← hR] at hY'
    rw [hd] at hdd
    rw [← hlf, hd] at kA kB kD hb4 hlm' hrd
    rw [← hlf]
    obtain ⟨sa, hsa⟩ : ∃ sa, sa = mkB all := ⟨_, rfl⟩
    have hsaz : sa.size = 128 * len := by rw [hsa, mkB_size, hal]
    have hosa : oct sa = all := by rw [hsa, oct_mkB]
    rw [← hsa] at hrd
    have HM := hide hlm'
    have HRD := hide hrd
    have HY := hide hY'
    have HR := hide hR
    have HAL := hide hal
    have HSAZ := hide hsaz
    have HOSA := hide hosa
    clear hlm hlm' hrd hY hY' hlf hdd ht hd hR hal hall hsaz hosa hdl hsz hsa
    go_enter Try.func47, Try.ntmps47
    go_wp2_with fail
    refine HM.out.mono ?_
    rintro q w1 ⟨rfl, hb1⟩
    have kA1 := kA.belowS hb1
    have kB1 := kB.belowS hb1
    have kD1 := kD.belowS hb1
    have hbw1 := hb4.trans (hb1.mono hb4.size)
    obtain ⟨a0, a1, a2, a3⟩ := kA1.cell4
    obtain ⟨p0, p1, p2, p3⟩ := kB1.cell4
    go_wp2_with fail
    refine (HRD.out _ (h.below hbw1)).mono ?_
    rintro q w2 ⟨rfl, hb2⟩
    have kB2 := kB1.belowS hb2
    have kD2 := kD1.belowS hb2
    have hbw2 := hbw1.trans (hb2.mono hbw1.size)
    have hlt2 := kD2.lt
    clear a0 a1 a2 a3 p0 p1 p2 p3
    go_upto_block 0 with (fail)
    go_cut [9] (fun v wc => ScanE w w.heap.size frm len R v wc)
    case first =>
      go_wp2_with fail
      go_loopg [9] (len - at_) (fun k v wr => ScanR w w.heap.size frm len all R k v wr)
      case atStart => exact ⟨[], at_, seq, len, rfl, by omega, by omega, Nat.zero_le _, by omega, by rw [HR.out]; rfl, kB2, kD2, World.ownsRow_nil _ _ _ _, hbw2⟩
      case round =>
        obtain ⟨acc, at1, q, f, hk, hat, hf, hacc, hq, hRR, kB3, kD3, how, hbr⟩ := hrel
        have HRR := hide hRR
        have HK := hide hk
        clear hRR hk kB1 kD1 kB2 kD2 hbw1 hbw2 hb1 hb2
        obtain ⟨p0, p1, p2, p3⟩ := kB3.cell4
        have hltB := kB3.lt
        have hltD := kD3.lt
        by_cases hmx : q ≤ 4611686018427387903
        · have hdq : decide ((q : Int) ≤ 4611686018427387903) = true := by simp; omega
          have hb8 : (at1 : Int) * 128 ≤ sa.size := by have := HSAZ.out; omega
          have hrec := fun w => record_any (sa.extract (at1 * 128) sa.size) q w (by have h1 := HSAZ.out; rw [← oct_length, oct_extract, List.length_take, List.length_drop, oct_length]; omega) (by omega)
          have hox : oct (sa.extract (at1 * 128) sa.size) = all.drop (128 * at1) := by
            rw [oct_extract, HOSA.out, List.take_of_length_le (by rw [List.length_drop, HAL.out, HSAZ.out]; omega), Nat.mul_comm]
          rw [hox] at hrec
          have e1 : IntKind.i64.wrap ((at1 : Int) * 128) = (at1 : Int) * 128 := IntWalk.i64_in _ (by omega)
          have e2 : ((at1 : Int) * 128).toNat = at1 * 128 := by omega
          have hb9 : (0 : Int) ≤ (at1 : Int) * 128 := by omega
          have HREC := hide hrec
          clear hrec hox
          go_wp2_with fail
          go_cut [10, 11] from 33 to 43 (fun sv bv wc => ∃ S, sv = .string S ∧ bv = .bool (LogP.recordB (all.drop (128 * at1)) q).isSome ∧ Hid (∀ t, LogP.recordB (all.drop (128 * at1)) q = some t → S = mkB t) ∧ Below wr.heap.size wr wc)
          case first =>
            refine wp_region_noPanic ?_
            go_region_law (go_simp; go_at_call 84; refine (HREC.out _).mono ?_; rintro r w4 ⟨S, rfl, hS, hb4'⟩; have HS := hide hS; clear hS)
            all_goals refine NoPanic.normal ?_
            all_goals (try simp only [Act.put, List.setIfInBounds_toArray])
            all_goals go_simp
            all_goals (try go_wp2_with fail)
            all_goals go_meet
            all_goals exact ⟨S, rfl, rfl, HS, (Below.refl _ wr).drew.trans hb4'⟩
          case rest =>
            obtain ⟨S, rfl, rfl, HS, hb5⟩ := hcut
            rename World => w5
            clear e1 e2 hb8 hb9 HREC p0 p1 p2 p3
            have kB5 := kB3.belowS hb5
            have kD5 := kD3.belowS hb5
            have hbr5 := hbr.trans (hb5.mono (by omega))
            have how5 := how.below hb5
            have hs5 := hb5.size
            cases hr : LogP.recordB (all.drop (128 * at1)) q with
            | none =>
              have hstop := scan_stop (all := all) (f := f) (at_ := at1) (q := q) (.inr hr)
              have hend : R = (acc, at1, q) := by rw [HRR.out, hstop, List.append_nil]
              have HEND := hide hend
              clear hstop hend hr HS
              go_wp2_with fail
              go_meet
              rw [HEND.out]
              exact ⟨_, rfl, kB5, kD5, how5, hbr5⟩
            | some t =>
              have hST := HS.out t hr
              obtain ⟨g, hfg, hgo, hlt1, hp1, ht4⟩ := scan_go (by unfold LogP.maxSeq; omega) hr HAL.out hf
              have hSz : S.size ≤ 4000 := by rw [hST, mkB_size]; exact ht4
              have hsec := fun w => sectors_any S.size w (by omega)
              have hSz2 : S.size = t.length := by rw [hST, mkB_size]
              rw [hSz2] at hsec
              obtain ⟨sc, hsc⟩ : ∃ sc, sc = LogP.secs t.length := ⟨_, rfl⟩
              rw [← hsc] at hsec hgo hlt1 hp1
              have HGO := hide hgo
              have HST := hide hST
              have HSC := hide hsc
              have HSEC := hide hsec
              have HFG := hide hfg
              have hSt : (S.size : Int) = t.length := by omega
              clear hST hgo hsc hsec hr hfg hSz2 HS
              go_wp2_with (at_builtin; refine wp_app_str rfl _ _ rfl (w.heap.size + 3) _ _ _ how5 rfl S rfl (by omega) (by omega) ?_; intro v6 w6 hA6)
              have hb6 := hA6.below how5 hbr5 (by omega) (by omega)
              have ho6 : OwnT w6 (w.heap.size + 3) v6 (acc ++ [t]) := by
                have := hA6.own
                rw [HST.out] at this
                show w6.ownsRow _ _ _ _ (acc ++ [t]).length (secV (acc ++ [t]))
                rw [List.length_append, List.length_singleton]
                have e : strs (acc.map mkB ++ [mkB t]) = secV (acc ++ [t]) := by simp [secV]
                rw [e] at this
                exact this
              have kB6 := kB5.at (w' := w6) (hA6.grown.block _ (by omega) (fun e => by have := (how5.lt _ e.symm).1; omega))
              have kD6 := kD5.at (w' := w6) (hA6.grown.block _ (by omega) (fun e => by have := (how5.lt _ e.symm).1; omega))
              have hs6 := hA6.grown.size
              clear hA6
              obtain ⟨p0, p1, p2, p3⟩ := kB6.cell4
              have pf2 := kB6.frozen 2
              have pf3 := kB6.frozen 3
              have e1 : IntKind.i64.wrap ((at1 : Int) + (sc : Int)) = (at1 : Int) + (sc : Int) := IntWalk.i64_in _ (by omega)
              have e2 : IntKind.i64.wrap ((q : Int) + 1) = (q : Int) + 1 := IntWalk.i64_in _ (by omega)
              go_region_law (go_simp; go_at_call 48; refine (HSEC.out _).mono ?_; rintro r w7 ⟨rfl, rfl⟩)
              all_goals (try simp only [Act.put, List.setIfInBounds_toArray, List.set_cons_zero, List.set_cons_succ])
              all_goals go_simp
              all_goals (try go_wp2_with fail)
              all_goals
                go_roundg (len - (at1 + sc))
                case measure => have := HK.out; omega
                case rel => exact ⟨acc ++ [t], at1 + sc, q + 1, g, rfl, by omega, by have := HFG.out; omega, by rw [List.length_append, List.length_singleton]; omega, by omega, by rw [HRR.out, HGO.out]; simp, by simp only [Int.natCast_add]; exact ((kB6.set 2 _).set 3 _).drew, ((kD6.other (by simp <;> omega) _).other (by simp <;> omega) _).drew, own_set_far ho6 (by omega), ((hb6.setCell (by simp <;> omega) _).setCell (by simp <;> omega) _).drew⟩
        · have hstop := scan_stop (all := all) (f := f) (at_ := at1) (q := q) (.inl (by unfold LogP.maxSeq; omega))
          have hend : R = (acc, at1, q) := by rw [HRR.out, hstop, List.append_nil]
          have HEND := hide hend
          clear hstop hend
          go_wp2_with fail
          go_meet
          rw [HEND.out]
          exact ⟨_, rfl, kB3, kD3, how, hbr⟩
    case rest =>
      obtain ⟨v, rfl, kB3, kD3, how, hb3⟩ := hcut
      rename World => wc
      have hlt3 := kD3.lt
      obtain ⟨p0, p1, p2, p3⟩ := kB3.cell4
      obtain ⟨q0, q1, q2, q3⟩ := kD3.cell4
      have f0 := kD3.frozen 0
      have f1 := kD3.frozen 1
      have f2 := kD3.frozen 2
      have f3 := kD3.frozen 3
      go_wp2_with fail
      go_region_law (fail)
      all_goals go_wp2_with fail
      all_goals
        have kF := (kD3.set4 (u0 := .int .i64 (frm : Nat)) (u1 := .int .i64 (len : Nat)) (u2 := .int .i64 (R.2.1 : Nat)) (u3 := .int .i64 (R.2.2 : Nat))).drew
        have hbF := (below_set4 (b := w.heap.size + 1 + 1) (u0 := .int .i64 (frm : Nat)) (u1 := .int .i64 (len : Nat)) (u2 := .int .i64 (R.2.1 : Nat)) (u3 := .int .i64 (R.2.2 : Nat)) hb3 (by omega)).drew
        obtain ⟨s0, s1, s2, s3⟩ := kF.cell4
        refine bodyPost_ret (v := .tuple #[v, .agg #[.int .i64 (frm : Nat), .int .i64 (len : Nat), .int .i64 (R.2.1 : Nat), .int .i64 (R.2.2 : Nat)], .int .i64 0]) (by simp [results, Try.results47, go_sem, s0, s1, s2, s3]) rfl ⟨v, by rw [HY.out]; rfl, ?_, hbF⟩
        rw [HY.out]
        exact own_mono (base := w.heap.size + 3) (own_keep (base := w.heap.size + 3) how fun b hb _ => set4_far (by omega)).drew (by omega)
end Go.Proofs.Yteoiadfcchalfaa
