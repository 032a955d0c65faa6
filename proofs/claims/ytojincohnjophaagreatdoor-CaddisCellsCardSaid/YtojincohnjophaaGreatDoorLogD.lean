/- The walk of layer 18's Append. -/
import Derived.Test.YtojincohnjophaaGreatDoorLogC
import Derived.Deep.DeepCutAuto
import Derived.Deep.CutBlock
import Derived.Deep.RegionHeld3
namespace Go.Proofs.YtojincohnjophaaGreatDoor
open Go.RowKit
open DiskP (Bytes Disk Wr Fate noughts)
open LogP (Log zeroL Live okL)
set_option linter.unusedVariables false

/-! ### What steps leave may be -/

theorem put_ok_may {d : Disk} {i : Int} {s : Bytes} (hm : DiskP.may d = true) (h : (DiskP.put d i s).2 = 0) : DiskP.may (DiskP.put d i s).1 = true ∧ (DiskP.put d i s).1.W.length ≤ d.W.length + s.length / 128 ∧ (DiskP.put d i s).1.S.length = d.S.length := by
  have h0 : ¬ (DiskP.may d = false || s.length == 0 || s.length % 128 != 0) = true := by
    intro e; rw [DiskP.put, if_pos e] at h; cases h
  have h1 : ¬ DiskP.there d i ((s.length / 128 : Nat) : Int) = false := by
    intro e; rw [DiskP.put, if_neg h0, if_pos e] at h; cases h
  have hs : s.length ≠ 0 ∧ s.length % 128 = 0 := by
    simp [hm] at h0
    constructor
    · intro e; exact h0.1 (List.eq_nil_of_length_eq_zero e)
    · omega
  have ht : DiskP.there d i ((s.length / 128 : Nat) : Int) = true := by simpa using h1
  have ht' := ht
  simp only [DiskP.there, Bool.and_eq_true, decide_eq_true_eq] at ht'
  obtain ⟨⟨⟨t1, t2⟩, t3⟩, t4⟩ := ht'
  obtain ⟨i', rfl⟩ := Int.eq_ofNat_of_zero_le t1
  have hk : s.length = 128 * (s.length / 128) := by omega
  cases hd : d.dead with
  | true =>
    rw [put_go hm hs.1 hs.2 ht, show s.length / 128 = (s.length / 128 - 1) + 1 by omega, DiskP.putGo, if_pos (by simp [DiskP.alive, hd])] at h
    cases h
  | false =>
    have hL : Live d.S.length d := ⟨hm, rfl, hd⟩
    rcases LogP.put_cases hL hk (by omega) (i := i') (by omega) with ⟨lf, e1, l1, _⟩ | ⟨_, ws, tl, lf, e1, _⟩
    · rw [e1]
      have hw := hL.put (ws := LogP.writes i' (LogP.chunks s (s.length / 128))) l1 (fun w hw => by
        obtain ⟨q1, q2, q3⟩ := LogP.writes_ok (tl := []) hk (by rw [List.append_nil]) w hw
        exact ⟨by omega, by omega, q3⟩) false
      refine ⟨hw, ?_, rfl⟩
      have hwl : ∀ (l : List Bytes) (i : Nat), (LogP.writes i l).length = l.length := by
        intro l
        induction l with
        | nil => intro i; rfl
        | cons c l ih => intro i; rw [LogP.writes, List.length_cons, ih, List.length_cons]
      show (d.W ++ LogP.writes i' (LogP.chunks s (s.length / 128))).length ≤ _
      rw [List.length_append, hwl, LogP.chunks_len]
      exact Nat.le_refl _
    · rw [e1] at h; cases h
theorem barrier_ok_may {d : Disk} (hm : DiskP.may d = true) (h : (DiskP.barrier d).2 = 0) : DiskP.may (DiskP.barrier d).1 = true ∧ (DiskP.barrier d).1.W = [] ∧ (DiskP.barrier d).1.S.length = d.S.length := by
  cases hd : d.dead with
  | true =>
    rw [DiskP.barrier, hm, if_neg (by simp), if_pos (by simp [DiskP.alive, hd])] at h
    cases h
  | false =>
    have hL : Live d.S.length d := ⟨hm, rfl, hd⟩
    rcases LogP.barrier_cases hL with ⟨lf, e1, l1, _⟩ | ⟨_, e1⟩
    · rw [e1]
      exact ⟨(hL.barrier l1).may, rfl, hL.done_len⟩
    · rw [e1] at h; cases h

/-- the steps of an append -/
def apSteps (b1 b2 b3 b4 : Nat) (l : Log) (s : ByteArray) : List St :=
  [.put b1 b2 (l.frm + l.at_ + 1) (mkB (LogP.restB (oct s) ++ noughts 128)), .bar, .put b3 b4 (l.frm + l.at_) (mkB (LogP.firstB (oct s) l.seq)), .bar]
theorem apSteps_run (b1 b2 b3 b4 : Nat) (d : Disk) (l : Log) (s : ByteArray) (h1 : ¬ 4000 < s.size) (h2 : ¬ l.len < LogP.secs s.size + 1 + l.at_) :
    LogP.appendP d l (oct s) = (if (LogP.runP d ((apSteps b1 b2 b3 b4 l s).map stF)).2 = 0 then ((LogP.runP d ((apSteps b1 b2 b3 b4 l s).map stF)).1, ⟨l.frm, l.len, l.at_ + LogP.secs s.size, l.seq + 1⟩, 0) else ((LogP.runP d ((apSteps b1 b2 b3 b4 l s).map stF)).1, zeroL, (LogP.runP d ((apSteps b1 b2 b3 b4 l s).map stF)).2)) := by
  have e : (apSteps b1 b2 b3 b4 l s).map stF = [fun d => DiskP.put d ((l.frm + l.at_ + 1 : Nat) : Int) (LogP.restB (oct s) ++ noughts 128), DiskP.barrier, fun d => DiskP.put d ((l.frm + l.at_ : Nat) : Int) (LogP.firstB (oct s) l.seq), DiskP.barrier] := by
    simp [apSteps, stF, oct_mkB]
  rw [e, LogP.appendP, if_neg (by rw [oct_length]; exact h1), if_neg (by rw [oct_length]; exact h2), oct_length]
theorem apSteps_ok (b1 b2 b3 b4 : Nat) (d : Disk) (l : Log) (s : ByteArray) (hm : DiskP.may d = true) (hw : d.W.length ≤ 800000000) (hs : s.size ≤ 4000) : RunOK d (apSteps b1 b2 b3 b4 l s) := by
  have hl : (LogP.restB (oct s) ++ noughts 128).length ≤ 10000 := by
    rw [List.length_append, LogP.restB_len (by rw [oct_length]; exact hs), LogP.noughts_len]
    have := LogP.secs_le (oct s).length
    omega
  refine ⟨hm, by omega, fun h1 => ?_⟩
  have q1 : (DiskP.put d ((l.frm + l.at_ + 1 : Nat) : Int) (oct (mkB (LogP.restB (oct s) ++ noughts 128)))).2 = 0 := h1
  have p1 := put_ok_may hm q1
  refine ⟨p1.1, ?_, fun h2 => ?_⟩
  · have := p1.2.1
    rw [oct_mkB] at this
    have h3 : (stF (.put b1 b2 (l.frm + l.at_ + 1) (mkB (LogP.restB (oct s) ++ noughts 128))) d).1.W.length ≤ d.W.length + (LogP.restB (oct s) ++ noughts 128).length / 128 := by
      simp only [stF, oct_mkB]; exact this
    omega
  · have p2 := barrier_ok_may p1.1 h2
    refine ⟨p2.1, ?_, fun h3 => ?_⟩
    · have h4 : (stF .bar (stF (.put b1 b2 (l.frm + l.at_ + 1) (mkB (LogP.restB (oct s) ++ noughts 128))) d).1).1.W = [] := p2.2.1
      rw [h4]; simp
    · have q3 : (DiskP.put _ ((l.frm + l.at_ : Nat) : Int) (oct (mkB (LogP.firstB (oct s) l.seq)))).2 = 0 := h3
      have p3 := put_ok_may p2.1 q3
      refine ⟨p3.1, ?_, fun _ => trivial⟩
      have h4 := p3.2.1
      have h5 : (oct (mkB (LogP.firstB (oct s) l.seq))).length = 128 := by rw [oct_mkB, LogP.firstB_len]
      rw [p2.2.1, h5] at h4
      exact Nat.le_trans h4 (by simp)

/-! ### Append -/

theorem sl_lit (w : World) (cs : Array Value) (T : TypeId) {n : Nat} (hn : cs.size = n) (hm : n ≤ 1000000) : Sl (w.alloc (.cells cs T)) (fun _ => True) 1 (some ⟨w.heap.size, 0, none⟩) n cs.toList :=
  (Sl.of_own (World.ownsRow_lit (base := 0) (e := T) (size := 1) w cs n (Nat.zero_le _) (by simp only [maxLen]; omega) (by omega))).any
theorem ap_boxes {w4 w5 : World} {b1 b2 b3 b4 : Nat} {l : Log} {s : ByteArray} (k1 : stBox w4 (.put b1 b2 (l.frm + l.at_ + 1) (mkB (LogP.restB (oct s) ++ noughts 128)))) (k3 : stBox w5 (.put b3 b4 (l.frm + l.at_) (mkB (LogP.firstB (oct s) l.seq)))) (hb : Below w4.heap.size w4 w5) (o : Obj) :
    ∀ st ∈ apSteps b1 b2 b3 b4 l s, stBox (w5.alloc o) st := by
  intro st hst
  simp only [apSteps, List.mem_cons, List.not_mem_nil, or_false] at hst
  rcases hst with rfl | rfl | rfl | rfl
  · exact (k1.keep (B := 0) fun b h => hb.block b h).keep (B := 0) fun b h => Below.heap_alloc _ _ _ h
  · trivial
  · exact k3.keep (B := 0) fun b h => Below.heap_alloc _ _ _ h
  · trivial

/-- what Append's four steps leave -/
def ApR (w0 : World) (b : Nat) (V : Nat → Prop) (l : Log) (R : Disk × Nat) (ev : Value) (wc : World) : Prop :=
  ev = .int .i64 (R.2 : Nat) ∧ ∃ A n c B m e, Box wc b 54 #[.slice A n c, .slice B m e, .int .i64 R.1.left, .bool R.1.dead] ∧ Dk wc (fun x => V x ∨ b + 4 ≤ x) A n c B m e R.1 ∧
    Box wc (b + 1) 82 #[.int .i64 (l.frm : Nat), .int .i64 (l.len : Nat), .int .i64 (l.at_ : Nat), .int .i64 (l.seq : Nat)] ∧ Box wc (b + 1 + 1) 54 #[.slice none 0 0, .slice none 0 0, .int .i64 0, .bool false] ∧
    Box wc (b + 1 + 1 + 1) 82 #[.int .i64 0, .int .i64 0, .int .i64 0, .int .i64 0] ∧ Below b w0 wc

set_option maxRecDepth 100000 in
set_option maxHeartbeats 6400000 in
theorem append_any (A : Option Addr) (n c : Nat) (B : Option Addr) (m e : Nat) (d : Disk) (V : Nat → Prop) (l : Log) (s : ByteArray) (w : World) (h : Dk w V A n c B m e d) (hok : okL d l) (hmm : m ≤ 800000000) (hs : s.size ≤ 1000000) :
    Calls Tryz.prog 32 #[dkv A n c B m e d.left d.dead, lgv l, .string s] w fun q w' => ∃ v, q = .returned (.tuple #[v, lgv (LogP.appendP d l (oct s)).2.1, .int .i64 ((LogP.appendP d l (oct s)).2.2 : Nat)]) ∧ DkV w' (fun b => V b ∨ w.heap.size ≤ b) v (LogP.appendP d l (oct s)).1 ∧ Below w.heap.size w w' := by
  have hlm := fun w1 hD => lmay_any A n c B m e d V l w1 hD hok
  have hm := hok.1
  obtain ⟨_, k1, k2, k3, k4, k5⟩ := hok
  rw [h.len] at k1
  have hnle := h.nle
  unfold LogP.maxSeq at k5
  obtain ⟨frm, len, at_, seq⟩ := l
  simp only at k1 k2 k3 k4 k5
  unfold lgv at hlm
  simp only at hlm
  have hb1 : Below w.heap.size w (w.alloc (.cells #[.slice A n c, .slice B m e, .int .i64 d.left, .bool d.dead] 54)) := (Below.refl _ _).alloc (Nat.le_refl _) _
  have hb2 := hb1.alloc hb1.size (.cells #[.int .i64 (frm : Nat), .int .i64 (len : Nat), .int .i64 (at_ : Nat), .int .i64 (seq : Nat)] 82)
  have hb3 := hb2.alloc hb2.size (.cells #[.slice none 0 0, .slice none 0 0, .int .i64 0, .bool false] 54)
  have hb4 := hb3.alloc hb3.size (.cells #[.int .i64 0, .int .i64 0, .int .i64 0, .int .i64 0] 82)
  have kA := (((Box.new w 54 #[.slice A n c, .slice B m e, .int .i64 d.left, .bool d.dead]).up (.cells #[.int .i64 (frm : Nat), .int .i64 (len : Nat), .int .i64 (at_ : Nat), .int .i64 (seq : Nat)] 82)).up (.cells #[.slice none 0 0, .slice none 0 0, .int .i64 0, .bool false] 54)).up (.cells #[.int .i64 0, .int .i64 0, .int .i64 0, .int .i64 0] 82)
  have kB := ((Box.new (w.alloc (.cells #[.slice A n c, .slice B m e, .int .i64 d.left, .bool d.dead] 54)) 82 #[.int .i64 (frm : Nat), .int .i64 (len : Nat), .int .i64 (at_ : Nat), .int .i64 (seq : Nat)]).up (.cells #[.slice none 0 0, .slice none 0 0, .int .i64 0, .bool false] 54)).up (.cells #[.int .i64 0, .int .i64 0, .int .i64 0, .int .i64 0] 82)
  have kC := (Box.new ((w.alloc (.cells #[.slice A n c, .slice B m e, .int .i64 d.left, .bool d.dead] 54)).alloc (.cells #[.int .i64 (frm : Nat), .int .i64 (len : Nat), .int .i64 (at_ : Nat), .int .i64 (seq : Nat)] 82)) 54 #[.slice none 0 0, .slice none 0 0, .int .i64 0, .bool false]).up (.cells #[.int .i64 0, .int .i64 0, .int .i64 0, .int .i64 0] 82)
  have kD := Box.new (((w.alloc (.cells #[.slice A n c, .slice B m e, .int .i64 d.left, .bool d.dead] 54)).alloc (.cells #[.int .i64 (frm : Nat), .int .i64 (len : Nat), .int .i64 (at_ : Nat), .int .i64 (seq : Nat)] 82)).alloc (.cells #[.slice none 0 0, .slice none 0 0, .int .i64 0, .bool false] 54)) 82 #[.int .i64 0, .int .i64 0, .int .i64 0, .int .i64 0]
  simp only [World.size_alloc] at kB kC kD
  clear hb1 hb2 hb3
  obtain ⟨lf, hlf⟩ : ∃ lf, lf = d.left := ⟨_, rfl⟩
  obtain ⟨dd, hdd⟩ : ∃ dd, dd = d.dead := ⟨_, rfl⟩
  have HLM := hide (hlm _ (h.below hb4))
  clear hlm
  unfold lgv
  simp only
  by_cases h4 : 4000 < s.size
  · have hR : LogP.appendP d ⟨frm, len, at_, seq⟩ (oct s) = (DiskP.zero, zeroL, 1) := by rw [LogP.appendP, if_pos (by rw [oct_length]; exact h4)]
    rw [hR]
    have hm' := HLM.out
    rw [← hlf, ← hdd] at kA kB kC kD hb4 hm' ⊢
    have HM := hide hm'
    have hbig : (4000 : Int) < s.size := by omega
    clear HLM hm' hlf hdd hR
    go_enter Tryz.func32, Tryz.ntmps32
    go_wp2_with fail
    refine HM.out.mono ?_
    rintro q w1 ⟨rfl, hb1⟩
    have kB1 := kB.belowS hb1
    have kC1 := kC.belowS hb1
    have kD1 := kD.belowS hb1
    have hbw1 := hb4.trans (hb1.mono hb4.size)
    obtain ⟨q0, q1, q2, q3⟩ := kC1.cell4
    have qf0 := kC1.frozen 0
    have qf1 := kC1.frozen 1
    have qf2 := kC1.frozen 2
    have qf3 := kC1.frozen 3
    obtain ⟨r0, r1, r2, r3⟩ := kD1.cell4
    have rf0 := kD1.frozen 0
    have rf1 := kD1.frozen 1
    have rf2 := kD1.frozen 2
    have rf3 := kD1.frozen 3
    go_wp2_with fail
    have kF := (((((kC1.set4 (u0 := .slice none 0 0) (u1 := .slice none 0 0) (u2 := .int .i64 0) (u3 := .bool false)).other (a := ⟨w.heap.size + 1 + 1 + 1, 0, none⟩) (by simp) (.int .i64 0)).other (a := ⟨w.heap.size + 1 + 1 + 1, 1, none⟩) (by simp) (.int .i64 0)).other (a := ⟨w.heap.size + 1 + 1 + 1, 2, none⟩) (by simp) (.int .i64 0)).other (a := ⟨w.heap.size + 1 + 1 + 1, 3, none⟩) (by simp) (.int .i64 0))
    have kG := (((((kD1.other (a := ⟨w.heap.size + 1 + 1, 0, none⟩) (by simp) (.slice none 0 0)).other (a := ⟨w.heap.size + 1 + 1, 1, none⟩) (by simp) (.slice none 0 0)).other (a := ⟨w.heap.size + 1 + 1, 2, none⟩) (by simp) (.int .i64 0)).other (a := ⟨w.heap.size + 1 + 1, 3, none⟩) (by simp) (.bool false)).set4 (u0 := .int .i64 0) (u1 := .int .i64 0) (u2 := .int .i64 0) (u3 := .int .i64 0))
    have hbF := below_set4 (b := w.heap.size + 1 + 1 + 1) (u0 := .int .i64 0) (u1 := .int .i64 0) (u2 := .int .i64 0) (u3 := .int .i64 0) (below_set4 (b := w.heap.size + 1 + 1) (u0 := .slice none 0 0) (u1 := .slice none 0 0) (u2 := .int .i64 0) (u3 := .bool false) hbw1 (by omega)) (by omega)
    obtain ⟨s0, s1, s2, s3⟩ := kF.cell4
    obtain ⟨t0, t1, t2, t3⟩ := kG.cell4
    refine bodyPost_ret (v := .tuple #[.agg #[.slice none 0 0, .slice none 0 0, .int .i64 0, .bool false], .agg #[.int .i64 0, .int .i64 0, .int .i64 0, .int .i64 0], .int .i64 1]) (by simp [results, Tryz.results32, go_sem, s0, s1, s2, s3, t0, t1, t2, t3]) rfl ⟨_, rfl, dkv_zero _ _, hbF⟩
  · have hz4 : (s.size : Int) ≤ 4000 := by omega
    have hsec := fun w => sectors_any s.size w (by omega)
    have hsl := LogP.secs_le s.size
    obtain ⟨sc, hsc⟩ : ∃ sc, sc = LogP.secs s.size := ⟨_, rfl⟩
    rw [← hsc] at hsec hsl
    have HSEC := hide hsec
    have HSC := hide hsc
    clear hsec hsc
    by_cases hf : len < sc + 1 + at_
    · have hR : LogP.appendP d ⟨frm, len, at_, seq⟩ (oct s) = (DiskP.zero, zeroL, 13) := by rw [LogP.appendP, if_neg (by rw [oct_length]; exact h4), oct_length, ← HSC.out, if_pos hf]
      rw [hR]
      have hm' := HLM.out
      rw [← hlf, ← hdd] at kA kB kC kD hb4 hm' ⊢
      have HM := hide hm'
      have hfull : (len : Int) - (at_ : Int) < (sc : Int) + 1 := by omega
      clear HLM hm' hlf hdd hR
      go_enter Tryz.func32, Tryz.ntmps32
      go_wp2_with fail
      refine HM.out.mono ?_
      rintro q w1 ⟨rfl, hb1⟩
      have kB1 := kB.belowS hb1
      have kC1 := kC.belowS hb1
      have kD1 := kD.belowS hb1
      have hbw1 := hb4.trans (hb1.mono hb4.size)
      obtain ⟨p0, p1, p2, p3⟩ := kB1.cell4
      obtain ⟨q0, q1, q2, q3⟩ := kC1.cell4
      have qf0 := kC1.frozen 0
      have qf1 := kC1.frozen 1
      have qf2 := kC1.frozen 2
      have qf3 := kC1.frozen 3
      obtain ⟨r0, r1, r2, r3⟩ := kD1.cell4
      have rf0 := kD1.frozen 0
      have rf1 := kD1.frozen 1
      have rf2 := kD1.frozen 2
      have rf3 := kD1.frozen 3
      go_wp2_with fail
      refine (HSEC.out _).mono ?_
      rintro q w2 ⟨rfl, rfl⟩
      go_wp2_with fail
      have kF := (((((kC1.set4 (u0 := .slice none 0 0) (u1 := .slice none 0 0) (u2 := .int .i64 0) (u3 := .bool false)).other (a := ⟨w.heap.size + 1 + 1 + 1, 0, none⟩) (by simp) (.int .i64 0)).other (a := ⟨w.heap.size + 1 + 1 + 1, 1, none⟩) (by simp) (.int .i64 0)).other (a := ⟨w.heap.size + 1 + 1 + 1, 2, none⟩) (by simp) (.int .i64 0)).other (a := ⟨w.heap.size + 1 + 1 + 1, 3, none⟩) (by simp) (.int .i64 0))
      have kG := (((((kD1.other (a := ⟨w.heap.size + 1 + 1, 0, none⟩) (by simp) (.slice none 0 0)).other (a := ⟨w.heap.size + 1 + 1, 1, none⟩) (by simp) (.slice none 0 0)).other (a := ⟨w.heap.size + 1 + 1, 2, none⟩) (by simp) (.int .i64 0)).other (a := ⟨w.heap.size + 1 + 1, 3, none⟩) (by simp) (.bool false)).set4 (u0 := .int .i64 0) (u1 := .int .i64 0) (u2 := .int .i64 0) (u3 := .int .i64 0))
      have hbF := below_set4 (b := w.heap.size + 1 + 1 + 1) (u0 := .int .i64 0) (u1 := .int .i64 0) (u2 := .int .i64 0) (u3 := .int .i64 0) (below_set4 (b := w.heap.size + 1 + 1) (u0 := .slice none 0 0) (u1 := .slice none 0 0) (u2 := .int .i64 0) (u3 := .bool false) hbw1 (by omega)) (by omega)
      obtain ⟨s0, s1, s2, s3⟩ := kF.cell4
      obtain ⟨t0, t1, t2, t3⟩ := kG.cell4
      refine bodyPost_ret (v := .tuple #[.agg #[.slice none 0 0, .slice none 0 0, .int .i64 0, .bool false], .agg #[.int .i64 0, .int .i64 0, .int .i64 0, .int .i64 0], .int .i64 13]) (by simp [results, Tryz.results32, go_sem, s0, s1, s2, s3, t0, t1, t2, t3]) rfl ⟨_, rfl, dkv_zero _ _, hbF⟩
    · have hRR := fun b1 b2 b3 b4 => apSteps_run b1 b2 b3 b4 d ⟨frm, len, at_, seq⟩ s h4 (by rw [← HSC.out]; exact hf)
      have hwl := h.wlen
      have hn4 : n ≤ 4000 := by have := ((DiskP.may_iff d).1 hm).2.1; rw [h.len] at this; exact this
      have hok := fun b1 b2 b3 b4 => apSteps_ok b1 b2 b3 b4 d ⟨frm, len, at_, seq⟩ s hm (by omega) (by omega)
      have hrun := fun b1 b2 b3 b4 F fc w1 hD hl hb => run_any A n c B m e d (fun x => V x ∧ x < w.heap.size) F 4 fc (apSteps b1 b2 b3 b4 ⟨frm, len, at_, seq⟩ s) w1 hD hl hb (hok b1 b2 b3 b4) (by omega)
      have hls := fun w => lsectors_any s seq w (by omega) (by omega)
      obtain ⟨FB, hFB⟩ : ∃ FB, FB = mkB (LogP.firstB (oct s) seq) := ⟨_, rfl⟩
      obtain ⟨GB, hGB⟩ : ∃ GB, GB = mkB (LogP.restB (oct s)) := ⟨_, rfl⟩
      have hFz : FB.size = 128 := by rw [hFB, mkB_size, LogP.firstB_len]
      have hGz : GB.size ≤ 4000 := by rw [hGB, mkB_size, LogP.restB_len (by rw [oct_length]; omega), oct_length, ← HSC.out]; omega
      obtain ⟨ZB, hZB⟩ : ∃ ZB, ZB = mkB (noughts 128) := ⟨_, rfl⟩
      have hZz : ZB.size = 128 := by rw [hZB, mkB_size, LogP.noughts_len]
      have hpad := fun w => padded_any ⟨#[]⟩ 128 w (by decide) (by omega)
      rw [show mkB (LogP.padded (oct ⟨#[]⟩) 128) = ZB from hZB.symm] at hpad
      have hGZ : GB ++ ZB = mkB (LogP.restB (oct s) ++ noughts 128) := by rw [hGB, hZB, mkB_append]
      rw [← hFB, ← hGB] at hls
      obtain ⟨RR, hRd⟩ : ∃ RR, RR = LogP.runP d ((apSteps 0 0 0 0 ⟨frm, len, at_, seq⟩ s).map stF) := ⟨_, rfl⟩
      have hRe : ∀ b1 b2 b3 b4, (apSteps b1 b2 b3 b4 ⟨frm, len, at_, seq⟩ s).map stF = (apSteps 0 0 0 0 ⟨frm, len, at_, seq⟩ s).map stF := fun _ _ _ _ => rfl
      have hRR0 := hRR 0 0 0 0
      rw [← hRd, ← HSC.out] at hRR0
      obtain ⟨Y, hY⟩ : ∃ Y, Y = LogP.appendP d ⟨frm, len, at_, seq⟩ (oct s) := ⟨_, rfl⟩
      rw [← hY] at hRR0 ⊢
      have hY0 : RR.2 = 0 → Y = (RR.1, ⟨frm, len, at_ + sc, seq + 1⟩, 0) := fun e => by rw [hRR0, if_pos e]
      have hY1 : RR.2 ≠ 0 → Y = (RR.1, zeroL, RR.2) := fun e => by rw [hRR0, if_neg e]
      have HY0 := hide hY0
      have HY1 := hide hY1
      clear hY hY0 hY1
      have hrun2 : ∀ b1 b2 b3 b4 F fc w1, Dk w1 (fun x => V x ∧ x < w.heap.size) A n c B m e d → Sl w1 (fun _ => True) 1 F 4 ((apSteps b1 b2 b3 b4 ⟨frm, len, at_, seq⟩ s).map stV) → (∀ st ∈ apSteps b1 b2 b3 b4 ⟨frm, len, at_, seq⟩ s, stBox w1 st) →
          Calls Tryz.prog 65 #[dkv A n c B m e d.left d.dead, .slice F 4 fc] w1 fun q w' => ∃ v, q = .returned (.tuple #[v, .int .i64 (RR.2 : Nat)]) ∧ DkV w' (fun b => (V b ∧ b < w.heap.size) ∨ w1.heap.size ≤ b) v RR.1 ∧ Below w1.heap.size w1 w' := fun b1 b2 b3 b4 F fc w1 q1 q2 q3 => by
        have := hrun b1 b2 b3 b4 F fc w1 q1 q2 q3
        rw [hRe, ← hRd] at this
        exact this
      have hm' := HLM.out
      rw [← hlf, ← hdd] at kA kB kC kD hb4 hm' hrun2 ⊢
      have HM := hide hm'
      have HRUN := hide hrun2
      have HLS := hide hls
      have HPAD := hide hpad
      have HGZ := hide hGZ
      have HFB := hide hFB
      clear HLM hm' hlf hdd hRR hRR0 hRe hRd hok hrun hrun2 hls hpad hGZ hFB hGB hZB
      have hfull : ¬ (len : Int) - (at_ : Int) < (sc : Int) + 1 := by omega
      go_enter Tryz.func32, Tryz.ntmps32
      go_wp2_with fail
      refine HM.out.mono ?_
      rintro q w1 ⟨rfl, hb1⟩
      have kA1 := kA.belowS hb1
      have kB1 := kB.belowS hb1
      have kC1 := kC.belowS hb1
      have kD1 := kD.belowS hb1
      have hbw1 := hb4.trans (hb1.mono hb4.size)
      obtain ⟨p0, p1, p2, p3⟩ := kB1.cell4
      obtain ⟨a0, a1, a2, a3⟩ := kA1.cell4
      go_wp2_with fail
      refine (HSEC.out _).mono ?_
      rintro q w2 ⟨rfl, rfl⟩
      go_wp2_with fail
      refine (HLS.out _).mono ?_
      rintro q w2 ⟨rfl, hb2⟩
      clear p0 p1 p2 p3 a0 a1 a2 a3
      have kA2 := kA1.belowS hb2
      have kB2 := kB1.belowS hb2
      have kC2 := kC1.belowS hb2
      have kD2 := kD1.belowS hb2
      have hbw2 := hbw1.trans (hb2.mono hbw1.size)
      have hlt2 := kD2.lt
      obtain ⟨p0, p1, p2, p3⟩ := kB2.cell4
      obtain ⟨a0, a1, a2, a3⟩ := kA2.cell4
      have af0 := kA2.frozen 0
      have af1 := kA2.frozen 1
      have af2 := kA2.frozen 2
      have af3 := kA2.frozen 3
      go_wp2_with fail
      have hfp1 : ∀ w1, Calls Tryz.prog 66 #[.int .i64 ((frm : Int) + (at_ : Int) + 1), .string (GB ++ ZB)] w1 fun q w' => ∃ b1 b2, q = .returned (.func (.func 98) #[] #[.pointer (some ⟨b1, 0, none⟩), .pointer (some ⟨b2, 0, none⟩)]) ∧ stBox w' (.put b1 b2 (frm + at_ + 1) (mkB (LogP.restB (oct s) ++ noughts 128))) ∧ Below w1.heap.size w1 w' := fun w1 => by
        have e : ((frm + at_ + 1 : Nat) : Int) = (frm : Int) + (at_ : Int) + 1 := by omega
        rw [← e, HGZ.out]
        exact (fput_any (frm + at_ + 1) (mkB (LogP.restB (oct s) ++ noughts 128)) w1).mono fun q w' ⟨b1, b2, h1, h2, h3, _, _, h6⟩ => ⟨b1, b2, h1, ⟨h2, h3, by omega, by rw [← HGZ.out]; simp; omega⟩, h6⟩
      have hfp2 : ∀ w1, Calls Tryz.prog 66 #[.int .i64 ((frm : Int) + (at_ : Int)), .string FB] w1 fun q w' => ∃ b1 b2, q = .returned (.func (.func 98) #[] #[.pointer (some ⟨b1, 0, none⟩), .pointer (some ⟨b2, 0, none⟩)]) ∧ stBox w' (.put b1 b2 (frm + at_) (mkB (LogP.firstB (oct s) seq))) ∧ Below w1.heap.size w1 w' := fun w1 => by
        have e : ((frm + at_ : Nat) : Int) = (frm : Int) + (at_ : Int) := by omega
        rw [← e, HFB.out]
        exact (fput_any (frm + at_) (mkB (LogP.firstB (oct s) seq)) w1).mono fun q w' ⟨b1, b2, h1, h2, h3, _, _, h6⟩ => ⟨b1, b2, h1, ⟨h2, h3, by omega, by rw [← HFB.out]; omega⟩, h6⟩
      have HP1 := hide hfp1
      have HP2 := hide hfp2
      clear hfp1 hfp2
      have z1 : ¬ 9223372036854775807 < GB.size + 128 := by omega
      have e1 : IntKind.i64.wrap ((frm : Int) + (at_ : Int) + 1) = (frm : Int) + (at_ : Int) + 1 := IntWalk.i64_in _ (by omega)
      go_cut [13] from 50 to 64 (fun ev wc => ApR w w.heap.size (fun x => V x ∧ x < w.heap.size) ⟨frm, len, at_, seq⟩ RR ev wc)
      case first =>
        refine wp_region_noPanic ?_
        go_region_law (first
          | ((with_reducible refine at_slot 55 ?_); go_simp; go_at_call 67; refine (HPAD.out _).mono ?_; rintro r w3 ⟨rfl, hb3⟩; have hq3 := (Below.refl w2.heap.size w2).drew.trans hb3; have kA3 := kA2.belowS hq3; obtain ⟨c0, c1, c2, c3⟩ := kA3.cell4)
          | ((with_reducible refine at_slot 57 ?_); go_simp; go_at_call 66; refine (HP1.out _).mono ?_; rintro r w4 ⟨b1, b2, rfl, kb1, hb4'⟩; have hq4 := hq3.trans (hb4'.mono hq3.size); have kA4 := kA2.belowS hq4; obtain ⟨g0, g1, g2, g3⟩ := kA4.cell4)
          | ((with_reducible refine at_slot 60 ?_); go_simp; go_at_call 66; refine (HP2.out _).mono ?_; rintro r w5 ⟨b3, b4, rfl, kb3, hb5⟩; have hq5 := hq4.trans (hb5.mono hq4.size); have kA5 := kA2.belowS hq5; have hlt5 := kA5.lt; obtain ⟨i0, i1, i2, i3⟩ := kA5.cell4)
          | ((with_reducible refine at_slot 62 ?_); go_simp; go_at_call 65; have hq5a := hq5.alloc hq5.size (.cells #[.func (.func 98) #[] #[.pointer (some ⟨b1, 0, none⟩), .pointer (some ⟨b2, 0, none⟩)], .func (.func 61) #[] #[], .func (.func 98) #[] #[.pointer (some ⟨b3, 0, none⟩), .pointer (some ⟨b4, 0, none⟩)], .func (.func 61) #[] #[]] 140); refine (HRUN.out b1 b2 b3 b4 _ 4 _ (h.lt'.below (hbw2.trans (hq5a.mono hbw2.size))) (sl_lit w5 _ _ rfl (by decide)) (ap_boxes kb1 kb3 hb5 _)).mono ?_; rintro r w6 ⟨v, rfl, ⟨A6, n6, c6, B6, m6, e6, rfl, hD6⟩, hb6⟩; have hq6 := hq5a.trans (hb6.mono hq5a.size); have kA6 := kA2.belowS hq6; have kB6 := kB2.belowS hq6; have kC6 := kC2.belowS hq6; have kD6 := kD2.belowS hq6; have hlt6 := kD6.lt; have hz5 := hq5a.size; clear a0 a1 a2 a3 af0 af1 af2 af3; obtain ⟨a0, a1, a2, a3⟩ := kA6.cell4; have af0 := kA6.frozen 0; have af1 := kA6.frozen 1; have af2 := kA6.frozen 2; have af3 := kA6.frozen 3))
        all_goals have hbw6 := hbw2.trans (hq6.mono hbw2.size)
        all_goals refine NoPanic.normal ?_
        all_goals go_wp2_with fail
        all_goals go_meet
        all_goals exact ⟨rfl, A6, n6, c6, B6, m6, e6, kA6.set4, (hD6.set4 fun x hx => by omega).mono fun x hx => hx.elim .inl fun h => .inr (by omega), (((kB6.other (by simp) _).other (by simp) _).other (by simp) _).other (by simp) _, (((kC6.other (by simp <;> omega) _).other (by simp <;> omega) _).other (by simp <;> omega) _).other (by simp <;> omega) _, (((kD6.other (by simp <;> omega) _).other (by simp <;> omega) _).other (by simp <;> omega) _).other (by simp <;> omega) _, below_set4 hbw6 (Nat.le_refl _)⟩
      case rest =>
        obtain ⟨rfl, A6, n6, c6, B6, m6, e6, kA6, hD6, kB6, kC6, kD6, hb6⟩ := hcut
        rename World => wc
        clear a0 a1 a2 a3 af0 af1 af2 af3 p0 p1 p2 p3 e1 z1 hFz hGz hZz HP1 HP2 HRUN HPAD HLS HGZ HFB HM HSEC kA kB kC kD kB1 kC1 kD1 kA1 kA2 kB2 kC2 kD2
        obtain ⟨lf6, hlf6⟩ : ∃ lf, lf = RR.1.left := ⟨_, rfl⟩
        obtain ⟨dd6, hdd6⟩ : ∃ dd, dd = RR.1.dead := ⟨_, rfl⟩
        obtain ⟨ev, hev⟩ : ∃ ev, ev = RR.2 := ⟨_, rfl⟩
        rw [← hlf6, ← hdd6] at kA6
        rw [← hev]
        have hlt6 := kD6.lt
        have HD6 := hide hD6
        have HLF := hide hlf6
        have HDD := hide hdd6
        have HEV := hide hev
        clear hD6 hlf6 hdd6 hev
        obtain ⟨a0, a1, a2, a3⟩ := kA6.cell4
        obtain ⟨p0, p1, p2, p3⟩ := kB6.cell4
        obtain ⟨q0, q1, q2, q3⟩ := kC6.cell4
        have qf0 := kC6.frozen 0
        have qf1 := kC6.frozen 1
        have qf2 := kC6.frozen 2
        have qf3 := kC6.frozen 3
        obtain ⟨r0, r1, r2, r3⟩ := kD6.cell4
        have rf0 := kD6.frozen 0
        have rf1 := kD6.frozen 1
        have rf2 := kD6.frozen 2
        have rf3 := kD6.frozen 3
        by_cases he : ev = 0
        · have HE := hide he
          have hev0 : ((ev : Nat) : Int) = 0 := by omega
          clear he
          have pf2 := kB6.frozen 2
          have pf3 := kB6.frozen 3
          have hltB : w.heap.size + 1 < wc.heap.size := kB6.lt
          go_wp2_with fail
          have kA7 := ((kA6.other (a := ⟨w.heap.size + 1, 2, none⟩) (by simp <;> omega) (.int .i64 ((at_ : Int) + (sc : Int)))).other (a := ⟨w.heap.size + 1, 3, none⟩) (by simp <;> omega) (.int .i64 ((seq : Int) + 1)))
          have kB7 := (kB6.set 2 (.int .i64 ((at_ : Int) + (sc : Int)))).set 3 (.int .i64 ((seq : Int) + 1))
          have kC7 := ((kC6.other (a := ⟨w.heap.size + 1, 2, none⟩) (by simp <;> omega) (.int .i64 ((at_ : Int) + (sc : Int)))).other (a := ⟨w.heap.size + 1, 3, none⟩) (by simp <;> omega) (.int .i64 ((seq : Int) + 1)))
          have kD7 := ((kD6.other (a := ⟨w.heap.size + 1, 2, none⟩) (by simp <;> omega) (.int .i64 ((at_ : Int) + (sc : Int)))).other (a := ⟨w.heap.size + 1, 3, none⟩) (by simp <;> omega) (.int .i64 ((seq : Int) + 1)))
          have hb7 := (hb6.setCell (p := ⟨w.heap.size + 1, 2, none⟩) (by simp <;> omega) (.int .i64 ((at_ : Int) + (sc : Int)))).setCell (p := ⟨w.heap.size + 1, 3, none⟩) (by simp <;> omega) (.int .i64 ((seq : Int) + 1))
          have HD7 : Hid (Dk ((wc.setCell ⟨w.heap.size + 1, 2, none⟩ (.int .i64 ((at_ : Int) + (sc : Int)))).setCell ⟨w.heap.size + 1, 3, none⟩ (.int .i64 ((seq : Int) + 1))) _ _ _ _ _ _ _ _) := HD6.out.keep (by simp) fun x hx _ => by rw [Below.heap_setCell _ _ _ _ (by simp <;> omega), Below.heap_setCell _ _ _ _ (by simp <;> omega)]
          clear a0 a1 a2 a3 p0 p1 p2 p3 pf2 pf3 q0 q1 q2 q3 qf0 qf1 qf2 qf3 r0 r1 r2 r3 rf0 rf1 rf2 rf3
          obtain ⟨a0, a1, a2, a3⟩ := kA7.cell4
          obtain ⟨p0, p1, p2, p3⟩ := kB7.cell4
          obtain ⟨q0, q1, q2, q3⟩ := kC7.cell4
          have qf0 := kC7.frozen 0
          have qf1 := kC7.frozen 1
          have qf2 := kC7.frozen 2
          have qf3 := kC7.frozen 3
          obtain ⟨r0, r1, r2, r3⟩ := kD7.cell4
          have rf0 := kD7.frozen 0
          have rf1 := kD7.frozen 1
          have rf2 := kD7.frozen 2
          have rf3 := kD7.frozen 3
          go_region_law (fail)
          all_goals go_wp2_with fail
          all_goals
            have hYY := HY0.out (by rw [← HEV.out]; exact HE.out)
            have kF := (((((kC7.set4 (u0 := .slice A6 n6 c6) (u1 := .slice B6 m6 e6) (u2 := .int .i64 lf6) (u3 := .bool dd6)).other (a := ⟨w.heap.size + 1 + 1 + 1, 0, none⟩) (by simp) (.int .i64 (frm : Nat))).other (a := ⟨w.heap.size + 1 + 1 + 1, 1, none⟩) (by simp) (.int .i64 (len : Nat))).other (a := ⟨w.heap.size + 1 + 1 + 1, 2, none⟩) (by simp) (.int .i64 ((at_ : Int) + (sc : Int)))).other (a := ⟨w.heap.size + 1 + 1 + 1, 3, none⟩) (by simp) (.int .i64 ((seq : Int) + 1)))
            have kG := (((((kD7.other (a := ⟨w.heap.size + 1 + 1, 0, none⟩) (by simp) (.slice A6 n6 c6)).other (a := ⟨w.heap.size + 1 + 1, 1, none⟩) (by simp) (.slice B6 m6 e6)).other (a := ⟨w.heap.size + 1 + 1, 2, none⟩) (by simp) (.int .i64 lf6)).other (a := ⟨w.heap.size + 1 + 1, 3, none⟩) (by simp) (.bool dd6)).set4 (u0 := .int .i64 (frm : Nat)) (u1 := .int .i64 (len : Nat)) (u2 := .int .i64 ((at_ : Int) + (sc : Int))) (u3 := .int .i64 ((seq : Int) + 1)))
            have hbF := below_set4 (b := w.heap.size + 1 + 1 + 1) (u0 := .int .i64 (frm : Nat)) (u1 := .int .i64 (len : Nat)) (u2 := .int .i64 ((at_ : Int) + (sc : Int))) (u3 := .int .i64 ((seq : Int) + 1)) (below_set4 (b := w.heap.size + 1 + 1) (u0 := .slice A6 n6 c6) (u1 := .slice B6 m6 e6) (u2 := .int .i64 lf6) (u3 := .bool dd6) hb7 (by omega)) (by omega)
            obtain ⟨s0, s1, s2, s3⟩ := kF.drew.cell4
            obtain ⟨t0, t1, t2, t3⟩ := kG.drew.cell4
            refine bodyPost_ret (v := .tuple #[.agg #[.slice A6 n6 c6, .slice B6 m6 e6, .int .i64 lf6, .bool dd6], .agg #[.int .i64 (frm : Nat), .int .i64 (len : Nat), .int .i64 ((at_ : Int) + (sc : Int)), .int .i64 ((seq : Int) + 1)], .int .i64 0]) (by simp [results, Tryz.results32, go_sem, s0, s1, s2, s3, t0, t1, t2, t3]) rfl ⟨.agg #[.slice A6 n6 c6, .slice B6 m6 e6, .int .i64 lf6, .bool dd6], by rw [hYY]; simp only [Int.natCast_add]; rfl, ?_, hbF.drew⟩
            rw [hYY]
            refine ⟨_, _, _, _, _, _, by rw [HLF.out, HDD.out], ?_⟩
            have hq := HD7.out.set4 (b := w.heap.size + 1 + 1) (u0 := .slice A6 n6 c6) (u1 := .slice B6 m6 e6) (u2 := .int .i64 lf6) (u3 := .bool dd6) fun x hx => by omega
            have hq2 := hq.set4 (b := w.heap.size + 1 + 1 + 1) (u0 := .int .i64 (frm : Nat)) (u1 := .int .i64 (len : Nat)) (u2 := .int .i64 ((at_ : Int) + (sc : Int))) (u3 := .int .i64 ((seq : Int) + 1)) fun x hx => by omega
            exact (hq2.below ((Below.refl _ _).drew)).mono fun x hx => hx.elim (fun h => .inl h.1) fun h => .inr (by omega)
        · have hne : ((ev : Int) != 0) = true := by rw [bne_iff_ne]; omega
          have HNE := hide he
          clear he
          go_wp2_with fail
          have hYY := HY1.out (by rw [← HEV.out]; exact HNE.out)
          have kF := (((((kC6.set4 (u0 := .slice A6 n6 c6) (u1 := .slice B6 m6 e6) (u2 := .int .i64 lf6) (u3 := .bool dd6)).other (a := ⟨w.heap.size + 1 + 1 + 1, 0, none⟩) (by simp) (.int .i64 0)).other (a := ⟨w.heap.size + 1 + 1 + 1, 1, none⟩) (by simp) (.int .i64 0)).other (a := ⟨w.heap.size + 1 + 1 + 1, 2, none⟩) (by simp) (.int .i64 0)).other (a := ⟨w.heap.size + 1 + 1 + 1, 3, none⟩) (by simp) (.int .i64 0))
          have kG := (((((kD6.other (a := ⟨w.heap.size + 1 + 1, 0, none⟩) (by simp) (.slice A6 n6 c6)).other (a := ⟨w.heap.size + 1 + 1, 1, none⟩) (by simp) (.slice B6 m6 e6)).other (a := ⟨w.heap.size + 1 + 1, 2, none⟩) (by simp) (.int .i64 lf6)).other (a := ⟨w.heap.size + 1 + 1, 3, none⟩) (by simp) (.bool dd6)).set4 (u0 := .int .i64 0) (u1 := .int .i64 0) (u2 := .int .i64 0) (u3 := .int .i64 0))
          have hbF := below_set4 (b := w.heap.size + 1 + 1 + 1) (u0 := .int .i64 0) (u1 := .int .i64 0) (u2 := .int .i64 0) (u3 := .int .i64 0) (below_set4 (b := w.heap.size + 1 + 1) (u0 := .slice A6 n6 c6) (u1 := .slice B6 m6 e6) (u2 := .int .i64 lf6) (u3 := .bool dd6) hb6 (by omega)) (by omega)
          obtain ⟨s0, s1, s2, s3⟩ := kF.cell4
          obtain ⟨t0, t1, t2, t3⟩ := kG.cell4
          refine bodyPost_ret (v := .tuple #[.agg #[.slice A6 n6 c6, .slice B6 m6 e6, .int .i64 lf6, .bool dd6], .agg #[.int .i64 0, .int .i64 0, .int .i64 0, .int .i64 0], .int .i64 (ev : Nat)]) (by simp [results, Tryz.results32, go_sem, s0, s1, s2, s3, t0, t1, t2, t3]) rfl ⟨.agg #[.slice A6 n6 c6, .slice B6 m6 e6, .int .i64 lf6, .bool dd6], by rw [hYY, HEV.out]; rfl, ?_, hbF⟩
          rw [hYY]
          refine ⟨_, _, _, _, _, _, by rw [HLF.out, HDD.out], ?_⟩
          have hq := HD6.out.set4 (b := w.heap.size + 1 + 1) (u0 := .slice A6 n6 c6) (u1 := .slice B6 m6 e6) (u2 := .int .i64 lf6) (u3 := .bool dd6) fun x hx => by omega
          have hq2 := hq.set4 (b := w.heap.size + 1 + 1 + 1) (u0 := .int .i64 0) (u1 := .int .i64 0) (u2 := .int .i64 0) (u3 := .int .i64 0) fun x hx => by omega
          exact hq2.mono fun x hx => hx.elim (fun h => .inl h.1) fun h => .inr (by omega)
end Go.Proofs.YtojincohnjophaaGreatDoor
