/- The walks of layer 18's put and run: steps on a disk, one behind the other. -/
import Derived.Test.YtojincohnjophaaGreatDoorLogB
import Derived.Test.YtojincohnjophaaGreatDoorDiskG
namespace Go.Proofs.YtojincohnjophaaGreatDoor
open Go.RowKit
open DiskP (Bytes Disk Wr Fate)
set_option linter.unusedVariables false

/-- a step: so many octets are put from a sector on, or a barrier is set -/
inductive St where
  | put (b1 b2 : Nat) (i : Nat) (s : ByteArray)
  | bar
def stF : St → Disk → Disk × Nat
  | .put _ _ i s => fun d => DiskP.put d ((i : Nat) : Int) (oct s)
  | .bar => DiskP.barrier
def stV : St → Value
  | .put b1 b2 _ _ => .func (.func 98) #[] #[.pointer (some ⟨b1, 0, none⟩), .pointer (some ⟨b2, 0, none⟩)]
  | .bar => .func (.func 61) #[] #[]
def stBox (w : World) : St → Prop
  | .put b1 b2 i s => Box w b1 3 #[.int .i64 (i : Nat)] ∧ Box w b2 9 #[.string s] ∧ i ≤ 1000000 ∧ s.size ≤ 1000000
  | .bar => True
theorem stBox.keep {w w' : World} {B : Nat} {st : St} (h : stBox w st) (hk : ∀ b, b < w.heap.size → w'.heap[b]? = w.heap[b]?) : stBox w' st := by
  cases st with
  | put b1 b2 i s => exact ⟨h.1.at (hk _ h.1.lt), h.2.1.at (hk _ h.2.1.lt), h.2.2⟩
  | bar => trivial
/-- the disks on the way may be -/
def RunOK (d : Disk) : List St → Prop
  | [] => True
  | st :: l => DiskP.may d = true ∧ d.W.length ≤ 900000000 ∧ ((stF st d).2 = 0 → RunOK (stF st d).1 l)

theorem Dk.set4 {w : World} {V : Nat → Prop} {A B : Option Addr} {n c m e b : Nat} {d : Disk} {u0 u1 u2 u3 : Value} (h : Dk w V A n c B m e d) (hV : ∀ x, V x → x ≠ b) : Dk ((((w.setCell ⟨b, 0, none⟩ u0).setCell ⟨b, 1, none⟩ u1).setCell ⟨b, 2, none⟩ u2).setCell ⟨b, 3, none⟩ u3) V A n c B m e d :=
  h.keep (by rw [set4_size]; exact Nat.le_refl _) fun x hx _ => set4_far (hV x hx)
/-- put's own value -/
theorem fput_any (i : Nat) (s : ByteArray) (w : World) :
    Calls Tryz.prog 66 #[.int .i64 i, .string s] w fun q w' => ∃ b1 b2, q = .returned (stV (.put b1 b2 i s)) ∧ Box w' b1 3 #[.int .i64 i] ∧ Box w' b2 9 #[.string s] ∧ w.heap.size ≤ b1 ∧ w.heap.size ≤ b2 ∧ Below w.heap.size w w' := by
  have k1 := (Box.new w 3 #[.int .i64 i]).up (.cells #[.string s] 9)
  have k2 := Box.new (w.alloc (.cells #[.int .i64 i] 3)) 9 #[.string s]
  rw [World.size_alloc] at k2
  have hb : Below w.heap.size w ((w.alloc (.cells #[.int .i64 i] 3)).alloc (.cells #[.string s] 9)) := ((Below.refl _ _).alloc (Nat.le_refl _) _).alloc (by simp) _
  go_enter Tryz.func66, Tryz.ntmps66
  go_wp2_with fail
  go_ret
  exact ⟨w.heap.size, w.heap.size + 1, rfl, k1, k2, Nat.le_refl _, by omega, hb⟩

set_option maxRecDepth 100000 in
set_option maxHeartbeats 1600000 in
theorem pstep_any (A : Option Addr) (n c : Nat) (B : Option Addr) (m e : Nat) (d : Disk) (V : Nat → Prop) (b1 b2 i : Nat) (s : ByteArray) (w : World) (h : Dk w V A n c B m e d) (hm : DiskP.may d = true) (hmm : m ≤ 900000000) (hst : stBox w (.put b1 b2 i s)) :
    Calls Tryz.prog 98 #[dkv A n c B m e d.left d.dead, .pointer (some ⟨b1, 0, none⟩), .pointer (some ⟨b2, 0, none⟩)] w fun q w' => ∃ v, q = .returned (.tuple #[v, .int .i64 ((DiskP.put d i (oct s)).2 : Nat)]) ∧ DkV w' (fun b => V b ∨ w.heap.size ≤ b) v (DiskP.put d i (oct s)).1 ∧ Below w.heap.size w w' := by
  obtain ⟨k1, k2, hi, hs⟩ := hst
  have hB1 := Box.new (w.alloc (.cells #[.slice A n c, .slice B m e, .int .i64 d.left, .bool d.dead] 54)) 54 #[.slice none 0 0, .slice none 0 0, .int .i64 0, .bool false]
  rw [World.size_alloc] at hB1
  have hb : Below w.heap.size w ((w.alloc (.cells #[.slice A n c, .slice B m e, .int .i64 d.left, .bool d.dead] 54)).alloc (.cells #[.slice none 0 0, .slice none 0 0, .int .i64 0, .bool false] 54)) := ((Below.refl _ _).alloc (Nat.le_refl _) _).alloc (by simp) _
  have hp := fun w1 hD => put_any A n c B m e d (fun x => V x ∧ x < w.heap.size) i s w1 hD hm (by omega) (by omega) hs hmm
  obtain ⟨R, hR⟩ : ∃ R, R = DiskP.put d i (oct s) := ⟨_, rfl⟩
  rw [← hR] at hp ⊢
  obtain ⟨lf, hlf⟩ : ∃ lf, lf = d.left := ⟨_, rfl⟩
  obtain ⟨dd, hdd⟩ : ∃ dd, dd = d.dead := ⟨_, rfl⟩
  rw [← hlf, ← hdd] at hp hB1 hb ⊢
  have HP := hide (hp _ (h.lt'.below hb))
  have c1 : w.cell? ⟨b1, 0, none⟩ = some (.int .i64 i) := k1.cellAt rfl
  have c2 : w.cell? ⟨b2, 0, none⟩ = some (.string s) := k2.cellAt rfl
  have l1 := k1.lt
  have l2 := k2.lt
  clear hp hlf hdd hR
  go_enter Tryz.func98, Tryz.ntmps98
  go_wp2_with fail
  refine HP.out.mono ?_
  rintro q w1 ⟨v, rfl, ⟨A', n', c', B', m', e', rfl, hD⟩, hb1⟩
  have kB1 := hB1.belowS hb1
  have hbw1 := hb.trans (hb1.mono hb.size)
  have hs1 := hb1.size
  rw [World.size_alloc, World.size_alloc] at hs1
  obtain ⟨q0, q1, q2, q3⟩ := kB1.cell4
  have f0 := kB1.frozen 0
  have f1 := kB1.frozen 1
  have f2 := kB1.frozen 2
  have f3 := kB1.frozen 3
  obtain ⟨lf', hlf'⟩ : ∃ lf, lf = R.1.left := ⟨_, rfl⟩
  obtain ⟨dd', hdd'⟩ : ∃ dd, dd = R.1.dead := ⟨_, rfl⟩
  rw [← hlf', ← hdd']
  have HL := hide hlf'
  have HD' := hide hdd'
  have HDK := hide hD
  clear hlf' hdd' hD
  go_wp2_with fail
  have kF := kB1.set4 (u0 := .slice A' n' c') (u1 := .slice B' m' e') (u2 := .int .i64 lf') (u3 := .bool dd')
  have hbF := below_set4 (b := w.heap.size + 1) (u0 := .slice A' n' c') (u1 := .slice B' m' e') (u2 := .int .i64 lf') (u3 := .bool dd') hbw1 (by omega)
  obtain ⟨s0, s1, s2, s3⟩ := kF.cell4
  refine bodyPost_ret (v := .tuple #[.agg #[.slice A' n' c', .slice B' m' e', .int .i64 lf', .bool dd'], .int .i64 (R.2 : Nat)]) (by simp [results, Tryz.results98, go_sem, s0, s1, s2, s3]) rfl ⟨_, rfl, ⟨_, _, _, _, _, _, by rw [HL.out, HD'.out], ?_⟩, hbF⟩
  exact (HDK.out.set4 fun x hx => by rw [World.size_alloc, World.size_alloc] at hx; omega).mono fun x hx => by rw [World.size_alloc, World.size_alloc] at hx; exact hx.elim (fun h => .inl h.1) fun h => .inr (by omega)

/-! ### run -/

/-- what stands ahead of run's step j -/
def RunR (w0 : World) (b : Nat) (V : Nat → Prop) (R : Disk × Nat) (l : List St) (wr : World) : Prop :=
  ∃ A n c B m e d, Box wr b 54 #[.slice A n c, .slice B m e, .int .i64 d.left, .bool d.dead] ∧ Box wr (b + 1) 54 #[.slice none 0 0, .slice none 0 0, .int .i64 0, .bool false] ∧
    Dk wr (fun x => V x ∨ b + 2 ≤ x) A n c B m e d ∧ LogP.runP d (l.map stF) = R ∧ RunOK d l ∧ Below b w0 wr

set_option maxRecDepth 100000 in
set_option maxHeartbeats 3200000 in
theorem run_any (A : Option Addr) (n c : Nat) (B : Option Addr) (m e : Nat) (d : Disk) (V : Nat → Prop) (F : Option Addr) (k fc : Nat) (l : List St) (w : World) (h : Dk w V A n c B m e d) (hl : Sl w (fun _ => True) 1 F k (l.map stV)) (hb : ∀ st ∈ l, stBox w st) (hok : RunOK d l) (hk : k ≤ 1000) :
    Calls Tryz.prog 65 #[dkv A n c B m e d.left d.dead, .slice F k fc] w fun q w' => ∃ v, q = .returned (.tuple #[v, .int .i64 ((LogP.runP d (l.map stF)).2 : Nat)]) ∧ DkV w' (fun b => V b ∨ w.heap.size ≤ b) v (LogP.runP d (l.map stF)).1 ∧ Below w.heap.size w w' := by
  have hlen : l.length = k := by have := hl.1; simpa using this
  have hB1 := (Box.new w 54 #[.slice A n c, .slice B m e, .int .i64 d.left, .bool d.dead]).up (.cells #[.slice none 0 0, .slice none 0 0, .int .i64 0, .bool false] 54)
  have hB2 := Box.new (w.alloc (.cells #[.slice A n c, .slice B m e, .int .i64 d.left, .bool d.dead] 54)) 54 #[.slice none 0 0, .slice none 0 0, .int .i64 0, .bool false]
  rw [World.size_alloc] at hB2
  have hbw : Below w.heap.size w ((w.alloc (.cells #[.slice A n c, .slice B m e, .int .i64 d.left, .bool d.dead] 54)).alloc (.cells #[.slice none 0 0, .slice none 0 0, .int .i64 0, .bool false] 54)) := ((Below.refl _ _).alloc (Nat.le_refl _) _).alloc (by simp) _
  obtain ⟨R, hR⟩ : ∃ R, R = LogP.runP d (l.map stF) := ⟨_, rfl⟩
  rw [← hR]
  have hst : RunR w w.heap.size (fun x => V x ∧ x < w.heap.size) R l ((w.alloc (.cells #[.slice A n c, .slice B m e, .int .i64 d.left, .bool d.dead] 54)).alloc (.cells #[.slice none 0 0, .slice none 0 0, .int .i64 0, .bool false] 54)) :=
    ⟨A, n, c, B, m, e, d, hB1, hB2, (h.lt'.below hbw).mono fun x hx => .inl hx, hR.symm, hok, hbw⟩
  obtain ⟨lf, hlf⟩ : ∃ lf, lf = d.left := ⟨_, rfl⟩
  obtain ⟨dd, hdd⟩ : ∃ dd, dd = d.dead := ⟨_, rfl⟩
  rw [← hlf, ← hdd] at hst ⊢
  have HST := hide hst
  have HLEN := hide hlen
  have HL := hide hl
  have HB := hide hb
  clear hst hlen hl hb hlf hdd hR hok hB1 hB2 hbw h
  go_enter Tryz.func65, Tryz.ntmps65
  go_wp2_with fail
  go_loopw [12] (fun jv wr => ∃ j : Nat, j ≤ k ∧ jv = .int .i64 j ∧ RunR w w.heap.size (fun x => V x ∧ x < w.heap.size) R (l.drop j) wr) (fun jv _ => k - (intOf jv).toNat)
  case atStart => exact ⟨0, Nat.zero_le _, rfl, HST.out⟩
  case round =>
    clear HST
    obtain ⟨j, hj, rfl, A1, n1, c1, B1, m1, e1, d1, kA, kB, hD, hrun, hok, hbr⟩ := hrel
    have hltB := kB.lt
    by_cases hlt : j < k
    · obtain ⟨a, u, hF, hx, hc⟩ := HL.out.at_ hlt
      subst hF
      have hc' : (wr.cell? (a.add j)) = some u := by
        obtain ⟨a', e', _, hbl, _⟩ := HL.out.2 (by omega)
        injection e' with e'
        subst e'
        rw [World.cell?_of_block (w := w) (w' := wr) (a := a.add j) (by rw [blk_add]; exact hbr.block _ hbl)]
        exact hc
      rw [List.getElem?_map] at hx
      have hjl : j < l.length := by have := HLEN.out; omega
      rw [List.getElem?_eq_getElem hjl, Option.map_some, Option.some.injEq] at hx
      have hdr : l.drop j = l[j] :: l.drop (j + 1) := List.drop_eq_getElem_cons hjl
      have hbox := HB.out l[j] (List.getElem_mem hjl)
      obtain ⟨st, hstj⟩ : ∃ st, st = l[j] := ⟨_, rfl⟩
      rw [← hstj] at hx hdr hbox
      rw [hdr] at hrun hok
      obtain ⟨hm1, hmm1, hnext⟩ := hok
      have hwl := hD.wlen
      rw [← hx] at hc'
      cases st with
      | put b1 b2 i s =>
        have hcon := fun w1 hD hs => pstep_any A1 n1 c1 B1 m1 e1 d1 (fun x => (V x ∧ x < w.heap.size) ∨ w.heap.size + 2 ≤ x) b1 b2 i s w1 hD hm1 (by omega) hs
        have hbx : stBox wr (.put b1 b2 i s) := hbox.keep (B := 0) fun b hb => hbr.block b hb
        have hcal := hcon wr hD hbx
        obtain ⟨X, hX⟩ : ∃ X, X = stF (.put b1 b2 i s) d1 := ⟨_, rfl⟩
        rw [show DiskP.put d1 i (oct s) = X from hX.symm] at hcal
        rw [← hX] at hnext
        have hrun2 := hrun
        rw [List.map_cons, LogP.runP, ← hX] at hrun2
        obtain ⟨ev, hev⟩ : ∃ ev, ev = X.2 := ⟨_, rfl⟩
        rw [← hev] at hcal hnext hrun2
        obtain ⟨lf1, hlf1⟩ : ∃ lf, lf = d1.left := ⟨_, rfl⟩
        obtain ⟨dd1, hdd1⟩ : ∃ dd, dd = d1.dead := ⟨_, rfl⟩
        rw [← hlf1, ← hdd1] at hcal kA
        simp only [stV] at hc'
        obtain ⟨p0, p1, p2, p3⟩ := kA.cell4
        have HCAL := hide hcal
        have hi0 : (0 : Int) ≤ (j : Int) := by omega
        have hi1 : (j : Int) < (k : Int) := by omega
        by_cases he : ev = 0
        · rw [if_pos he] at hrun2
          have HRUN := hide hrun2
          have HOK := hide (hnext he)
          have HEV := hide hev
          clear hcal hrun hrun2 hnext hlf1 hdd1 hm1 hmm1 hwl hD hX hdr hbox hstj hx hjl HL HB hcon hbx
          clear hev
          subst he
          have h00 : ((0 : Nat) : Int) = 0 := rfl
          rw [h00] at HCAL
          clear h00
          go_wp2_with fail
          refine HCAL.out.mono ?_
          rintro q w2 ⟨v, rfl, hv, hb2⟩
          obtain ⟨A2, n2, c2, B2, m2, e2, rfl, hD2⟩ := hv
          have kA2 := kA.belowS hb2
          have kB2 := kB.belowS hb2
          have hbr2 := hbr.trans (hb2.mono (by omega))
          have hlt2 := kB2.lt
          have hlt3 := kA2.lt
          obtain ⟨lf2, hlf2⟩ : ∃ lf, lf = X.1.left := ⟨_, rfl⟩
          obtain ⟨dd2, hdd2⟩ : ∃ dd, dd = X.1.dead := ⟨_, rfl⟩
          rw [← hlf2, ← hdd2]
          have HLF2 := hide hlf2
          have HDD2 := hide hdd2
          have HD2 := hide hD2
          clear hlf2 hdd2 hD2 p0 p1 p2 p3 hc'
          obtain ⟨p0, p1, p2, p3⟩ := kA2.cell4
          have f0 := kA2.frozen 0
          have f1 := kA2.frozen 1
          have f2 := kA2.frozen 2
          have f3 := kA2.frozen 3
          go_wp2_with fail
          have hR2 : RunR w w.heap.size (fun x => V x ∧ x < w.heap.size) R (l.drop (j + 1)) (((((w2.setCell ⟨w.heap.size, 0, none⟩ (.slice A2 n2 c2)).setCell ⟨w.heap.size, 1, none⟩ (.slice B2 m2 e2)).setCell ⟨w.heap.size, 2, none⟩ (.int .i64 lf2)).setCell ⟨w.heap.size, 3, none⟩ (.bool dd2)).alloc (.cells #[.slice A2 n2 c2, .slice B2 m2 e2, .int .i64 lf2, .bool dd2] 54)) := by
            refine ⟨A2, n2, c2, B2, m2, e2, X.1, ?_, ?_, ?_, HRUN.out, HOK.out, ?_⟩
            · rw [← HLF2.out, ← HDD2.out]
              exact kA2.set4.up _
            · exact ((((kB2.other (by simp) _).other (by simp) _).other (by simp) _).other (by simp) _).up _
            · exact ((HD2.out.set4 fun x hx => by omega).below ((Below.refl _ _).alloc (Nat.le_refl _) _)).mono fun x hx => by rcases hx with (hx | hx) | hx; exact .inl hx; exact .inr hx; exact .inr (by omega)
            · exact (below_set4 hbr2 (Nat.le_refl _)).alloc (by rw [set4_size]; omega) _
          have HR2 := hide hR2
          clear hR2
          go_roundw
          case rel => exact ⟨j + 1, by omega, by go_num, HR2.out⟩
          case measure => simp [intOf]; omega
        · rw [if_neg he] at hrun2
          have HRUN : Hid (R = X) := hrun2.symm
          have hne : ((ev : Int) != 0) = true := by rw [bne_iff_ne]; omega
          have HEV := hide hev
          clear hcal hrun hrun2 hnext hlf1 hdd1 hm1 hmm1 hwl hD hX hdr hbox hstj hx hjl hev he HL HB hcon hbx
          go_wp2_with fail
          refine HCAL.out.mono ?_
          rintro q w2 ⟨v, rfl, hv, hb2⟩
          obtain ⟨A2, n2, c2, B2, m2, e2, rfl, hD2⟩ := hv
          have kA2 := kA.belowS hb2
          have kB2 := kB.belowS hb2
          have hbr2 := hbr.trans (hb2.mono (by omega))
          have hlt2 := kB2.lt
          have hlt3 := kA2.lt
          obtain ⟨lf2, hlf2⟩ : ∃ lf, lf = X.1.left := ⟨_, rfl⟩
          obtain ⟨dd2, hdd2⟩ : ∃ dd, dd = X.1.dead := ⟨_, rfl⟩
          rw [← hlf2, ← hdd2]
          have HLF2 := hide hlf2
          have HDD2 := hide hdd2
          have HD2 := hide hD2
          clear hlf2 hdd2 hD2 p0 p1 p2 p3 hc'
          obtain ⟨p0, p1, p2, p3⟩ := kB2.cell4
          have f0 := kB2.frozen 0
          have f1 := kB2.frozen 1
          have f2 := kB2.frozen 2
          have f3 := kB2.frozen 3
          go_wp2_with fail
          have kF := (kB2.set4 (u0 := .slice A2 n2 c2) (u1 := .slice B2 m2 e2) (u2 := .int .i64 lf2) (u3 := .bool dd2)).up (.cells #[.slice A2 n2 c2, .slice B2 m2 e2, .int .i64 lf2, .bool dd2] 54)
          have hbF := (below_set4 (b := w.heap.size + 1) (u0 := .slice A2 n2 c2) (u1 := .slice B2 m2 e2) (u2 := .int .i64 lf2) (u3 := .bool dd2) hbr2 (by omega)).alloc (by rw [set4_size]; omega) (.cells #[.slice A2 n2 c2, .slice B2 m2 e2, .int .i64 lf2, .bool dd2] 54)
          obtain ⟨s0, s1, s2, s3⟩ := kF.cell4
          refine bodyPost_ret (v := .tuple #[.agg #[.slice A2 n2 c2, .slice B2 m2 e2, .int .i64 lf2, .bool dd2], .int .i64 (ev : Nat)]) (by simp [results, Tryz.results65, go_sem, s0, s1, s2, s3]) rfl ⟨_, by rw [HRUN.out, ← HEV.out], ⟨_, _, _, _, _, _, by rw [HRUN.out, HLF2.out, HDD2.out], ?_⟩, hbF⟩
          rw [HRUN.out]
          exact ((HD2.out.set4 fun x hx => by omega).below ((Below.refl _ _).alloc (Nat.le_refl _) _)).mono fun x hx => by rcases hx with (hx | hx) | hx; exact .inl hx.1; exact .inr (by omega); exact .inr (by omega)
      | bar =>
        have hcal := barrier_any A1 n1 c1 B1 m1 e1 d1 (fun x => (V x ∧ x < w.heap.size) ∨ w.heap.size + 2 ≤ x) wr hD hm1
        obtain ⟨X, hX⟩ : ∃ X, X = stF (.bar) d1 := ⟨_, rfl⟩
        rw [show DiskP.barrier d1 = X from hX.symm] at hcal
        rw [← hX] at hnext
        have hrun2 := hrun
        rw [List.map_cons, LogP.runP, ← hX] at hrun2
        obtain ⟨ev, hev⟩ : ∃ ev, ev = X.2 := ⟨_, rfl⟩
        rw [← hev] at hcal hnext hrun2
        obtain ⟨lf1, hlf1⟩ : ∃ lf, lf = d1.left := ⟨_, rfl⟩
        obtain ⟨dd1, hdd1⟩ : ∃ dd, dd = d1.dead := ⟨_, rfl⟩
        rw [← hlf1, ← hdd1] at hcal kA
        simp only [stV] at hc'
        obtain ⟨p0, p1, p2, p3⟩ := kA.cell4
        have HCAL := hide hcal
        have hi0 : (0 : Int) ≤ (j : Int) := by omega
        have hi1 : (j : Int) < (k : Int) := by omega
        by_cases he : ev = 0
        · rw [if_pos he] at hrun2
          have HRUN := hide hrun2
          have HOK := hide (hnext he)
          have HEV := hide hev
          clear hcal hrun hrun2 hnext hlf1 hdd1 hm1 hmm1 hwl hD hX hdr hbox hstj hx hjl HL HB
          clear hev
          subst he
          have h00 : ((0 : Nat) : Int) = 0 := rfl
          rw [h00] at HCAL
          clear h00
          go_wp2_with fail
          refine HCAL.out.mono ?_
          rintro q w2 ⟨v, rfl, hv, hb2⟩
          obtain ⟨A2, n2, c2, B2, m2, e2, rfl, hD2⟩ := hv
          have kA2 := kA.belowS hb2
          have kB2 := kB.belowS hb2
          have hbr2 := hbr.trans (hb2.mono (by omega))
          have hlt2 := kB2.lt
          have hlt3 := kA2.lt
          obtain ⟨lf2, hlf2⟩ : ∃ lf, lf = X.1.left := ⟨_, rfl⟩
          obtain ⟨dd2, hdd2⟩ : ∃ dd, dd = X.1.dead := ⟨_, rfl⟩
          rw [← hlf2, ← hdd2]
          have HLF2 := hide hlf2
          have HDD2 := hide hdd2
          have HD2 := hide hD2
          clear hlf2 hdd2 hD2 p0 p1 p2 p3 hc'
          obtain ⟨p0, p1, p2, p3⟩ := kA2.cell4
          have f0 := kA2.frozen 0
          have f1 := kA2.frozen 1
          have f2 := kA2.frozen 2
          have f3 := kA2.frozen 3
          go_wp2_with fail
          have hR2 : RunR w w.heap.size (fun x => V x ∧ x < w.heap.size) R (l.drop (j + 1)) (((((w2.setCell ⟨w.heap.size, 0, none⟩ (.slice A2 n2 c2)).setCell ⟨w.heap.size, 1, none⟩ (.slice B2 m2 e2)).setCell ⟨w.heap.size, 2, none⟩ (.int .i64 lf2)).setCell ⟨w.heap.size, 3, none⟩ (.bool dd2)).alloc (.cells #[.slice A2 n2 c2, .slice B2 m2 e2, .int .i64 lf2, .bool dd2] 54)) := by
            refine ⟨A2, n2, c2, B2, m2, e2, X.1, ?_, ?_, ?_, HRUN.out, HOK.out, ?_⟩
            · rw [← HLF2.out, ← HDD2.out]
              exact kA2.set4.up _
            · exact ((((kB2.other (by simp) _).other (by simp) _).other (by simp) _).other (by simp) _).up _
            · exact ((HD2.out.set4 fun x hx => by omega).below ((Below.refl _ _).alloc (Nat.le_refl _) _)).mono fun x hx => by rcases hx with (hx | hx) | hx; exact .inl hx; exact .inr hx; exact .inr (by omega)
            · exact (below_set4 hbr2 (Nat.le_refl _)).alloc (by rw [set4_size]; omega) _
          have HR2 := hide hR2
          clear hR2
          go_roundw
          case rel => exact ⟨j + 1, by omega, by go_num, HR2.out⟩
          case measure => simp [intOf]; omega
        · rw [if_neg he] at hrun2
          have HRUN : Hid (R = X) := hrun2.symm
          have hne : ((ev : Int) != 0) = true := by rw [bne_iff_ne]; omega
          have HEV := hide hev
          clear hcal hrun hrun2 hnext hlf1 hdd1 hm1 hmm1 hwl hD hX hdr hbox hstj hx hjl hev he HL HB
          go_wp2_with fail
          refine HCAL.out.mono ?_
          rintro q w2 ⟨v, rfl, hv, hb2⟩
          obtain ⟨A2, n2, c2, B2, m2, e2, rfl, hD2⟩ := hv
          have kA2 := kA.belowS hb2
          have kB2 := kB.belowS hb2
          have hbr2 := hbr.trans (hb2.mono (by omega))
          have hlt2 := kB2.lt
          have hlt3 := kA2.lt
          obtain ⟨lf2, hlf2⟩ : ∃ lf, lf = X.1.left := ⟨_, rfl⟩
          obtain ⟨dd2, hdd2⟩ : ∃ dd, dd = X.1.dead := ⟨_, rfl⟩
          rw [← hlf2, ← hdd2]
          have HLF2 := hide hlf2
          have HDD2 := hide hdd2
          have HD2 := hide hD2
          clear hlf2 hdd2 hD2 p0 p1 p2 p3 hc'
          obtain ⟨p0, p1, p2, p3⟩ := kB2.cell4
          have f0 := kB2.frozen 0
          have f1 := kB2.frozen 1
          have f2 := kB2.frozen 2
          have f3 := kB2.frozen 3
          go_wp2_with fail
          have kF := (kB2.set4 (u0 := .slice A2 n2 c2) (u1 := .slice B2 m2 e2) (u2 := .int .i64 lf2) (u3 := .bool dd2)).up (.cells #[.slice A2 n2 c2, .slice B2 m2 e2, .int .i64 lf2, .bool dd2] 54)
          have hbF := (below_set4 (b := w.heap.size + 1) (u0 := .slice A2 n2 c2) (u1 := .slice B2 m2 e2) (u2 := .int .i64 lf2) (u3 := .bool dd2) hbr2 (by omega)).alloc (by rw [set4_size]; omega) (.cells #[.slice A2 n2 c2, .slice B2 m2 e2, .int .i64 lf2, .bool dd2] 54)
          obtain ⟨s0, s1, s2, s3⟩ := kF.cell4
          refine bodyPost_ret (v := .tuple #[.agg #[.slice A2 n2 c2, .slice B2 m2 e2, .int .i64 lf2, .bool dd2], .int .i64 (ev : Nat)]) (by simp [results, Tryz.results65, go_sem, s0, s1, s2, s3]) rfl ⟨_, by rw [HRUN.out, ← HEV.out], ⟨_, _, _, _, _, _, by rw [HRUN.out, HLF2.out, HDD2.out], ?_⟩, hbF⟩
          rw [HRUN.out]
          exact ((HD2.out.set4 fun x hx => by omega).below ((Below.refl _ _).alloc (Nat.le_refl _) _)).mono fun x hx => by rcases hx with (hx | hx) | hx; exact .inl hx.1; exact .inr (by omega); exact .inr (by omega)
    · have hjk : j = k := by omega
      subst hjk
      have hRR : R = (d1, 0) := by
        rw [← hrun, List.drop_of_length_le (by have := HLEN.out; omega), List.map_nil, LogP.runP]
      have HRUN := hide hRR
      obtain ⟨lf1, hlf1⟩ : ∃ lf, lf = d1.left := ⟨_, rfl⟩
      obtain ⟨dd1, hdd1⟩ : ∃ dd, dd = d1.dead := ⟨_, rfl⟩
      rw [← hlf1, ← hdd1] at kA
      have HLF1 := hide hlf1
      have HDD1 := hide hdd1
      have HD1 := hide hD
      clear hrun hok hRR hlf1 hdd1 hD HL HB hlt
      obtain ⟨p0, p1, p2, p3⟩ := kA.cell4
      obtain ⟨q0, q1, q2, q3⟩ := kB.cell4
      have f0 := kB.frozen 0
      have f1 := kB.frozen 1
      have f2 := kB.frozen 2
      have f3 := kB.frozen 3
      go_wp2_with fail
      have kF := kB.set4 (u0 := .slice A1 n1 c1) (u1 := .slice B1 m1 e1) (u2 := .int .i64 lf1) (u3 := .bool dd1)
      have hbF := below_set4 (b := w.heap.size + 1) (u0 := .slice A1 n1 c1) (u1 := .slice B1 m1 e1) (u2 := .int .i64 lf1) (u3 := .bool dd1) hbr (by omega)
      obtain ⟨s0, s1, s2, s3⟩ := kF.cell4
      refine bodyPost_ret (v := .tuple #[.agg #[.slice A1 n1 c1, .slice B1 m1 e1, .int .i64 lf1, .bool dd1], .int .i64 0]) (by simp [results, Tryz.results65, go_sem, s0, s1, s2, s3]) rfl ⟨_, by rw [HRUN.out]; rfl, ⟨_, _, _, _, _, _, by rw [HRUN.out, HLF1.out, HDD1.out], ?_⟩, hbF⟩
      rw [HRUN.out]
      exact (HD1.out.set4 fun x hx => by omega).mono fun x hx => by rcases hx with hx | hx; exact .inl hx.1; exact .inr (by omega)
end Go.Proofs.YtojincohnjophaaGreatDoor
