/- The walk of layer 17's Crash. -/
import Derived.Test.YtojincohnjophaaGreatDoorDiskC
namespace Go.Proofs.YtojincohnjophaaGreatDoor
open Go.RowKit
open DiskP (Bytes Disk Wr Fate)
set_option linter.unusedVariables false

theorem crash_step {f : Fate} {W : List Wr} {l R : List Bytes} {j p : Nat} {x : Wr} {old : Bytes} (h : DiskP.crashGo f j (W.drop j) l = R) (hx : W[j]? = some x) (hp : x.at_ = p) (ho : l[p]? = some old) :
    DiskP.crashGo f (j + 1) (W.drop (j + 1)) (l.set p (x.s.take (DiskP.kept f j) ++ old.drop (DiskP.kept f j))) = R := by
  have h1 : j < W.length := (List.getElem?_eq_some_iff.1 hx).1
  have h2 : W[j] = x := (List.getElem?_eq_some_iff.1 hx).2
  rw [List.drop_eq_getElem_cons h1, h2, DiskP.crashGo, hp, Int.toNat_natCast, List.getD_eq_getElem?_getD, ho] at h
  exact h
theorem mkB_mix (s o : Bytes) (k : Nat) (bs bo : ByteArray) (h1 : bs = mkB s) (h2 : bo = mkB o) : bs.extract 0 k ++ bo.extract k bo.size = mkB (s.take k ++ o.drop k) := by
  subst h1 h2
  refine oct_inj ?_
  rw [oct_mkB]
  have : oct ((mkB s).extract 0 k ++ (mkB o).extract k (mkB o).size) = oct ((mkB s).extract 0 k) ++ oct ((mkB o).extract k (mkB o).size) := by simp [oct]
  rw [this, oct_extract, oct_extract, oct_mkB, oct_mkB, List.drop_zero, Nat.sub_zero, mkB_size, List.take_of_length_le (l := o.drop k) (by rw [List.length_drop]; omega)]
def boolV (l : List Bool) : List Value := l.map Value.bool
theorem boolV_length (l : List Bool) : (boolV l).length = l.length := by simp [boolV]
theorem kept_torn (f : Fate) (i : Nat) (h : (i : Int) = f.torn) : ((DiskP.kept f i : Nat) : Int) = max 0 (min f.cut 128) := by
  rw [DiskP.kept, if_pos h]; omega
theorem kept_whole (f : Fate) (i : Nat) (h : (i : Int) ≠ f.torn) (hk : f.keep.getD i false = true) : DiskP.kept f i = 128 := by
  rw [DiskP.kept, if_neg h, hk]; rfl
theorem kept_none (f : Fate) (i : Nat) (h : (i : Int) ≠ f.torn) (hk : f.keep.getD i false = false) : DiskP.kept f i = 0 := by
  rw [DiskP.kept, if_neg h, hk]; rfl
theorem kept_bound (f : Fate) (i : Nat) : DiskP.kept f i ≤ 128 := by
  unfold DiskP.kept
  split
  · omega
  · split <;> omega

set_option maxRecDepth 100000 in
set_option maxHeartbeats 800000 in
theorem kept_any (i : Nat) (b : Nat) (FA : Option Addr) (fn fc : Nat) (f : Fate) (V : Nat → Prop) (w : World) (hB : Box w b 25 #[.slice FA fn fc, .int .i64 f.torn, .int .i64 f.cut]) (hK : Sl w V 1 FA fn (boolV f.keep)) :
    Calls Tryz.prog 37 #[.int .i64 i, .pointer (some ⟨b, 0, none⟩)] w fun q w' => q = .returned (.int .i64 (DiskP.kept f i : Nat)) ∧ w = w' := by
  have hlen : f.keep.length = fn := by have := hK.1; rw [boolV_length] at this; omega
  have p0 : w.cell? ⟨b, 0, none⟩ = some (.slice FA fn fc) := hB.cellAt rfl
  have p1 : w.cell? ⟨b, 1, none⟩ = some (.int .i64 f.torn) := hB.cellAt rfl
  have p2 : w.cell? ⟨b, 2, none⟩ = some (.int .i64 f.cut) := hB.cellAt rfl
  obtain ⟨R, hR⟩ : ∃ R : Int, R = (DiskP.kept f i : Nat) := ⟨_, rfl⟩
  rw [← hR]
  by_cases ht : (i : Int) = f.torn
  · have h1 := kept_torn f i ht
    rw [← hR] at h1
    obtain ⟨tn, htn⟩ : ∃ tn, tn = f.torn := ⟨_, rfl⟩
    obtain ⟨ct, hct⟩ : ∃ ct, ct = f.cut := ⟨_, rfl⟩
    rw [← htn] at p1 ht
    rw [← hct] at p2 h1
    subst ht
    have HR := hide h1
    clear h1 hR htn hct hlen hK hB
    go_enter Tryz.func37, Tryz.ntmps37
    go_wp2_with fail
    all_goals go_ret
    all_goals exact ⟨ret_int (by rw [HR.out]; omega), rfl⟩
  · have g1 : ((i : Int) == f.torn) = false := by rw [beq_eq_false_iff_ne]; exact ht
    have hkw := kept_whole f i ht
    have hkn := kept_none f i ht
    obtain ⟨tn, htn⟩ : ∃ tn, tn = f.torn := ⟨_, rfl⟩
    rw [← htn] at p1 g1
    by_cases hlt : i < fn
    · obtain ⟨a, u, e, hx, hc⟩ := hK.at_ hlt
      rw [boolV, List.getElem?_map] at hx
      cases hu : f.keep[i]? with
      | none => rw [hu] at hx; cases hx
      | some bb =>
        rw [hu] at hx
        simp only [Option.map_some, Option.some.injEq] at hx
        rw [← hx] at hc
        subst e
        have hd : f.keep.getD i false = bb := by rw [List.getD_eq_getElem?_getD, hu]; rfl
        rw [hd] at hkw hkn
        cases bb with
        | true =>
          have HR : Hid (R = 128) := by rw [hR, hkw rfl]; rfl
          clear hR hkw hkn hd hu hx ht htn hK hB hlen
          go_enter Tryz.func37, Tryz.ntmps37
          go_wp2_with fail
          go_ret
          exact ⟨ret_int HR.out.symm, rfl⟩
        | false =>
          have HR : Hid (R = 0) := by rw [hR, hkn rfl]; rfl
          clear hR hkw hkn hd hu hx ht htn hK hB hlen
          go_enter Tryz.func37, Tryz.ntmps37
          go_wp2_with fail
          go_ret
          exact ⟨ret_int HR.out.symm, rfl⟩
    · have hd : f.keep.getD i false = false := by rw [List.getD_eq_getElem?_getD, List.getElem?_eq_none (by omega)]; rfl
      have HR : Hid (R = 0) := by rw [hR, hkn hd]; rfl
      have hge : ¬ (i : Int) < (fn : Int) := by omega
      clear hR hkw hkn hd ht htn hK hB hlen hlt
      go_enter Tryz.func37, Tryz.ntmps37
      go_wp2_with fail
      go_ret
      exact ⟨ret_int HR.out.symm, rfl⟩

/-- a value that reads as a fate -/
abbrev ftv (FA : Option Addr) (fn fc : Nat) (f : Fate) : Value := .agg #[.slice FA fn fc, .int .i64 f.torn, .int .i64 f.cut]
structure Ft (w : World) (V : Nat → Prop) (FA : Option Addr) (fn fc : Nat) (f : Fate) : Prop where
  sl : Sl w V 1 FA fn (boolV f.keep)
  le : fn ≤ 9223372036854775807
theorem Ft.below {w w' : World} {V : Nat → Prop} {FA : Option Addr} {fn fc : Nat} {f : Fate} (h : Ft w V FA fn fc f) (hb : Below w.heap.size w w') : Ft w' V FA fn fc f := ⟨h.sl.below hb, h.le⟩

/-- what stands ahead of Crash's round j -/
def CrashR (base n g cap : Nat) (f : Fate) (W : List Wr) (R : List Bytes) (j : Nat) (wr : World) : Prop :=
  ∃ l : List Bytes, l.length = n ∧ (∀ s ∈ l, s.length = 128) ∧ DiskP.crashGo f j (W.drop j) l = R ∧ wr.ownsRow base 9 1 (.slice (some ⟨g, 0, none⟩) n cap) n (secV l)

set_option maxRecDepth 100000 in
set_option maxHeartbeats 3200000 in
theorem crash_any (A : Option Addr) (n c : Nat) (B : Option Addr) (m e : Nat) (d : Disk) (V V2 : Nat → Prop) (FA : Option Addr) (fn fc : Nat) (f : Fate) (w : World) (h : Dk w V A n c B m e d) (hm : DiskP.may d = true) (hf : Ft w V2 FA fn fc f) :
    Calls Tryz.prog 13 #[dkv A n c B m e d.left d.dead, ftv FA fn fc f] w fun q w' => ∃ v, q = .returned v ∧ DkV w' (fun b => w.heap.size ≤ b) v (DiskP.crash d f) ∧ Below w.heap.size w w' := by
  have hlen := h.len
  have hwlen := h.wlen
  have hn := h.nle
  have hmle := h.mle
  have hmi := (DiskP.may_iff d).1 hm
  have hmw := hmi.2.2.2.2
  have hn1 := hmi.1
  have hsz := hmi.2.2.2.1
  rw [hlen] at hmw hn1
  have hma := fun w1 hD => may_any A n c B m e d V w1 hD
  rw [hm] at hma
  have hR : DiskP.crash d f = ⟨DiskP.crashGo f 0 d.W d.S, [], -1, false⟩ := by rw [DiskP.crash, hm]; rfl
  rw [hR]
  obtain ⟨R, hRR⟩ : ∃ R, R = DiskP.crashGo f 0 d.W d.S := ⟨_, rfl⟩
  rw [← hRR]
  obtain ⟨lf, hlf⟩ : ∃ lf, lf = d.left := ⟨_, rfl⟩
  obtain ⟨dd, hdd⟩ : ∃ dd, dd = d.dead := ⟨_, rfl⟩
  obtain ⟨tn, htn⟩ : ∃ tn, tn = f.torn := ⟨_, rfl⟩
  obtain ⟨ct, hct⟩ : ∃ ct, ct = f.cut := ⟨_, rfl⟩
  rw [← hlf, ← hdd] at hma
  rw [← hlf, ← hdd]
  have hkp := fun (i b : Nat) V3 w => kept_any i b FA fn fc f V3 w
  rw [← htn, ← hct] at hkp
  unfold ftv
  rw [← htn, ← hct]
  have hB1 := ((Box.new w 54 #[.slice A n c, .slice B m e, .int .i64 lf, .bool dd]).up (.cells #[.slice FA fn fc, .int .i64 tn, .int .i64 ct] 25)).up (.cells #[.slice none 0 0, .slice none 0 0, .int .i64 0, .bool false] 54)
  have hB2 := (Box.new (w.alloc (.cells #[.slice A n c, .slice B m e, .int .i64 lf, .bool dd] 54)) 25 #[.slice FA fn fc, .int .i64 tn, .int .i64 ct]).up (.cells #[.slice none 0 0, .slice none 0 0, .int .i64 0, .bool false] 54)
  have hB3 := Box.new ((w.alloc (.cells #[.slice A n c, .slice B m e, .int .i64 lf, .bool dd] 54)).alloc (.cells #[.slice FA fn fc, .int .i64 tn, .int .i64 ct] 25)) 54 #[.slice none 0 0, .slice none 0 0, .int .i64 0, .bool false]
  rw [World.size_alloc] at hB2
  rw [World.size_alloc, World.size_alloc] at hB3
  have hb : Below w.heap.size w (((w.alloc (.cells #[.slice A n c, .slice B m e, .int .i64 lf, .bool dd] 54)).alloc (.cells #[.slice FA fn fc, .int .i64 tn, .int .i64 ct] 25)).alloc (.cells #[.slice none 0 0, .slice none 0 0, .int .i64 0, .bool false] 54)) := (((Below.refl _ _).alloc (Nat.le_refl _) _).alloc (by simp) _).alloc (by simp; omega) _
  have HMW := hide hmw
  have HLEN := hide hlen
  have HWLEN := hide hwlen
  have HSZ := hide hsz
  have HRR := hide hRR
  have HKP := hide hkp
  have HMA := hide (hma _ (h.below hb))
  have hD := h.lt
  clear hma hmw hlen hwlen hsz hRR hkp hmi hm hlf hdd htn hct hR
  go_enter Tryz.func13, Tryz.ntmps13
  go_wp2_with fail
  refine HMA.out.mono ?_
  rintro q w1 ⟨rfl, hb1⟩
  have kA1 := hB1.belowS hb1
  have kB1 := hB2.belowS hb1
  have kC1 := hB3.belowS hb1
  have hbw1 := hb.trans (hb1.mono hb.size)
  obtain ⟨p0, p1, p2, p3⟩ := kA1.cell4
  go_wp2_with fail
  refine (clone_str A n c _ _ _ (h.below hbw1).sS hn (secV_one _)).mono ?_
  rintro q w2 ⟨v2, rfl, ho2, hb2⟩
  obtain ⟨g, cap, hv2, hg1, hg2, hgc⟩ := own_form ho2 (by omega)
  subst hv2
  clear p0 p1 p2 p3
  have kA2 := kA1.belowS hb2
  have kB2 := kB1.belowS hb2
  have kC2 := kC1.belowS hb2
  have hbw2 := hbw1.trans (hb2.mono hbw1.size)
  obtain ⟨p0, p1, p2, p3⟩ := kA2.cell4
  have hsz1 : w.heap.size + 3 ≤ w1.heap.size := kC1.lt
  go_wp2_with fail
  go_loopw [21] (fun jv wr => ∃ j : Nat, j ≤ m ∧ jv = .int .i64 j ∧ CrashR w1.heap.size n g cap f d.W R j wr ∧ Below w1.heap.size w2 wr) (fun jv _ => m - (intOf jv).toNat)
  case atStart => exact ⟨0, Nat.zero_le _, rfl, ⟨d.S, HLEN.out, HSZ.out, by rw [HRR.out]; rfl, ho2⟩, Below.refl _ _⟩
  case round =>
    clear ho2
    obtain ⟨j, hj, rfl, ⟨l, hl1, hl2, hl3, hown⟩, hbr⟩ := hrel
    have HL1 := hide hl1
    have HL2 := hide hl2
    have HL3 := hide hl3
    clear hl1 hl2 hl3
    have hs2 := hbr.size
    have hs12 := hb2.size
    by_cases hlt : j < m
    · obtain ⟨a, x, hA, hx, hcx1, hcx2⟩ := ((hD.below hbw2).keep hbr.size fun b hv _ => hbr.block b (by omega)).wr hlt
      subst hA
      obtain ⟨y1, y2, y3⟩ := HMW.out x (List.mem_of_getElem? hx)
      obtain ⟨p, hp⟩ : ∃ p : Nat, x.at_ = p := ⟨x.at_.toNat, by omega⟩
      have hpn : p < n := by omega
      rw [hp] at hcx1
      obtain ⟨bs, hbs⟩ : ∃ bs, bs = mkB x.s := ⟨_, rfl⟩
      rw [← hbs] at hcx2
      obtain ⟨old, hold⟩ : ∃ old, l[p]? = some old := ⟨_, List.getElem?_eq_getElem (by have := HL1.out; omega)⟩
      obtain ⟨bo, hbo⟩ : ∃ bo, bo = mkB old := ⟨_, rfl⟩
      have hc : wr.cell? ⟨g, p, none⟩ = some (.string bo) := by
        rw [hown.cellAt p (by omega), secV_get, hold, hbo]; rfl
      have hfz := hown.frozenAt p
      have hkb := kept_bound f j
      obtain ⟨kk, hkk⟩ : ∃ kk, kk = DiskP.kept f j := ⟨_, rfl⟩
      have hko := HKP.out j (w.heap.size + 1) _ (wr.alloc (.cells #[.int .i64 p, .string bs] 98)) ((kB2.at (hbr.block _ (by omega))).up _) ((hf.sl.lt.below hbw2).keep (by have := hbr.size; simp; omega) fun b hv hb => (Below.heap_alloc _ _ _ (by omega)).trans (hbr.block b (by omega)))
      rw [← hkk] at hko hkb
      have hz1 : bs.size = 128 := by rw [hbs, mkB_size]; exact y3
      have hz2 : bo.size = 128 := by rw [hbo, mkB_size]; exact HL2.out old (List.mem_of_getElem? hold)
      have HX := hide hx
      have HP := hide hp
      have HBS := hide hbs
      have HOLD := hide hold
      have HBO := hide hbo
      have HKK := hide hkk
      clear hx hp hbs hold hbo hkk y1 y2 y3
      have z1 : (kk : Int) ≤ bs.size := by omega
      have z2 : (kk : Int) ≤ bo.size := by omega
      have z3 : (p : Int) < n := by omega
      have HZ1 := hide hz1
      have HZ2 := hide hz2
      clear hz1 hz2
      go_wp2_with fail
      refine hko.mono ?_
      rintro q w4 ⟨rfl, rfl⟩
      go_wp2_with fail
      have hgr : g < wr.heap.size := by omega
      have z4 : ¬ 9223372036854775807 < min kk bs.size + (bo.size - kk) := by have h1 := HZ1.out; have h2 := HZ2.out; omega
      have hstep := crash_step HL3.out HX.out HP.out HOLD.out
      rw [← HKK.out] at hstep
      have hmix := mkB_mix x.s old kk bs bo HBS.out HBO.out
      have hst := (hown.stored p (.string (bs.extract 0 kk ++ bo.extract kk bo.size))).1.alloc (.cells #[.int .i64 p, .string bs] 98)
      rw [hmix, secV_set, ← hmix] at hst
      have hlen2 : (x.s.take kk ++ old.drop kk).length = 128 := by
        have e1 : x.s.length = 128 := by have h1 := HZ1.out; rw [HBS.out, mkB_size] at h1; exact h1
        have e2 : old.length = 128 := HL2.out old (List.mem_of_getElem? HOLD.out)
        rw [List.length_append, List.length_take, List.length_drop, e1, e2]; omega
      have hC : CrashR w1.heap.size n g cap f d.W R (j + 1) ((wr.setCell ⟨g, p, none⟩ (.string (bs.extract 0 kk ++ bo.extract kk bo.size))).alloc (.cells #[.int .i64 p, .string bs] 98)).drew :=
        ⟨_, by rw [List.length_set]; exact HL1.out, fun s hs => by
          rcases List.mem_or_eq_of_mem_set hs with h | h
          · exact HL2.out s h
          · rw [h]; exact hlen2, hstep, hst.drew⟩
      have hBR := ((hbr.setCell (p := ⟨g, p, none⟩) (by exact hg1) (.string (bs.extract 0 kk ++ bo.extract kk bo.size))).alloc (by simp; omega) (.cells #[.int .i64 p, .string bs] 98)).drew
      have HC := hide hC
      clear hC hst hmix hstep hlen2 hown
      go_region_law (fail)
      all_goals go_wp2_with fail
      all_goals
        go_roundw
        case rel => exact ⟨j + 1, by omega, by go_num, HC.out, hBR⟩
        case measure => simp [intOf]; omega
    · have hjm : j = m := by omega
      subst hjm
      have hlR : l = R := by
        have h1 := HL3.out
        rw [List.drop_of_length_le (by have := HWLEN.out; omega), DiskP.crashGo] at h1
        exact h1
      rw [hlR] at hown
      have kC3 := kC2.at (w' := wr) (hbr.block _ (by omega))
      have hbF0 := hbw2.trans (hbr.mono (by omega))
      clear hlR p0 p1 p2 p3
      obtain ⟨p0, p1, p2, p3⟩ := kC3.cell4
      have f0 := kC3.frozen 0
      have f1 := kC3.frozen 1
      have f2 := kC3.frozen 2
      have f3 := kC3.frozen 3
      go_wp2_with fail
      have kF := kC3.set4 (u0 := .slice (some ⟨g, 0, none⟩) n cap) (u1 := .slice none 0 0) (u2 := .int .i64 (-1)) (u3 := .bool false)
      have hbF := below_set4 (b := w.heap.size + 2) (u0 := .slice (some ⟨g, 0, none⟩) n cap) (u1 := .slice none 0 0) (u2 := .int .i64 (-1)) (u3 := .bool false) hbF0 (by omega)
      obtain ⟨s0, s1, s2, s3⟩ := kF.cell4
      refine bodyPost_ret (v := .agg #[.slice (some ⟨g, 0, none⟩) n cap, .slice none 0 0, .int .i64 (-1), .bool false]) (by simp [results, Tryz.results13, go_sem, s0, s1, s2, s3]) rfl ⟨_, rfl, ⟨_, _, _, _, _, _, rfl, ?_⟩, hbF⟩
      exact ⟨((Sl.of_own hown).keep (by rw [set4_size]; exact Nat.le_refl _) fun x hx _ => set4_far (by omega)).mono fun x hx => by omega, Sl.nil, hn, by omega, hgc, Nat.le_refl _, by simp⟩
end Go.Proofs.YtojincohnjophaaGreatDoor
