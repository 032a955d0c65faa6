/- The walk of DiskBudgets. (printed by genbud.py) -/
import Derived.Test.YteoiadfcchalfaaDiskAw
import Derived.Deep.DeepCutAuto
import Derived.Deep.CutBlock
namespace Go.Proofs.Yteoiadfcchalfaa
open Go.RowKit
open DiskP (Bytes Disk Wr Fate noughts Bud)
set_option linter.unusedVariables false

/-- what stands ahead of the round i, when k are done -/
def BudR (w0 : World) (bd N i k : Nat) (wr : World) : Prop :=
  ∃ A c B m e d, Bud N k d ∧ m ≤ i ∧ Box wr bd 50 #[.slice A 4 c, .slice B m e, .int .i64 d.left, .bool d.dead] ∧ Dk wr (fun b => b ≠ bd) A 4 c B m e d ∧ Below w0.heap.size w0 wr
/-- how a write, or a barrier, ends on a budget -/
def BudE (N k er : Nat) (d : Disk) : Prop := (er = 0 ∧ k < N ∧ Bud N (k + 1) d) ∨ (er = 14 ∧ k = N ∧ d.dead = true ∧ Bud N N d)
theorem budE_barrier {N k : Nat} {d : Disk} (h : Bud N k d) : BudE N k (DiskP.barrier d).2 (DiskP.barrier d).1 := by
  by_cases hk : k < N
  · exact .inl ⟨(h.barrier hk).1, hk, (h.barrier hk).2⟩
  · have : k = N := by have := h.le; omega
    subst this
    rw [h.barrier_over]
    exact .inr ⟨rfl, rfl, rfl, h.dies⟩
theorem budE_put {N k : Nat} {d : Disk} (h : Bud N k d) {i : Int} (h0 : 0 ≤ i) (h1 : i < 4) {s : Bytes} (hs : s.length = 128) : BudE N k (DiskP.put d i s).2 (DiskP.put d i s).1 := by
  by_cases hk : k < N
  · exact .inl ⟨(h.put hk h0 h1 hs).1, hk, (h.put hk h0 h1 hs).2⟩
  · have : k = N := by have := h.le; omega
    subst this
    rw [h.put_over h0 h1 hs]
    exact .inr ⟨rfl, rfl, rfl, h.dies⟩
theorem budW_barrier {N k : Nat} {d : Disk} (h : Bud N k d) : (DiskP.barrier d).1.W.length ≤ d.W.length + 1 := by
  by_cases hk : k < N
  · rw [DiskP.barrier, h.may, h.alive hk]; simp
  · have : k = N := by have := h.le; omega
    subst this
    rw [h.barrier_over]; simp
theorem budW_put {N k : Nat} {d : Disk} (h : Bud N k d) {i : Int} (h0 : 0 ≤ i) (h1 : i < 4) {s : Bytes} (hs : s.length = 128) : (DiskP.put d i s).1.W.length ≤ d.W.length + 1 := by
  by_cases hk : k < N
  · have := (put_ok_may h.may (h.put hk h0 h1 hs).1).2.1
    rw [hs] at this
    exact this
  · have : k = N := by have := h.le; omega
    subst this
    rw [h.put_over h0 h1 hs]; simp
theorem u8_cell {w : World} {V : Nat → Prop} {A : Option Addr} {n i : Nat} {l : List UInt8} (h : Sl w V 1 A n (bytesV l)) (hi : i < n) : ∃ a, ∃ b : UInt8, A = some a ∧ w.cell? (a.add i) = some (.int .u8 (b.toNat : Int)) := by
  obtain ⟨a, u, e, hx, hc⟩ := h.at_ hi
  rw [bytesV, List.getElem?_map] at hx
  cases hs : l[i]? with
  | none => rw [hs] at hx; cases hx
  | some b =>
    rw [hs] at hx
    simp only [Option.map_some, Option.some.injEq] at hx
    exact ⟨a, b, e, by rw [hx]; exact hc⟩

set_option maxRecDepth 100000 in
set_option maxHeartbeats 12800000 in
theorem diskBudgets_walk (bu : Nat) (A0 : Option Addr) (n0 c0 : Nat) (l0 : List UInt8) (w : World) (hbu : bu ≤ 255) (hn : n0 ≤ 9223372036854775807) (hs : Sl w (fun _ => True) 1 A0 n0 (bytesV l0)) :
    Calls Try.prog 8 #[.int .u8 (bu : Nat), .slice A0 n0 c0] w fun q w' => q = .returned (.bool true) ∧ Below w.heap.size w w' := by
  obtain ⟨N, hN⟩ : ∃ N, N = bu % 20 := ⟨_, rfl⟩
  have t1 : (bu : Int).tmod 20 = (N : Int) := by rw [Int.tmod_eq_emod_of_nonneg (by omega), hN]; rfl
  have t2 : IntKind.u8.wrap (N : Int) = (N : Int) := by
    have : ∀ z : Nat, z < 20 → IntKind.u8.wrap (z : Int) = (z : Int) := by decide
    exact this N (by omega)
  have t3 : IntKind.i64.wrap (N : Int) = (N : Int) := IntWalk.i64_in _ (by omega)
  have hN20 : N < 20 := by omega
  have HNEW : Hid (∀ w1, Calls Try.prog 32 #[.int .i64 4] w1 fun q w' => ∃ v, q = .returned (.tuple #[v, .int .i64 0]) ∧ DkV w' (fun b => w1.heap.size ≤ b) v (DiskP.new 4) ∧ Below w1.heap.size w1 w') := fun w1 => new_any 4 w1 (by decide) (by decide)
  have HS := hide hs
  clear hs hN
  go_enter Try.func8, Try.ntmps8
  go_wp2_with fail
  refine (HNEW.out _).mono ?_
  rintro q w1 ⟨v, rfl, ⟨A, n, c, B, m, e, rfl, hD⟩, hb1⟩
  obtain ⟨d, hd⟩ : ∃ d, d = DiskP.new 4 := ⟨_, rfl⟩
  rw [← hd] at hD ⊢
  have hmay : DiskP.may d = true := by rw [hd]; kernel_rfl
  have hlen : d.S.length = 4 := by rw [hd]; rfl
  have hW : d.W = [] := by rw [hd]; rfl
  have hdead : d.dead = false := by rw [hd]; rfl
  have hleft : d.left = -1 := by rw [hd]; rfl
  obtain rfl : n = 4 := by rw [← hD.len, hlen]
  obtain rfl : m = 0 := by rw [← hD.wlen, hW]; rfl
  have hbud : Bud N 0 { d with left := (N : Int) } := by
    have hm := (DiskP.may_iff d).1 hmay
    exact ⟨(DiskP.may_iff _).2 ⟨hm.1, hm.2.1, by show -1 ≤ (N : Int); omega, hm.2.2.2.1, hm.2.2.2.2⟩, hlen, Nat.zero_le _, by show (N : Int) = (N : Int) - ((0 : Nat) : Int); omega, fun e => by rw [show ({ d with left := (N : Int) } : Disk).dead = d.dead from rfl, hdead] at e; cases e⟩
  have HBG : Hid (∀ ww V', Dk ww V' A 4 c B 0 e d → Calls Try.prog 41 #[.agg #[.slice A 4 c, .slice B 0 e, .int .i64 (-1), .bool false], .int .i64 (N : Nat)] ww fun q w' => q = .returned (.tuple #[.agg #[.slice A 4 c, .slice B 0 e, .int .i64 (N : Nat), .bool false], .int .i64 0]) ∧ Below ww.heap.size ww w') := by
    intro ww V' hD
    have := budget_any A 4 c B 0 e d V' (N : Int) ww hD hmay (by omega)
    rw [hleft, hdead] at this
    exact this
  rw [hleft, hdead]
  have k1 := Box.new w1 50 #[.slice A 4 c, .slice B 0 e, .int .i64 (-1), .bool false]
  have hbA : Below w1.heap.size w1 (w1.alloc (.cells #[.slice A 4 c, .slice B 0 e, .int .i64 (-1), .bool false] 50)) := (Below.refl _ _).alloc (Nat.le_refl _) _
  have hD1 := (hD.lt'.below hbA).mono (V' := fun b => b ≠ w1.heap.size) fun b h => by omega
  have hbwA := hb1.trans (hbA.mono hb1.size)
  have HB := hide hbud
  have HDEAD := hide hdead
  have HD1 := hide hD1
  have hs1 := hb1.size
  obtain ⟨wA, hwA⟩ : ∃ x, x = w1.alloc (.cells #[.slice A 4 c, .slice B 0 e, .int .i64 (-1), .bool false] 50) := ⟨_, rfl⟩
  rw [← hwA] at k1 hbwA HD1
  have HWA := hide hwA
  clear hd hmay hlen hW hdead hleft hbud hD hD1 hbA hwA
  go_upto_region 3 with (fail)
  rw [← HWA.out]
  obtain ⟨bd, hbd⟩ : ∃ bd, bd = w1.heap.size := ⟨_, rfl⟩
  rw [← hbd] at k1 HD1 hs1 ⊢
  clear HWA hbd
  obtain ⟨q0, q1, q2, q3⟩ := k1.cell4
  go_wp2_with fail
  refine (HBG.out _ _ HD1.out).mono ?_
  rintro q w2 ⟨rfl, hb2⟩
  have k2 := k1.belowS hb2
  have hbw2 := hbwA.trans (hb2.mono hbwA.size)
  have HD2 := hide (HD1.out.below hb2)
  clear q0 q1 q2 q3 HBG HD1 k1 hbwA hb2
  obtain ⟨q0, q1, q2, q3⟩ := k2.cell4
  have f0 := k2.frozen 0
  have f1 := k2.frozen 1
  have f2 := k2.frozen 2
  have f3 := k2.frozen 3
  have HBW := hide hbw2
  simp only [dkv]
  go_upto_block 0 with (fail)
  have k3 := k2.set4 (u0 := .slice A 4 c) (u1 := .slice B 0 e) (u2 := .int .i64 (N : Nat)) (u3 := .bool false)
  have hd3 := HD2.out.set4 (b := bd) (u0 := .slice A 4 c) (u1 := .slice B 0 e) (u2 := .int .i64 (N : Nat)) (u3 := .bool false) fun x hx => hx
  have HN0 : Hid (BudR w bd N 0 0 ((((w2.setCell ⟨bd, 0, none⟩ (.slice A 4 c)).setCell ⟨bd, 1, none⟩ (.slice B 0 e)).setCell ⟨bd, 2, none⟩ (.int .i64 (N : Nat))).setCell ⟨bd, 3, none⟩ (.bool false))) :=
    ⟨A, c, B, 0, e, _, HB.out, Nat.le_refl _, by have := HDEAD.out; show Box _ bd _ #[_, _, .int .i64 (N : Int), .bool d.dead]; rw [this]; exact k3, hd3.other rfl rfl (by show (N : Int) ≤ 9223372036854775807; omega), below_set4 HBW.out hs1⟩
  clear k2 hbw2 k3 hd3 q0 q1 q2 q3 f0 f1 f2 f3 HD2 HB HNEW t1 t2 t3 HBW
  go_cut [] from 9 to 104 (fun wc => Below w.heap.size w wc)
  case first =>
    go_wp2_with fail
    go_loopw [9, 10] (fun dv iv wr => ∃ i k : Nat, iv = .int .i64 i ∧ dv = .int .i64 k ∧ i ≤ 30 ∧ BudR w bd N i k wr) (fun _ iv _ => 30 - (intOf iv).toNat)
    case atStart => exact ⟨0, 0, rfl, rfl, by omega, HN0.out⟩
    case round =>
      clear HN0
      obtain ⟨i, k, rfl, rfl, hi30, A, c, B, m, e, d, hbud, hmi, kbd, hD, hbw⟩ := hrel
      by_cases hgo : i < n0 ∧ i < 30
      · obtain ⟨h1, h2⟩ := hgo
        obtain ⟨aS, kb, eA, hcS⟩ := u8_cell (HS.out.below hbw) h1
        have hltS : (aS.add i).block < wr.heap.size := World.block_lt_of_cell? wr _ hcS
        obtain ⟨kv, hkv⟩ : ∃ kv, kv = kb.toNat := ⟨_, rfl⟩
        have hkv256 : kv < 256 := by rw [hkv]; exact UInt8.toNat_lt _
        rw [← hkv] at hcS
        obtain ⟨q4, hq4⟩ : ∃ q, q = kv % 4 := ⟨_, rfl⟩
        obtain ⟨q3, hq3⟩ : ∃ q, q = kv % 3 := ⟨_, rfl⟩
        obtain ⟨r20, hr20⟩ : ∃ q, q = i % 20 := ⟨_, rfl⟩
        obtain ⟨ch, hch⟩ : ∃ ch : UInt8, ch.toNat = 97 + r20 := ⟨UInt8.ofNat (97 + r20), by simp; omega⟩
        have w8 : ∀ z : Nat, z < 256 → IntKind.u8.wrap (z : Int) = (z : Int) := by
          intro z hz
          have : ∀ z : Fin 256, IntKind.u8.wrap ((z.val : Nat) : Int) = ((z.val : Nat) : Int) := by decide
          exact this ⟨z, hz⟩
        have hch' : (ch.toNat : Int) = 97 + (r20 : Int) := by omega
        have HQ4 : Hid ((kv : Int).tmod 4 = (q4 : Int) ∧ IntKind.u8.wrap (q4 : Int) = (q4 : Int)) := ⟨by rw [Int.tmod_eq_emod_of_nonneg (by omega), hq4]; rfl, w8 q4 (by omega)⟩
        have HQ5 : Hid (IntKind.i64.wrap (q4 : Int) = (q4 : Int)) := IntWalk.i64_in _ (by omega)
        have HR1 : Hid ((i : Int).tmod 20 = (r20 : Int) ∧ IntKind.i64.wrap (r20 : Int) = (r20 : Int)) := ⟨by rw [Int.tmod_eq_emod_of_nonneg (by omega), hr20]; rfl, IntWalk.i64_in _ (by omega)⟩
        have HR2 : Hid (IntKind.u8.wrap (r20 : Int) = (r20 : Int)) := w8 r20 (by omega)
        have HR3 : Hid (97 + (r20 : Int) = (ch.toNat : Int) ∧ IntKind.u8.wrap (97 + (r20 : Int)) = (ch.toNat : Int) ∧ IntKind.u8.wrap (ch.toNat : Int) = (ch.toNat : Int)) := ⟨hch'.symm, by rw [← hch']; exact w8 ch.toNat (UInt8.toNat_lt _), w8 ch.toNat (UInt8.toNat_lt _)⟩
        have HIN : Hid ((i : Int) < (n0 : Int) ∧ (0 : Int) ≤ (i : Int) ∧ i < n0) := ⟨by omega, by omega, h1⟩
        have hal : ∀ w1, Calls Try.prog 38 #[.int .u8 (ch.toNat : Int), .int .i64 1] w1 fun e w' => e = .returned (.string (reps ch 128)) ∧ Below w1.heap.size w1 w' := fun w1 => all17_any ch 1 128 w1 rfl (by decide)
        have hor : oct (reps ch 128) = List.replicate 128 ch := oct_reps _ _
        have hpe := budE_put hbud (i := (q4 : Int)) (by omega) (by omega) (s := List.replicate 128 ch) (by simp)
        have hpw := budW_put hbud (i := (q4 : Int)) (by omega) (by omega) (s := List.replicate 128 ch) (by simp)
        have hbe := budE_barrier hbud
        have hbw' := budW_barrier hbud
        have hwl := hD.wlen
        have hput := fun ww V' hD => put_any A 4 c B m e d V' (q4 : Int) (reps ch 128) ww hD hbud.may (by omega) (by omega) (by rw [reps_size]; decide) (by omega)
        have hbar := fun ww hD => barrier_any A 4 c B m e d (fun b => b ≠ bd ∧ b < wr.heap.size) ww hD hbud.may
        rw [hor] at hput
        obtain ⟨PP, hPP⟩ : ∃ PP, PP = DiskP.put d (q4 : Int) (List.replicate 128 ch) := ⟨_, rfl⟩
        obtain ⟨PB, hPB⟩ : ∃ PB, PB = DiskP.barrier d := ⟨_, rfl⟩
        rw [← hPP] at hput hpe hpw
        rw [← hPB] at hbar hbe hbw'
        rw [hwl] at hpw hbw'
        have HPP : Hid (BudE N k PP.2 PP.1 ∧ PP.1.W.length ≤ m + 1) := ⟨hpe, hpw⟩
        have HPB : Hid (BudE N k PB.2 PB.1 ∧ PB.1.W.length ≤ m + 1) := ⟨hbe, hbw'⟩
        obtain ⟨lf, hlf⟩ : ∃ lf, lf = d.left := ⟨_, rfl⟩
        obtain ⟨dd, hdd⟩ : ∃ dd, dd = d.dead := ⟨_, rfl⟩
        rw [← hlf, ← hdd] at kbd hput hbar
        have HPUT0 := hide hput
        have HBAR := hide hbar
        have HALL := hide hal
        have HDE0 := hide hD
        have HBUD := hide hbud
        have d1 : decide (i < n0) = true := by simpa using h1
        have d2 : decide ((i : Int) < 30) = true := by simp; omega
        have tq3 : (kv : Int).tmod 3 = (q3 : Int) := by rw [Int.tmod_eq_emod_of_nonneg (by omega), hq3]; rfl
        have tw3 : IntKind.u8.wrap (q3 : Int) = (q3 : Int) := w8 q3 (by omega)
        have hni : (i : Int) < (n0 : Int) := by omega
        clear hq4 hq3 hr20 hch hch' w8 hor hpe hpw hbe hbw' hwl hput hbar hPP hPB hlf hdd hal hD hbud hkv hkv256
        subst eA
        obtain ⟨q0, q1, q2, q3'⟩ := kbd.cell4
        go_wp2_with fail
        refine (HBAR.out _ HDE0.out.lt').mono ?_
        rintro q w3 ⟨v, rfl, ⟨A2, n2, c2, B2, m2, e2, rfl, hD2⟩, hb3⟩
        have kb3 := kbd.belowS hb3
        have hbw3 := hbw.trans (hb3.mono hbw.size)
        have HD3 := hide (HDE0.out.below hb3)
        have hcS3 := (hb3.cell (p := aS.add i) hltS).trans hcS
        obtain ⟨lf2, hlf2⟩ : ∃ lf2, lf2 = PB.1.left := ⟨_, rfl⟩
        obtain ⟨dd2, hdd2⟩ : ∃ dd2, dd2 = PB.1.dead := ⟨_, rfl⟩
        simp only [dkv]
        rw [← hlf2, ← hdd2]
        have HLF2 := hide hlf2
        have HDD2 := hide hdd2
        have HD2 := hide hD2
        clear hlf2 hdd2 hD2 q0 q1 q2 q3' hcS
        have hlt3 : (aS.add i).block < w3.heap.size := World.block_lt_of_cell? w3 _ hcS3
        have k11 := Box.new w3 50 #[.slice A2 n2 c2, .slice B2 m2 e2, .int .i64 lf2, .bool dd2]
        have hbE : Below w3.heap.size w3 (w3.alloc (.cells #[.slice A2 n2 c2, .slice B2 m2 e2, .int .i64 lf2, .bool dd2] 50)) := (Below.refl _ _).alloc (Nat.le_refl _) _
        obtain ⟨wE, hwE⟩ : ∃ x, x = w3.alloc (.cells #[.slice A2 n2 c2, .slice B2 m2 e2, .int .i64 lf2, .bool dd2] 50) := ⟨_, rfl⟩
        rw [← hwE] at k11 hbE
        have HWE := hide hwE
        have k5 := kb3.belowS hbE
        have hbwE := hbw3.trans (hbE.mono hbw3.size)
        have HDE0' := hide (HD3.out.lt'.below hbE)
        have HD2E := hide (HD2.out.lt'.below hbE)
        have hcSE := (hbE.cell (p := aS.add i) hlt3).trans hcS3
        have hltE : (aS.add i).block < wE.heap.size := World.block_lt_of_cell? wE _ hcSE
        have hbdlt := kb3.lt
        clear hwE
        go_upto_if 58 with (fail)
        rw [← HWE.out]
        obtain ⟨be, hbe⟩ : ∃ be, be = w3.heap.size := ⟨_, rfl⟩
        have hbne : be ≠ bd := by omega
        have hwsz : w.heap.size ≤ be := by rw [hbe]; exact hbw3.size
        rw [← hbe] at k11 hbdlt ⊢
        have HBE := hide hbe
        have HDE := hide (HDE0'.out.mono (V' := fun b => b ≠ bd ∧ b < be) fun b h => ⟨h.1, by omega⟩)
        have hbdr := kbd.lt
        have HD2F := hide (HD2E.out.mono (V' := fun b => b ≠ bd ∧ b ≠ be) fun b h => ⟨h.1.elim (fun h => h.1) fun h => by omega, by omega⟩)
        clear HWE hbe hbE hcS3 hlt3 tq3 tw3
        go_cut [12] from 57 to 74 (fun ev wx => ∃ er dR A3 n3 c3 B3 m3 e3, ev = .int .i64 (er : Nat) ∧ (BudE N k er dR ∧ dR.W.length ≤ m + 1) ∧ Box wx be 50 #[.slice A3 n3 c3, .slice B3 m3 e3, .int .i64 dR.left, .bool dR.dead] ∧ Dk wx (fun b => b ≠ bd ∧ b ≠ be) A3 n3 c3 B3 m3 e3 dR ∧
            Box wx bd 50 #[.slice A 4 c, .slice B m e, .int .i64 lf, .bool dd] ∧ Dk wx (fun b => b ≠ bd) A 4 c B m e d ∧ Below w.heap.size w wx)
        case first =>
          have HPUT := HPUT0
          have hltS := hltE
          have hcS := hcSE
          by_cases hq3z : 0 < q3
          · have x1 : decide ((0 : Int) < (q3 : Int)) = true := by simp; omega
            have x2 : decide (0 < q3) = true := by simpa using hq3z
            go_upto_region 12 with (fail)
            clear x1 x2 hq3z
            refine wp_region_noPanic ?_
            refine RegS.region (ds := [60, 61, 62, 63, 64, 65, 66, 67, 68, 69, 70, 71, 72, 59, 73, 74]) (pure := [13, 14, 15]) (fresh := [])
              (G := Gs [.is (dkv A 4 c B m e lf dd), .is (.slice (some aS) n0 c0), .is (.int .i64 (i : Nat)), .is (.pointer (some (aS.add i))), .is (.int .u8 (kv : Nat)), .is (.int .u8 (q4 : Nat)), .is (.int .i64 (q4 : Nat)), .is (.int .i64 (i : Nat)), .is (.int .i64 (r20 : Nat)), .is (.int .u8 (r20 : Nat)), .is (.int .u8 (ch.toNat : Int)), .is (.string (reps ch 128)), .two (.dk (fun b => b ≠ bd ∧ b < wE.heap.size ∨ wE.heap.size ≤ b) PP.1) (.int .i64 (PP.2 : Nat)), .two (.dk (fun b => b ≠ bd ∧ b < wE.heap.size ∨ wE.heap.size ≤ b) PP.1) (.int .i64 (PP.2 : Nat)), .dk (fun b => b ≠ bd ∧ b < wE.heap.size ∨ wE.heap.size ≤ b) PP.1, .is (.int .i64 (PP.2 : Nat))])
              rfl (by kernel_rfl) (by kernel_rfl) ⟨by kernel_rfl, by kernel_rfl, fun i _ v w w' => gs_keep _ i v w w', ?quiet, ?step⟩ (fun _ _ _ _ _ h => h) ?tail
            case quiet =>
              intro i o hi hp ho u ww hd
              obtain rfl | rfl | rfl : i = 13 ∨ i = 14 ∨ i = 15 := by simp at hp; omega
              · simp only [List.getElem?_toArray, List.getElem?_cons_succ, List.getElem?_cons_zero, Option.some.injEq] at ho
                subst ho
                simp only [RegS.putAll, List.length_cons, List.length_nil, Nat.reduceAdd, List.getD_cons_zero, List.getD_cons_succ, Act.put, List.setIfInBounds_toArray, List.set_cons_zero, List.set_cons_succ]
                exact ⟨_, fun _ => rfl, hd 12 (by decide) (by rfl)⟩
              · simp only [List.getElem?_toArray, List.getElem?_cons_succ, List.getElem?_cons_zero, Option.some.injEq] at ho
                subst ho
                simp only [RegS.putAll, List.length_cons, List.length_nil, Nat.reduceAdd, List.getD_cons_zero, List.getD_cons_succ, Act.put, List.setIfInBounds_toArray, List.set_cons_zero, List.set_cons_succ]
                obtain ⟨x, e, h⟩ := hd 13 (by decide) (by rfl)
                rw [e]
                exact ⟨_, fun _ => rfl, h⟩
              · simp only [List.getElem?_toArray, List.getElem?_cons_succ, List.getElem?_cons_zero, Option.some.injEq] at ho
                subst ho
                simp only [RegS.putAll, List.length_cons, List.length_nil, Nat.reduceAdd, List.getD_cons_zero, List.getD_cons_succ, Act.put, List.setIfInBounds_toArray, List.set_cons_zero, List.set_cons_succ]
                obtain ⟨x, e, h⟩ := hd 13 (by decide) (by rfl)
                rw [e]
                exact ⟨_, fun _ => rfl, rfl⟩
            case step =>
              intro i o hi hp ho u ww hb hd K hK
              obtain rfl | rfl | rfl | rfl | rfl | rfl | rfl | rfl | rfl | rfl | rfl | rfl | rfl : i = 0 ∨ i = 1 ∨ i = 2 ∨ i = 3 ∨ i = 4 ∨ i = 5 ∨ i = 6 ∨ i = 7 ∨ i = 8 ∨ i = 9 ∨ i = 10 ∨ i = 11 ∨ i = 12 := by simp at hp hi; omega
              · simp only [List.getElem?_toArray, List.getElem?_cons_zero, Option.some.injEq] at ho
                subst ho
                simp only [RegS.putAll, List.length_cons, List.length_nil, Nat.reduceAdd, List.getD_cons_zero, List.getD_cons_succ, Act.put, List.setIfInBounds_toArray, List.set_cons_zero, List.set_cons_succ]
                obtain ⟨q0, q1, q2, q3⟩ := (k5.belowS hb).cell4
                go_simp
                exact hK _ _ rfl (Below.refl _ _) rfl (fun h => absurd h (by decide))
              · simp only [List.getElem?_toArray, List.getElem?_cons_succ, List.getElem?_cons_zero, Option.some.injEq] at ho
                subst ho
                simp only [RegS.putAll, List.length_cons, List.length_nil, Nat.reduceAdd, List.getD_cons_zero, List.getD_cons_succ, Act.put, List.setIfInBounds_toArray, List.set_cons_zero, List.set_cons_succ]
                go_simp
                exact hK _ _ rfl (Below.refl _ _) rfl (fun h => absurd h (by decide))
              · simp only [List.getElem?_toArray, List.getElem?_cons_succ, List.getElem?_cons_zero, Option.some.injEq] at ho
                subst ho
                simp only [RegS.putAll, List.length_cons, List.length_nil, Nat.reduceAdd, List.getD_cons_zero, List.getD_cons_succ, Act.put, List.setIfInBounds_toArray, List.set_cons_zero, List.set_cons_succ]
                go_simp
                exact hK _ _ rfl (Below.refl _ _) rfl (fun h => absurd h (by decide))
              · simp only [List.getElem?_toArray, List.getElem?_cons_succ, List.getElem?_cons_zero, Option.some.injEq] at ho
                subst ho
                simp only [RegS.putAll, List.length_cons, List.length_nil, Nat.reduceAdd, List.getD_cons_zero, List.getD_cons_succ, Act.put, List.setIfInBounds_toArray, List.set_cons_zero, List.set_cons_succ]
                have e1 : u 1 = .slice (some aS) n0 c0 := hd 1 (by decide) (by rfl)
                have e2 : u 2 = .int .i64 (i : Nat) := hd 2 (by decide) (by rfl)
                obtain ⟨y1, y2, y3⟩ := HIN.out
                go_simp
                exact hK _ _ rfl (Below.refl _ _) rfl (fun h => absurd h (by decide))
              · simp only [List.getElem?_toArray, List.getElem?_cons_succ, List.getElem?_cons_zero, Option.some.injEq] at ho
                subst ho
                simp only [RegS.putAll, List.length_cons, List.length_nil, Nat.reduceAdd, List.getD_cons_zero, List.getD_cons_succ, Act.put, List.setIfInBounds_toArray, List.set_cons_zero, List.set_cons_succ]
                have e3 : u 3 = .pointer (some (aS.add i)) := hd 3 (by decide) (by rfl)
                have hcs := (hb.cell (p := aS.add i) hltS).trans hcS
                go_simp
                exact hK _ _ rfl (Below.refl _ _) rfl (fun h => absurd h (by decide))
              · simp only [List.getElem?_toArray, List.getElem?_cons_succ, List.getElem?_cons_zero, Option.some.injEq] at ho
                subst ho
                simp only [RegS.putAll, List.length_cons, List.length_nil, Nat.reduceAdd, List.getD_cons_zero, List.getD_cons_succ, Act.put, List.setIfInBounds_toArray, List.set_cons_zero, List.set_cons_succ]
                have e4 : u 4 = .int .u8 (kv : Nat) := hd 4 (by decide) (by rfl)
                have y1 := HQ4.out
                go_simp
                exact hK _ _ rfl (Below.refl _ _) rfl (fun h => absurd h (by decide))
              · simp only [List.getElem?_toArray, List.getElem?_cons_succ, List.getElem?_cons_zero, Option.some.injEq] at ho
                subst ho
                simp only [RegS.putAll, List.length_cons, List.length_nil, Nat.reduceAdd, List.getD_cons_zero, List.getD_cons_succ, Act.put, List.setIfInBounds_toArray, List.set_cons_zero, List.set_cons_succ]
                have e5 : u 5 = .int .u8 (q4 : Nat) := hd 5 (by decide) (by rfl)
                have y1 := HQ5.out
                go_simp
                exact hK _ _ rfl (Below.refl _ _) rfl (fun h => absurd h (by decide))
              · simp only [List.getElem?_toArray, List.getElem?_cons_succ, List.getElem?_cons_zero, Option.some.injEq] at ho
                subst ho
                simp only [RegS.putAll, List.length_cons, List.length_nil, Nat.reduceAdd, List.getD_cons_zero, List.getD_cons_succ, Act.put, List.setIfInBounds_toArray, List.set_cons_zero, List.set_cons_succ]
                go_simp
                exact hK _ _ rfl (Below.refl _ _) rfl (fun h => absurd h (by decide))
              · simp only [List.getElem?_toArray, List.getElem?_cons_succ, List.getElem?_cons_zero, Option.some.injEq] at ho
                subst ho
                simp only [RegS.putAll, List.length_cons, List.length_nil, Nat.reduceAdd, List.getD_cons_zero, List.getD_cons_succ, Act.put, List.setIfInBounds_toArray, List.set_cons_zero, List.set_cons_succ]
                have e7 : u 7 = .int .i64 (i : Nat) := hd 7 (by decide) (by rfl)
                have y1 := HR1.out
                go_simp
                exact hK _ _ rfl (Below.refl _ _) rfl (fun h => absurd h (by decide))
              · simp only [List.getElem?_toArray, List.getElem?_cons_succ, List.getElem?_cons_zero, Option.some.injEq] at ho
                subst ho
                simp only [RegS.putAll, List.length_cons, List.length_nil, Nat.reduceAdd, List.getD_cons_zero, List.getD_cons_succ, Act.put, List.setIfInBounds_toArray, List.set_cons_zero, List.set_cons_succ]
                have e8 : u 8 = .int .i64 (r20 : Nat) := hd 8 (by decide) (by rfl)
                have y1 := HR2.out
                go_simp
                exact hK _ _ rfl (Below.refl _ _) rfl (fun h => absurd h (by decide))
              · simp only [List.getElem?_toArray, List.getElem?_cons_succ, List.getElem?_cons_zero, Option.some.injEq] at ho
                subst ho
                simp only [RegS.putAll, List.length_cons, List.length_nil, Nat.reduceAdd, List.getD_cons_zero, List.getD_cons_succ, Act.put, List.setIfInBounds_toArray, List.set_cons_zero, List.set_cons_succ]
                have e9 : u 9 = .int .u8 (r20 : Nat) := hd 9 (by decide) (by rfl)
                have y1 := HR3.out
                go_simp
                exact hK _ _ rfl (Below.refl _ _) rfl (fun h => absurd h (by decide))
              · simp only [List.getElem?_toArray, List.getElem?_cons_succ, List.getElem?_cons_zero, Option.some.injEq] at ho
                subst ho
                simp only [RegS.putAll, List.length_cons, List.length_nil, Nat.reduceAdd, List.getD_cons_zero, List.getD_cons_succ, Act.put, List.setIfInBounds_toArray, List.set_cons_zero, List.set_cons_succ]
                have e10 : u 10 = .int .u8 (ch.toNat : Int) := hd 10 (by decide) (by rfl)
                go_simp
                refine (HALL.out _).mono ?_
                rintro q w2 ⟨rfl, hb2⟩
                exact hK _ _ rfl hb2 rfl (fun h => absurd h (by decide))
              · simp only [List.getElem?_toArray, List.getElem?_cons_succ, List.getElem?_cons_zero, Option.some.injEq] at ho
                subst ho
                simp only [RegS.putAll, List.length_cons, List.length_nil, Nat.reduceAdd, List.getD_cons_zero, List.getD_cons_succ, Act.put, List.setIfInBounds_toArray, List.set_cons_zero, List.set_cons_succ]
                have e0 : u 0 = dkv A 4 c B m e lf dd := hd 0 (by decide) (by rfl)
                have e6 : u 6 = .int .i64 (q4 : Nat) := hd 6 (by decide) (by rfl)
                have e11 : u 11 = .string (reps ch 128) := hd 11 (by decide) (by rfl)
                go_simp
                refine (HPUT.out ww (fun b => b ≠ bd ∧ b < wE.heap.size) ((HDE.out.lt'.mono fun b h => ⟨h.1.1, h.2⟩).below hb)).mono ?_
                rintro q w2 ⟨v, rfl, hv, hb2⟩
                exact hK _ _ rfl hb2 ⟨v, rfl, hv.mono fun b h => h.elim (fun h => .inl h) fun h => .inr (Nat.le_trans hb.size h)⟩ (fun h => absurd h (by decide))
            case tail =>
              intro u ww hb hG hp hne
              simp only [RegS.putAll, List.length_cons, List.length_nil, Nat.reduceAdd, List.getD_cons_zero, List.getD_cons_succ, Act.put, List.setIfInBounds_toArray, List.set_cons_zero, List.set_cons_succ, List.drop_succ_cons, List.drop_zero]
              obtain ⟨A3, n3, c3, B3, m3, e3, e14, hD3⟩ := hG 14 (by decide)
              have e15 : u 15 = .int .i64 (PP.2 : Nat) := hG 15 (by decide)
              clear hG hp hne
              have k11' := k11.belowS hb
              have hD4 := hD3.notBox k11' noStr_disk
              obtain ⟨lf3, hlf3⟩ : ∃ lf3, lf3 = PP.1.left := ⟨_, rfl⟩
              obtain ⟨dd3, hdd3⟩ : ∃ dd3, dd3 = PP.1.dead := ⟨_, rfl⟩
              rw [← hlf3, ← hdd3] at e14
              have HL3 := hide hlf3
              have HD3' := hide hdd3
              have HDK3 := hide hD4
              clear hlf3 hdd3 hD4 hD3 HPUT HALL
              obtain ⟨q0, q1, q2, q3⟩ := k11'.cell4
              have f0 := k11'.frozen 0
              have f1' := k11'.frozen 1
              have f2' := k11'.frozen 2
              have f3' := k11'.frozen 3
              go_wp2_with fail
              refine NoPanic.normal ?_
              go_wp2_with fail
              go_meet
              refine ⟨PP.2, PP.1, A3, n3, c3, B3, m3, e3, by first | rfl | exact e15, HPP.out, by rw [← HL3.out, ← HD3'.out]; exact k11'.set4, ?_, (k5.belowS hb).far4 hbne, ((HDE.out.below hb).keep (by rw [set4_size]; exact Nat.le_refl _) fun b hb1 hb2 => set4_far (by have := hb1.2; omega)).mono fun b h => h.1, below_set4 (hbwE.trans (hb.mono hbwE.size)) hwsz⟩
              · exact (HDK3.out.set4 fun x hx => hx.2).mono fun x hx => ⟨hx.1.elim (fun h => h.1) fun h => by have := k5.lt; omega, hx.2⟩
          · have x1 : decide ((0 : Int) < (q3 : Int)) = false := by simp; omega
            have x2 : decide (0 < q3) = false := by simpa using hq3z
            have HK11 := hide k11
            have HK5 := hide k5
            have hz3 : q3 = 0 := by omega
            clear hq3z k11 k5 x1 x2
            subst hz3
            go_wp2_with fail
            go_meet
            exact ⟨PB.2, PB.1, A2, n2, c2, B2, m2, e2, rfl, HPB.out, by rw [← HLF2.out, ← HDD2.out]; exact HK11.out, HD2F.out, HK5.out, HDE.out.mono fun b h => h.1, hbwE⟩
        case rest =>
          revert wc
          intro wX hcut
          obtain ⟨er, dR, A3, n3, c3, B3, m3, e3, rfl, ⟨hE, hWl⟩, kE, hDR, kB, hDB, hbX⟩ := hcut
          have hm3 : m3 ≤ i + 1 := by rw [← hDR.wlen]; omega
          have hkB := kB.cell4
          have hn3 : n3 = 4 := by
            rw [← hDR.len]
            rcases hE with ⟨_, _, h⟩ | ⟨_, _, _, h⟩
            · exact h.len
            · exact h.len
          subst hn3
          have hbe2 : bd ≠ be := hbne.symm
          clear HPUT0 HBAR HALL HDE0 HBUD HD3 HD2 HD2E HD2F HDE HDE0' k11 k5 hbwE HPP HPB
          rcases hE with ⟨rfl, hkN, hb2⟩ | ⟨rfl, hkN, hdead, hb2⟩
          · have hl : dR.left = (N : Int) - ((k : Int) + 1) := by rw [hb2.left]; omega
            have hdd3 : dR.dead = dR.dead := rfl
            rw [hl] at kE
            obtain ⟨dd3, hdd3'⟩ : ∃ dd3, dd3 = dR.dead := ⟨_, rfl⟩
            rw [← hdd3'] at kE
            have HL := hide hl
            have HD3' := hide hdd3'
            have HB2 := hide hb2
            have HDR := hide hDR
            have z1 : decide (k < N) = true := by simpa using hkN
            have z2 : (k : Int) < (N : Int) := by omega
            have z3 : (N : Int) < 20 := by omega
            obtain ⟨q0, q1, q2, q3'⟩ := kE.cell4
            obtain ⟨r0, r1, r2, r3⟩ := hkB
            have f0 := kB.frozen 0
            have f1 := kB.frozen 1
            have f2 := kB.frozen 2
            have f3 := kB.frozen 3
            have hbdX := hbX
            clear hl hdd3 hdd3' hb2 hDR hDB hkN
            go_wp2_with fail
            go_roundw
            case rel => exact ⟨i + 1, k + 1, by go_num, by go_num, by omega, A3, c3, B3, m3, e3, dR, HB2.out, hm3, by rw [HL.out, ← HD3'.out]; exact kB.set4, (HDR.out.set4 fun x hx => hx.1).mono fun x hx => hx.1, below_set4 hbdX hs1⟩
            case measure => simp [intOf]; omega
          · obtain ⟨lf3, hlf3⟩ : ∃ lf3, lf3 = dR.left := ⟨_, rfl⟩
            rw [← hlf3, hdead] at kE
            have HL := hide hlf3
            have HD3' := hide hdead
            have HB2 := hide hb2
            have HDR := hide hDR
            have z1 : decide (k < N) = false := by simp; omega
            have z2 : decide ((k : Int) < (N : Int)) = false := by simp; omega
            obtain ⟨q0, q1, q2, q3'⟩ := kE.cell4
            obtain ⟨r0, r1, r2, r3⟩ := hkB
            have f0 := kB.frozen 0
            have f1 := kB.frozen 1
            have f2 := kB.frozen 2
            have f3 := kB.frozen 3
            have hbdX := hbX
            have HKN := hide hkN
            clear hlf3 hdead hb2 hDR hDB hkN
            go_wp2_with fail
            go_roundw
            case rel => exact ⟨i + 1, k, by go_num, rfl, by omega, A3, c3, B3, m3, e3, dR, by rw [HKN.out]; exact HB2.out, hm3, by rw [← HL.out, HD3'.out]; exact kB.set4, (HDR.out.set4 fun x hx => hx.1).mono fun x hx => hx.1, below_set4 hbdX hs1⟩
            case measure => simp [intOf]; omega
      · have hB := hbw
        by_cases h1 : i < n0
        · have d1 : decide (i < n0) = true := by simpa using h1
          have d2 : decide ((i : Int) < 30) = false := by simp; omega
          clear hgo h1 hbud hmi kbd hD hbw
          go_wp2_with fail
          go_meet
          exact hB
        · have d1 : decide (i < n0) = false := by simpa using h1
          clear hgo h1 hbud hmi kbd hD hbw
          go_wp2_with fail
          go_meet
          exact hB
  case rest =>
    revert wc
    intro wM hbM
    go_wp2_with fail
    refine (awake17_any _).mono ?_
    rintro q w9 ⟨rfl, hb9⟩
    go_wp2_with fail
    go_ret
    exact ⟨rfl, hbM.trans (hb9.mono hbM.size)⟩
end Go.Proofs.Yteoiadfcchalfaa
