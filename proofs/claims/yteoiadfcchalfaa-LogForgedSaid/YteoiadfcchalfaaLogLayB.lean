/- The document's Lay of layer 18: some octets, as many as the record's sectors have; a new disk whose sectors are a row of one's own. -/
import Derived.Test.YteoiadfcchalfaaLogLay
import Derived.Test.YteoiadfcchalfaaLogL
import Derived.Lib.ConvBytes
namespace Go.Proofs.Yteoiadfcchalfaa
open Go.RowKit
open DiskP (Bytes Disk Wr Fate noughts)
set_option linter.unusedVariables false

theorem bytesV_noughts (n : Nat) : bytesV (noughts n) = (madeCells (Value.int .u8 0).cells (n * 1)).toList := by
  rw [show (Value.int .u8 0).cells = #[Value.int .u8 0] from rfl, toList_madeCells_one]
  simp [bytesV, noughts]

set_option maxRecDepth 100000 in
theorem rnoughts_any (k n : Nat) (w : World) (hk : n = 128 * k) (hn : k ≤ 700) :
    Calls Try.prog 76 #[.int .i64 k] w fun e w' => e = .returned (.string (mkB (noughts n))) ∧ Below w.heap.size w w' := by
  obtain ⟨i0, hi, hz0, hz1, hz2⟩ := info_parts Try.info5
  have hkn : (128 : Int) * (k : Int) = (n : Int) := by omega
  have hn2 : n ≤ 100000 := by omega
  have HI := hide hi
  clear hk hn hi
  go_enter Try.func76, Try.ntmps76
  go_wp2_with (at_make; refine wpList_make_full _ rfl _ _ 62 rfl w.heap.size 5 i0 (.int .u8 0) 1 Try.underlying62 HI.out hz0 hz1 .i64 .i64 n n n rfl rfl rfl rfl (by rw [hz2]; omega) (by simp only [maxLen]; omega) (Nat.le_refl _) ?_; intro w1 hown hgrow)
  have hb1 : Below w.heap.size w w1 := (Below.refl _ _).grown hgrow (Nat.le_refl _) (by simp)
  rw [← bytesV_noughts] at hown
  have hsl := Sl.of_own hown
  have hcv := conv_str (P := Try.prog) (c := n) hsl 62 9 5 Try.underlying62 Try.underlying5 Try.underlying9
  clear hown hsl hgrow
  rw [hcv]
  go_wp2_with fail
  go_ret
  exact ⟨rfl, hb1⟩

/-- a row of octets, of which a string's mark stands behind -/
def BRow (w : World) (b : Nat) (l : List UInt8) : Prop := ∃ (cs : Array Value) (k : Nat), w.heap[b]? = some (.cells cs 5 (k, k + 1)) ∧ l.length ≤ k ∧ ∀ (j : Nat) (u : Value), (bytesV l)[j]? = some u → cs[j]? = some u
section
variable {w w' : World} {b : Nat} {l : List UInt8}
theorem BRow.lt (h : BRow w b l) : b < w.heap.size := by
  obtain ⟨cs, k, h1, _⟩ := h
  exact (Array.getElem?_eq_some_iff.1 h1).1
theorem BRow.cell (h : BRow w b l) {j : Nat} (hj : j < l.length) : w.cell? ⟨b, j, none⟩ = some (.int .u8 (l[j].toNat : Int)) := by
  obtain ⟨cs, k, h1, h2, h3⟩ := h
  have := h3 j (.int .u8 (l[j].toNat : Int)) (by rw [bytesV, List.getElem?_map, List.getElem?_eq_getElem hj]; rfl)
  simp [World.cell?, h1, this]
theorem BRow.frozen (h : BRow w b l) {j : Nat} (hj : j < l.length) : w.frozen? ⟨b, j, none⟩ = false := by
  obtain ⟨cs, k, h1, h2, h3⟩ := h
  simp [World.frozen?, h1]
  omega
theorem BRow.set (h : BRow w b l) {j : Nat} (hj : j < l.length) (c : UInt8) : BRow (w.setCell ⟨b, j, none⟩ (.int .u8 (c.toNat : Int))) b (l.set j c) := by
  obtain ⟨cs, k, h1, h2, h3⟩ := h
  refine ⟨cs.setIfInBounds j (.int .u8 (c.toNat : Int)), k, by simp [World.setCell, Array.getElem?_modify, h1], by rw [List.length_set]; exact h2, fun i u hu => ?_⟩
  have e : bytesV (l.set j c) = (bytesV l).set j (.int .u8 (c.toNat : Int)) := by simp [bytesV, List.map_set]
  have hjc : j < cs.size := by
    have := h3 j _ (List.getElem?_eq_getElem (by rw [bytesV_length]; exact hj))
    exact (Array.getElem?_eq_some_iff.1 this).1
  rw [e] at hu
  by_cases hij : j = i
  · subst hij
    rw [List.getElem?_set_self (by rw [bytesV_length]; exact hj)] at hu
    rw [← hu]
    simp [hjc]
  · rw [List.getElem?_set_ne hij] at hu
    rw [Array.getElem?_setIfInBounds_ne hij]
    exact h3 i u hu
theorem BRow.sl (h : BRow w b l) : Sl w (fun x => x = b) 1 (some ⟨b, 0, none⟩) l.length (bytesV l) := by
  have hlt := h.lt
  obtain ⟨cs, k, h1, h2, h3⟩ := h
  refine ⟨by rw [bytesV_length, Nat.mul_one], fun _ => ⟨⟨b, 0, none⟩, rfl, rfl, hlt, fun j u hu => ?_⟩⟩
  rw [add_base]
  simp [World.cell?, h1, h3 j u hu]
theorem BRow.new (w : World) (s : ByteArray) : BRow (Go.Lib.bytesWorld w 5 s) w.heap.size (oct s) := by
  refine ⟨_, _, Go.Lib.bytesWorld_at_new w 5 s, ?_, fun j u hu => ?_⟩
  · rw [oct_length, Go.Lib.bytesCells, Array.size_append, Array.size_map]; exact Nat.le_add_right _ _
  · have hj : j < s.size := by have := (List.getElem?_eq_some_iff.1 hu).1; rw [bytesV_length, oct_length] at this; exact this
    rw [bytesV, List.getElem?_map] at hu
    have hj' : j < s.data.size := hj
    rw [Go.Lib.bytesCells, Array.getElem?_append_left (by rw [Array.size_map]; exact hj'), Array.getElem?_map]
    rw [show (oct s)[j]? = s.data[j]? by simp [oct]] at hu
    exact hu
end
theorem below_bytes (w : World) (s : ByteArray) : Below w.heap.size w (Go.Lib.bytesWorld w 5 s) := by
  have h : Below w.heap.size w (w.drew.alloc (.cells (Go.Lib.bytesCells w 5 s) 5)) := (Below.refl w.heap.size w).drew.alloc (Nat.le_refl _) _
  exact ⟨h.os, h.tape, h.output, by rw [Go.Lib.bytesWorld_size]; omega, fun k hk => Go.Lib.bytesWorld_at_old w _ s k hk⟩
theorem u8_is (z : Int) : ∃ b : UInt8, z % 256 = (b.toNat : Int) := by
  refine ⟨UInt8.ofNat (z % 256).toNat, ?_⟩
  have h0 : 0 ≤ z % 256 := Int.emod_nonneg _ (by decide)
  have h1 : z % 256 < 256 := Int.emod_lt_of_pos _ (by decide)
  simp
  omega
theorem BRow.setz {w : World} {b : Nat} {l : List UInt8} (h : BRow w b l) {j : Nat} (hj : j < l.length) (z : Int) : ∃ l', l'.length = l.length ∧ BRow (w.setCell ⟨b, j, none⟩ (.int .u8 (z % 256))) b l' := by
  obtain ⟨c, hc⟩ := u8_is z
  rw [hc]
  exact ⟨_, by rw [List.length_set], h.set hj c⟩
/-- a row of so many octets, whatever they are -/
def BN (w0 : World) (b n : Nat) (wr : World) : Prop := ∃ l : List UInt8, l.length = n ∧ BRow wr b l ∧ Below w0.heap.size w0 wr
theorem BN.cell {w0 wr : World} {b n j : Nat} (h : BN w0 b n wr) (hj : j < n) : ∃ u, wr.cell? ⟨b, j, none⟩ = some u := by
  obtain ⟨l, rfl, h1, _⟩ := h
  exact ⟨_, h1.cell hj⟩
theorem BN.frozen {w0 wr : World} {b n j : Nat} (h : BN w0 b n wr) (hj : j < n) : wr.frozen? ⟨b, j, none⟩ = false := by
  obtain ⟨l, rfl, h1, _⟩ := h
  exact h1.frozen hj
theorem BN.setz {w0 wr : World} {b n j : Nat} (h : BN w0 b n wr) (hj : j < n) (hb : w0.heap.size ≤ b) (z : Int) : BN w0 b n (wr.setCell ⟨b, j, none⟩ (.int .u8 (z % 256))) := by
  obtain ⟨l, rfl, h1, h2⟩ := h
  obtain ⟨l', e, h3⟩ := h1.setz hj z
  exact ⟨l', e, h3, h2.setCell hb _⟩
theorem BN.set {w0 wr : World} {b n j : Nat} (h : BN w0 b n wr) (hj : j < n) (hb : w0.heap.size ≤ b) (c : UInt8) : BN w0 b n (wr.setCell ⟨b, j, none⟩ (.int .u8 (c.toNat : Int))) := by
  obtain ⟨l, rfl, h1, h2⟩ := h
  exact ⟨_, by rw [List.length_set], h1.set hj c, h2.setCell hb _⟩

set_option maxRecDepth 100000 in
set_option maxHeartbeats 1600000 in
theorem lay18_any (q : Int) (s : ByteArray) (w : World) (hs : s.size ≤ 117) :
    Calls Try.prog 44 #[.int .i64 q, .string s] w fun e w' => ∃ t, e = .returned (.string t) ∧ t.size = 128 ∧ Below w.heap.size w w' := by
  have h1 : LogP.secs s.size = 1 := by unfold LogP.secs; rw [if_neg (by omega), if_pos (by omega)]
  have hsec : ∀ w1, Calls Try.prog 77 #[.int .i64 (s.size : Nat)] w1 fun q w' => q = .returned (.int .i64 1) ∧ w1 = w' := fun w1 => by
    have := rsecs_any s.size w1 (by omega)
    rw [h1] at this
    exact this
  have hno : ∀ w1, Calls Try.prog 76 #[.int .i64 1] w1 fun e w' => e = .returned (.string (mkB (noughts 128))) ∧ Below w1.heap.size w1 w' := fun w1 => rnoughts_any 1 128 w1 rfl (by decide)
  obtain ⟨z, hz⟩ : ∃ z, z = mkB (noughts 128) := ⟨_, rfl⟩
  have hzs : z.size = 128 := by rw [hz, mkB_size]; simp [noughts]
  rw [← hz] at hno
  have HSEC := hide hsec
  have HNO := hide hno
  obtain ⟨n, hn⟩ : ∃ n, n = s.size := ⟨_, rfl⟩
  have t1 : (s.size : Int).tdiv 256 = 0 := by rw [Int.tdiv_eq_ediv_of_nonneg (by omega)]; omega
  have t2 : (s.size : Int).tmod 256 = (s.size : Int) := by rw [Int.tmod_eq_emod_of_nonneg (by omega)]; omega
  have t3 : IntKind.u8.wrap (s.size : Int) = (s.size : Int) := by
    have : ∀ z : Fin 256, IntKind.u8.wrap ((z.val : Nat) : Int) = ((z.val : Nat) : Int) := by decide
    exact this ⟨s.size, by omega⟩
  have hz0 : (0 : Int) < (z.size : Int) := by omega
  clear h1 hsec hno hz
  go_enter Try.func44, Try.ntmps44
  go_wp2_with fail
  refine (HSEC.out _).mono ?_
  rintro r w1 ⟨rfl, rfl⟩
  go_wp2_with fail
  refine (HNO.out _).mono ?_
  rintro r w2 ⟨rfl, hb2⟩
  have hcv := Go.Lib.run_convert_string_bytes (P := Try.prog) w2 9 62 5 z Try.underlying9 Try.underlying62 Try.underlying5
  have hbn : BN w w2.heap.size 128 (Go.Lib.bytesWorld w2 5 z) := ⟨oct z, by rw [oct_length, hzs], BRow.new w2 z, hb2.trans ((below_bytes w2 z).mono hb2.size)⟩
  have hsz := hb2.size
  obtain ⟨wB, hwB⟩ : ∃ x, x = Go.Lib.bytesWorld w2 5 z := ⟨_, rfl⟩
  obtain ⟨b, hb⟩ : ∃ b, b = w2.heap.size := ⟨_, rfl⟩
  rw [← hb] at hbn hsz hcv
  rw [← hwB] at hcv hbn
  obtain ⟨cp, hcp⟩ : ∃ cp, cp = grownCap w2 z.size 0 5 := ⟨_, rfl⟩
  rw [← hcp, hzs] at hcv
  obtain ⟨u0, k0⟩ := hbn.cell (j := 0) (by omega)
  obtain ⟨u1, k1⟩ := hbn.cell (j := 1) (by omega)
  have f0 := hbn.frozen (j := 0) (by omega)
  have f1 := hbn.frozen (j := 1) (by omega)
  have hbn1 := (hbn.set (j := 0) (by omega) hsz 0).set (j := 1) (by omega) hsz (UInt8.ofNat s.size)
  rw [show (((0 : UInt8).toNat : Nat) : Int) = 0 from rfl, show (((UInt8.ofNat s.size).toNat : Nat) : Int) = (s.size : Int) by simp; omega] at hbn1
  have HBN := hide hbn1
  clear hb2 hwB hb hcp hbn hbn1
  go_wp2_with fail
  go_loopw [0, 7] (fun qv iv wr => ∃ (q : Int) (i : Nat), qv = .int .i64 q ∧ iv = .int .i64 i ∧ 1 ≤ i ∧ i ≤ 9 ∧ BN w b 128 wr) (fun _ iv _ => (intOf iv).toNat)
  case atStart => exact ⟨q, 9, rfl, rfl, by omega, by omega, HBN.out⟩
  case round =>
    clear HBN k0 k1 f0 f1
    obtain ⟨q, i, rfl, rfl, hi1, hi9, hbn⟩ := hrel
    by_cases hi : 1 < i
    · obtain ⟨u, kc⟩ := hbn.cell (j := i) (by omega)
      have fc := hbn.frozen (j := i) (by omega)
      have hi' : (1 : Int) < (i : Int) := by omega
      have hi2 : (i : Int) ≤ 9 := by omega
      have HBN := hide hbn
      clear hbn
      go_wp2_with fail
      go_roundw
      case rel => exact ⟨_, i - 1, rfl, by rw [show ((i - 1 : Nat) : Int) = (i : Int) - 1 by omega], by omega, by omega, HBN.out.setz (by omega) hsz _⟩
      case measure => simp [intOf]; omega
    · obtain rfl : i = 1 := by omega
      have HBN := hide hbn
      have hsI : (s.size : Int) ≤ 117 := by omega
      clear hbn
      go_wp2_with fail
      go_loopw [8] (fun jv wr => ∃ j : Nat, jv = .int .i64 j ∧ j ≤ s.size ∧ BN w b 128 wr) (fun jv _ => s.size - (intOf jv).toNat)
      case atStart => exact ⟨0, rfl, by omega, HBN.out⟩
      case round =>
        clear HBN
        obtain ⟨j, rfl, hjs, hbn⟩ := hrel
        by_cases hj : j < s.size
        · obtain ⟨u, kc⟩ := hbn.cell (j := 10 + j) (by omega)
          have fc := hbn.frozen (j := 10 + j) (by omega)
          have hj1 : (j : Int) < 117 := by omega
          have hj2 : (10 : Int) + (j : Int) < 128 := by omega
          have hj3 : (j : Int) < (s.size : Int) := by omega
          have hadd : ((10 : Int) + (j : Int)).toNat = 10 + j := by omega
          have HBN := hide hbn
          clear hbn
          go_wp2_with fail
          go_roundw
          case rel => exact ⟨j + 1, by go_num, by omega, HBN.out.set (by omega) hsz _⟩
          case measure => simp [intOf]; omega
        · have e2 : j = s.size := by omega
          subst e2
          obtain ⟨u, kc⟩ := hbn.cell (j := 127) (by omega)
          have fc := hbn.frozen (j := 127) (by omega)
          obtain ⟨l, hll, hrow, hbw⟩ := hbn.set (j := 127) (by omega) hsz 1
          rw [show (((1 : UInt8).toNat : Nat) : Int) = 1 from rfl] at hrow hbw
          have hsl := hrow.sl
          rw [hll] at hsl
          have hcv2 := conv_str (P := Try.prog) (c := cp) hsl 62 9 5 Try.underlying62 Try.underlying5 Try.underlying9
          have HLL := hide hll
          have HBW := hide hbw
          clear hbn hj hrow hll hbw hsl
          go_wp2_with fail
          go_ret
          exact ⟨_, rfl, by rw [size_mk]; exact HLL.out, HBW.out⟩
set_option maxRecDepth 100000 in
set_option maxHeartbeats 1600000 in
theorem new_own (n : Nat) (w : World) (h1 : 1 ≤ n) (hn : n ≤ 4000) :
    Calls Try.prog 32 #[.int .i64 n] w fun q w' => ∃ g, q = .returned (.tuple #[.agg #[.slice (some ⟨g, 0, none⟩) n n, .slice none 0 0, .int .i64 (-1), .bool false], .int .i64 0]) ∧ w'.ownsRow w.heap.size 9 1 (.slice (some ⟨g, 0, none⟩) n n) n (secV (DiskP.new n).S) ∧ Below w.heap.size w w' := by
  have hB := Box.new w 50 #[.slice none 0 0, .slice none 0 0, .int .i64 0, .bool false]
  have hb : Below w.heap.size w (w.alloc (.cells #[.slice none 0 0, .slice none 0 0, .int .i64 0, .bool false] 50)) := (Below.refl _ _).alloc (Nat.le_refl _) _
  obtain ⟨z, hz⟩ : ∃ z, z = mkB (DiskP.noughts 128) := ⟨_, rfl⟩
  have hzs := fun w => noughts_any 128 w (by omega) (by omega)
  rw [show ((128 : Int).toNat) = 128 from rfl, ← hz] at hzs
  have HZ := hide hz
  have HZS := hide hzs
  clear hz hzs
  go_enter Try.func32, Try.ntmps32
  go_wp2_with fail
  refine (HZS.out _).mono ?_
  rintro q w1 ⟨rfl, hb1⟩
  have kB1 := hB.belowS hb1
  have hbw1 := hb.trans (hb1.mono hb.size)
  have hlt1 := kB1.lt
  go_wp2_with fail
  refine (repeat_any w1.heap.size 1 n z _ hn h1 (by simp [go_sem]) (by simp) (Nat.le_refl _)).mono ?_
  rintro q w2 ⟨g, rfl, ho2, hb2⟩
  have kB2 := (kB1.up (.cells #[.string z] 9)).belowS hb2
  have hbw2 := (hbw1.alloc hbw1.size (.cells #[.string z] 9)).trans (hb2.mono (by have := hbw1.size; simp; omega))
  obtain ⟨p0, p1, p2, p3⟩ := kB2.cell4
  have f0 := kB2.frozen 0
  have f1 := kB2.frozen 1
  have f2 := kB2.frozen 2
  have f3 := kB2.frozen 3
  go_wp2_with fail
  have kF := kB2.set4 (u0 := .slice (some ⟨g, 0, none⟩) n n) (u1 := .slice none 0 0) (u2 := .int .i64 (-1)) (u3 := .bool false)
  have hbF := below_set4 (b := w.heap.size) (u0 := .slice (some ⟨g, 0, none⟩) n n) (u1 := .slice none 0 0) (u2 := .int .i64 (-1)) (u3 := .bool false) hbw2 (Nat.le_refl _)
  obtain ⟨s0, s1, s2, s3⟩ := kF.cell4
  rw [World.size_alloc] at ho2
  have e : secV (DiskP.new n).S = List.replicate n (.string z) := by simp [secV, DiskP.new, strs, HZ.out]
  refine bodyPost_ret (v := .tuple #[.agg #[.slice (some ⟨g, 0, none⟩) n n, .slice none 0 0, .int .i64 (-1), .bool false], .int .i64 0]) (by simp [results, Try.results32, go_sem, s0, s1, s2, s3]) rfl ⟨g, rfl, ?_, hbF⟩
  rw [e]
  exact own_mono (own_set4 ho2 (by omega) _ _ _ _) (by omega)

set_option maxRecDepth 100000 in
set_option maxHeartbeats 800000 in
theorem some_own (n : Nat) (w : World) (h1 : 1 ≤ n) (hn : n ≤ 4000) :
    Calls Try.prog 42 #[.int .i64 n] w fun q w' => ∃ g, q = .returned (.agg #[.slice (some ⟨g, 0, none⟩) n n, .slice none 0 0, .int .i64 (-1), .bool false]) ∧ w'.ownsRow w.heap.size 9 1 (.slice (some ⟨g, 0, none⟩) n n) n (secV (DiskP.new n).S) ∧ Below w.heap.size w w' := by
  have hnew := fun w1 => new_own n w1 h1 hn
  obtain ⟨S, hS⟩ : ∃ S, S = (DiskP.new n).S := ⟨_, rfl⟩
  rw [← hS] at hnew ⊢
  have HN := hide hnew
  clear hS
  clear hnew h1 hn
  go_enter Try.func42, Try.ntmps42
  go_wp2_with fail
  refine (HN.out _).mono ?_
  rintro q w1 ⟨g, rfl, ho, hb1⟩
  have hb0 : Below w.heap.size w (w.alloc (.cells #[.slice none 0 0, .slice none 0 0, .int .i64 0, .bool false] 50)) := (Below.refl _ _).alloc (Nat.le_refl _) _
  have hbw := hb0.trans (hb1.mono hb0.size)
  have kA := (Box.new w 50 #[.slice none 0 0, .slice none 0 0, .int .i64 0, .bool false]).belowS hb1
  have HO := hide ho
  have hlt := kA.lt
  obtain ⟨q0, q1, q2, q3⟩ := kA.cell4
  have f0 := kA.frozen 0
  have f1 := kA.frozen 1
  have f2 := kA.frozen 2
  have f3 := kA.frozen 3
  clear ho
  go_wp2_with fail
  have kC := (kA.set4 (u0 := .slice (some ⟨g, 0, none⟩) n n) (u1 := .slice none 0 0) (u2 := .int .i64 (-1)) (u3 := .bool false)).up (.cells #[.slice (some ⟨g, 0, none⟩) n n, .slice none 0 0, .int .i64 (-1), .bool false] 50)
  have hbF := (below_set4 (b := w.heap.size) (u0 := .slice (some ⟨g, 0, none⟩) n n) (u1 := .slice none 0 0) (u2 := .int .i64 (-1)) (u3 := .bool false) hbw (Nat.le_refl _)).alloc (by rw [set4_size]; omega) (.cells #[.slice (some ⟨g, 0, none⟩) n n, .slice none 0 0, .int .i64 (-1), .bool false] 50)
  obtain ⟨s0, s1, s2, s3⟩ := kC.cell4
  refine bodyPost_ret (v := .agg #[.slice (some ⟨g, 0, none⟩) n n, .slice none 0 0, .int .i64 (-1), .bool false]) (by simp [results, Try.results42, go_sem, s0, s1, s2, s3]) rfl ⟨g, rfl, ?_, hbF⟩
  exact (own_mono (own_set4 HO.out (by simp) _ _ _ _) (by simp)).alloc _
end Go.Proofs.Yteoiadfcchalfaa
