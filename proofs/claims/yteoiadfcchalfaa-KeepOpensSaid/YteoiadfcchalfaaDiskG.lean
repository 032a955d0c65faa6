/- The walks of layer 17: the reference's Same of equal disks without writes that wait, and its May. (merged: DiskE DiskF DiskG) -/
import Derived.Test.YteoiadfcchalfaaDiskD
import Derived.Test.YteoiadfcchalfaaShelf
import Derived.Laws.CopyOwn
/-! The walks of layer 17: slices.Repeat, New, and the law's own All, octets, Fates. -/
namespace Go.Proofs.Yteoiadfcchalfaa
open Go.RowKit
open DiskP (Bytes Disk Wr Fate)
set_option linter.unusedVariables false

theorem repeatL_nought (c : Nat) : Lib.repeatL [(0 : UInt8)] c = List.replicate c 0 := by
  induction c with
  | zero => rfl
  | succ c ih => simp [Lib.repeatL, List.replicate_succ] at *; exact ih
theorem noughts_any (m : Int) (w : World) (h0 : 0 ≤ m) (h1 : m ≤ 1000000) :
    Calls Try.prog 66 #[.string ⟨#[0]⟩, .int .i64 m] w fun e w' => e = .returned (.string (mkB (DiskP.noughts m.toNat))) ∧ Below w.heap.size w w' := by
  obtain ⟨c, rfl⟩ := Int.eq_ofNat_of_zero_le h0
  have := Try.strings_Repeat ⟨#[0]⟩ c w (by omega) (by show 1 * c ≤ _; omega)
  rw [show (⟨#[0]⟩ : ByteArray).data.toList = [0] from rfl, repeatL_nought] at this
  exact this

theorem mul_one_any (n : Nat) (hn : n ≤ 4000) (w : World) :
    Calls Try.prog 92 #[.int .u64 1, .int .u64 n] w fun e w' => e = .returned (.tuple #[.int .u64 0, .int .u64 n]) ∧ w = w' := by
  have := Try.bits_Mul 1 n (by omega) (by omega) w
  have e1 : 1 * n / 18446744073709551616 = 0 := by omega
  have e2 : 1 * n % 18446744073709551616 = n := by omega
  rw [e1, e2] at this
  exact this.mono fun _ _ h => ⟨h.1, h.2.symm⟩

/-- the row of a slice that was just made -/
theorem own_row {w : World} {base : Nat} {e : TypeId} {g n : Nat} {xs : List Value} (h : w.ownsRow base e 1 (.slice (some ⟨g, 0, none⟩) n n) n xs) : w.heap[g]? = some (.cells xs.toArray e (0, 0)) ∧ base ≤ g := by
  rcases h.2 with ⟨h', _⟩ | ⟨g', cap', cur, h', hb, hg, _, _, hsz, htake⟩
  · simp at h'
  · simp only [Value.slice.injEq, Option.some.injEq, Addr.mk.injEq, and_true, true_and] at h'
    obtain ⟨rfl, rfl⟩ := h'
    rw [List.take_of_length_le (by simpa using Nat.le_of_eq hsz)] at htake
    rw [← htake]
    exact ⟨hg, hb⟩
theorem own_of_row {w : World} {base : Nat} {e : TypeId} {g n : Nat} {xs : List Value} (h : w.heap[g]? = some (.cells xs.toArray e (0, 0))) (hb : base ≤ g) (hn : xs.length = n) (hm : n ≤ maxLen) : w.ownsRow base e 1 (.slice (some ⟨g, 0, none⟩) n n) n xs :=
  ⟨by simpa using hn, .inr ⟨g, n, xs.toArray, rfl, hb, h, Nat.le_refl _, hm, by simpa using hn, List.take_of_length_le (by simp; omega)⟩⟩

/-- k times a string, and n-k times the empty one -/
def repRow (s : ByteArray) (n k : Nat) : List Value := List.replicate k (.string s) ++ List.replicate (n - k) (.string .empty)
theorem repRow_len {s : ByteArray} {n k : Nat} (h : k ≤ n) : (repRow s n k).length = n := by simp [repRow]; omega
theorem repRow_full (s : ByteArray) (n : Nat) : repRow s n n = List.replicate n (.string s) := by simp [repRow]
theorem repRow_splice {s : ByteArray} {n k m : Nat} (h : k + m ≤ n) : splice (repRow s n k) k (List.replicate m (.string s)) = repRow s n (k + m) := by
  unfold splice repRow
  rw [List.take_left' (by simp), List.drop_append, List.drop_of_length_le (by simp), List.nil_append, List.length_replicate, List.length_replicate, List.drop_replicate, ← List.append_assoc, List.replicate_append_replicate]
  congr 2
  omega

set_option maxRecDepth 100000 in
set_option maxHeartbeats 3200000 in
theorem repeat_any (b c n : Nat) (s : ByteArray) (w : World) (hn : n ≤ 4000) (h1 : 1 ≤ n) (hc : w.cell? ⟨b, 0, none⟩ = some (.string s)) (hb : b < w.heap.size) (hc1 : 1 ≤ c) :
    Calls Try.prog 69 #[.slice (some ⟨b, 0, none⟩) 1 c, .int .i64 n] w fun e w' => ∃ g, e = .returned (.slice (some ⟨g, 0, none⟩) n n) ∧ w'.ownsRow w.heap.size 9 1 (.slice (some ⟨g, 0, none⟩) n n) n (List.replicate n (.string s)) ∧ Below w.heap.size w w' := by
  obtain ⟨i0, hi, hz0, hz1, hz2⟩ := info_parts Try.info9
  have hsz : (Try.prog.info? 9).map (·.size) = some 1 := by rw [hi]; simp [hz1]
  go_enter Try.func69, Try.ntmps69
  have hu := Try.underlying22
  have hmk : (madeCells (Value.string .empty).cells (n * 1)).toList = repRow s n 0 := by
    rw [show (Value.string .empty).cells = #[Value.string .empty] from rfl, toList_madeCells_one]
    simp [repRow]
  have hmin : [Value.string s].length = Nat.min 1 n := by
    show 1 = min 1 n
    omega
  have hfit0 : 0 + [Value.string s].length ≤ (repRow s n 0).length := by rw [repRow_len (Nat.zero_le _)]; simpa using h1
  have hone : ∀ u ∈ [Value.string s], u.oneCell' = true := by intro u hu; simp at hu; subst hu; rfl
  have hsrc : ∀ (w1 : World), w1.cell? ⟨b, 0, none⟩ = some (.string s) → ∀ (j : Nat) u, [Value.string s][j]? = some u → w1.cell? ((⟨b, 0, none⟩ : Addr).add j) = some u := by
    intro w1 hcs j u hj
    have hj0 : j = 0 := by have := (List.getElem?_eq_some_iff.1 hj).1; simp at this; omega
    subst hj0
    simp at hj; subst hj
    exact hcs
  have HMIN := hide hmin
  have HFIT := hide hfit0
  have HONE := hide hone
  have HSRC := hide hsrc
  clear hmin hfit0 hone hsrc
  have HMK := hide hmk
  have HU := hide hu
  have HI := hide hi
  clear hmk hu hi
  go_wp2_with (first
    | (go_at_call 92; refine (mul_one_any n hn _).mono ?_; rintro e w' ⟨rfl, rfl⟩)
    | (at_make; refine wpList_make_full _ rfl _ _ 22 rfl w.heap.size 9 i0 (.string .empty) 1 HU.out HI.out hz0 hz1 .i64 .i64 n n n rfl rfl rfl rfl (by rw [hz2]; omega) (by simp only [maxLen]; omega) (Nat.le_refl _) ?_; intro w1 hown hgrow; have hb1 : Below w.heap.size w w1 := (Below.refl _ _).grown hgrow (Nat.le_refl _) (by simp); rw [HMK.out] at hown; have hg0 := (own_row hown).1; have hcs := bcell hb1 hb hc; have HG0 := hide hg0; clear hg0 hown hgrow)
    | (refine wpList_copy_splice rfl (.tmp 31) (.tmp 32) 22 22 rfl 9 HU.out hsz (some ⟨w.heap.size, 0, none⟩) (some ⟨b, 0, none⟩) n n 1 c rfl rfl w.heap.size 0 (repRow s n 0) 9 HG0.out [.string s] HMIN.out (fun _ => ⟨rfl, _, rfl, HSRC.out _ hcs⟩) HFIT.out HONE.out w.heap.size w hb1 (Nat.le_refl _) ?_; intro w2 HG2 hb2))
  have hg2 := HG2.out
  rw [show splice (repRow s n 0) 0 [Value.string s] = repRow s n 1 from repRow_splice (m := 1) (by omega)] at hg2
  have HG := hide hg2
  clear hg2 HG2
  go_loopw [8] (fun kv wr => ∃ k : Nat, 1 ≤ k ∧ k ≤ n ∧ kv = .int .i64 k ∧ Hid (wr.heap[w.heap.size]? = some (.cells (repRow s n k).toArray 9 (0, 0))) ∧ Below w.heap.size w wr) (fun kv _ => n - (intOf kv).toNat)
  case atStart => exact ⟨1, Nat.le_refl _, h1, rfl, HG, hb2⟩
  case round =>
    clear HG hb2 hb1
    obtain ⟨k, hk1, hk, rfl, HR, hbr⟩ := hrel
    by_cases hlt : k < n
    · obtain ⟨m, hm⟩ : ∃ m, m = min k (n - k) := ⟨_, rfl⟩
      have hm0 : 0 < m := by omega
      have hmn : k + m ≤ n := by omega
      have HMN : Hid ((List.replicate m (Value.string s)).length = Nat.min k (n - k)) := by rw [List.length_replicate, hm]; rfl
      have HONE2 : Hid (∀ u ∈ List.replicate m (Value.string s), u.oneCell' = true) := by intro u hu; rw [List.mem_replicate] at hu; rw [hu.2]; rfl
      have HFIT2 : Hid (k + (List.replicate m (Value.string s)).length ≤ (repRow s n k).length) := by rw [repRow_len hk, List.length_replicate]; exact hmn
      have HSRC2 : Hid (∀ (j : Nat) u, (List.replicate m (Value.string s))[j]? = some u → wr.drew.cell? ((⟨w.heap.size, 0, none⟩ : Addr).add j) = some u) := by
        intro j u hj
        have hjm : j < m := by have := (List.getElem?_eq_some_iff.1 hj).1; rwa [List.length_replicate] at this
        rw [List.getElem?_replicate, if_pos hjm] at hj
        injection hj with hj
        subst hj
        have := World.news_of_block (w := wr) (B := w.heap.size) (cs := (repRow s n k).toArray) (t := 9) (fr := (0, 0)) HR.out j (.string s) (by
          show (repRow s n k).toArray.toList[j]? = _
          rw [List.toList_toArray, repRow, List.getElem?_append_left (by rw [List.length_replicate]; omega), List.getElem?_replicate, if_pos (by omega)])
        exact this
      have HSP : Hid (splice (repRow s n k) k (List.replicate m (Value.string s)) = repRow s n (k + m)) := repRow_splice hmn
      have e1 : IntKind.i64.wrap ((k : Int) + (m : Int)) = (k : Int) + (m : Int) := IntWalk.i64_in _ (by omega)
      have HM := hide hm
      have b1 : (k : Int) ≤ (n : Int) := by omega
      have b2 : (0 : Int) ≤ (k : Int) := by omega
      have hkn : ¬ n = k := by omega
      clear hm
      have hrun : ∃ w5, (Builtin.copy_ #[22, 22] 3 #[.slice (some ⟨w.heap.size, k, none⟩) (n - k) (n - k), .slice (some ⟨w.heap.size, 0, none⟩) k n]).run Try.prog wr.drew = .ok (.int .i64 m) w5 ∧
          w5.heap[w.heap.size]? = some (.cells (repRow s n (k + m)).toArray 9 (0, 0)) ∧ Below w.heap.size w w5 := by
        have hq := run_copy_row (P := Try.prog) wr.drew 22 22 3 9 w.heap.size k (n - k) (n - k) ⟨w.heap.size, 0, none⟩ k n (repRow s n k).toArray 9 (List.replicate m (.string s)) HU.out hsz HR.out HMN.out HSRC2.out (by simpa using HFIT2.out) HONE2.out
        rw [List.length_replicate] at hq
        refine ⟨_, hq, ?_, below_setRow hbr.drew (Nat.le_refl _) _⟩
        refine (setRow_heap wr.drew _ _ _ _ _ (show wr.drew.heap[w.heap.size]? = _ from HR.out)).trans ?_
        have := HSP.out
        unfold splice at this
        rw [List.length_replicate] at this
        rw [List.append_assoc, List.toList_toArray, this]
      obtain ⟨w5, hrun, hg5, hb5⟩ := hrun
      have HG5 := hide hg5
      clear hg5
      go_wp2_with fail
      go_region_law (fail)
      all_goals (try simp only [Act.put, List.setIfInBounds_toArray])
      all_goals go_simp
      all_goals
        go_roundw
        case rel =>
          refine ⟨_, _, _, _, _, _, _, _, _, _, _, _, _, _, ⟨k + m, by omega, hmn, ?_, HG5, hb5⟩, rfl⟩
          go_num
        case measure => show n - ((k : Int) + (m : Int)).toNat < n - ((k : Int)).toNat; omega
    · have hkn : k = n := by omega
      subst hkn
      have hrow := HR.out
      rw [repRow_full] at hrow
      have how := own_of_row (base := w.heap.size) (n := k) hrow (Nat.le_refl _) (by simp) (by simp only [maxLen]; omega)
      clear hrow HR
      go_wp2_with fail
      go_ret
      exact ⟨_, rfl, how, hbr⟩

/-! ### New -/

set_option maxRecDepth 100000 in
set_option maxHeartbeats 1600000 in
theorem new_any (n : Nat) (w : World) (h1 : 1 ≤ n) (hn : n ≤ 4000) :
    Calls Try.prog 32 #[.int .i64 n] w fun q w' => ∃ v, q = .returned (.tuple #[v, .int .i64 0]) ∧ DkV w' (fun b => w.heap.size ≤ b) v (DiskP.new n) ∧ Below w.heap.size w w' := by
  have hB := Box.new w 50 #[.slice none 0 0, .slice none 0 0, .int .i64 0, .bool false]
  have hb : Below w.heap.size w (w.alloc (.cells #[.slice none 0 0, .slice none 0 0, .int .i64 0, .bool false] 50)) := (Below.refl _ _).alloc (Nat.le_refl _) _
  obtain ⟨z, hz⟩ : ∃ z, z = mkB (DiskP.noughts 128) := ⟨_, rfl⟩
  have hzs := fun w => noughts_any 128 w (by omega) (by omega)
  rw [show ((128 : Int).toNat) = 128 from rfl, ← hz] at hzs
  have HZ := hide hz
  have HZS := hide hzs
  clear hz hzs
  go_enter Try.func32, Try.ntmps32
  go_wp2_with fail
  refine (HZS.out _).mono ?_
  rintro q w1 ⟨rfl, hb1⟩
  have kB1 := hB.belowS hb1
  have hbw1 := hb.trans (hb1.mono hb.size)
  have hlt1 := kB1.lt
  go_wp2_with fail
  refine (repeat_any w1.heap.size 1 n z _ hn h1 (by simp [go_sem]) (by simp) (Nat.le_refl _)).mono ?_
  rintro q w2 ⟨g, rfl, ho2, hb2⟩
  have kB2 := (kB1.up (.cells #[.string z] 9)).belowS hb2
  have hbw2 := (hbw1.alloc hbw1.size (.cells #[.string z] 9)).trans (hb2.mono (by have := hbw1.size; simp; omega))
  obtain ⟨p0, p1, p2, p3⟩ := kB2.cell4
  have f0 := kB2.frozen 0
  have f1 := kB2.frozen 1
  have f2 := kB2.frozen 2
  have f3 := kB2.frozen 3
  go_wp2_with fail
  have kF := kB2.set4 (u0 := .slice (some ⟨g, 0, none⟩) n n) (u1 := .slice none 0 0) (u2 := .int .i64 (-1)) (u3 := .bool false)
  have hbF := below_set4 (b := w.heap.size) (u0 := .slice (some ⟨g, 0, none⟩) n n) (u1 := .slice none 0 0) (u2 := .int .i64 (-1)) (u3 := .bool false) hbw2 (Nat.le_refl _)
  obtain ⟨s0, s1, s2, s3⟩ := kF.cell4
  rw [World.size_alloc] at ho2
  refine bodyPost_ret (v := .tuple #[.agg #[.slice (some ⟨g, 0, none⟩) n n, .slice none 0 0, .int .i64 (-1), .bool false], .int .i64 0]) (by simp [results, Try.results32, go_sem, s0, s1, s2, s3]) rfl ⟨_, rfl, ⟨_, _, _, _, _, _, rfl, ?_⟩, hbF⟩
  have e : secV (DiskP.new n).S = List.replicate n (.string z) := by simp [secV, DiskP.new, strs, HZ.out]
  refine ⟨?_, Sl.nil, by omega, by omega, Nat.le_refl _, Nat.le_refl _, by simp [DiskP.new]⟩
  rw [e]
  exact ((Sl.of_own ho2).keep (by rw [set4_size]; exact Nat.le_refl _) fun x hx _ => set4_far (by omega)).mono fun x hx => by omega

/-! ### All, octets, Fates -/

theorem bytesV_rep (c : UInt8) (n : Nat) : bytesV (List.replicate n c) = List.replicate n (.int .u8 (c.toNat : Int)) := by simp [bytesV]

/-- so many octets -/
def reps (c : UInt8) (n : Nat) : ByteArray := mkB (List.replicate n c)
theorem reps_size (c : UInt8) (n : Nat) : (reps c n).size = n := by rw [reps, mkB_size, List.length_replicate]
theorem oct_reps (c : UInt8) (n : Nat) : oct (reps c n) = List.replicate n c := oct_mkB _

set_option maxRecDepth 100000 in
set_option maxHeartbeats 800000 in
theorem all17_any (c : UInt8) (k n : Nat) (w : World) (hk : n = 128 * k) (hn : k ≤ 700) :
    Calls Try.prog 38 #[.int .u8 (c.toNat : Int), .int .i64 k] w fun e w' => e = .returned (.string (reps c n)) ∧ Below w.heap.size w w' := by
  obtain ⟨i0, hi, hz0, hz1, hz2⟩ := info_parts Try.info5
  have hkn : (128 : Int) * (k : Int) = (n : Int) := by omega
  have hn2 : n ≤ 100000 := by omega
  have HI := hide hi
  clear hk hn hi
  go_enter Try.func38, Try.ntmps38
  go_wp2_with (at_make; refine wpList_make_full _ rfl _ _ 62 rfl w.heap.size 5 i0 (.int .u8 0) 1 Try.underlying62 HI.out hz0 hz1 .i64 .i64 n n n rfl rfl rfl rfl (by rw [hz2]; omega) (by simp only [maxLen]; omega) (Nat.le_refl _) ?_; intro w1 hown hgrow)
  have hb1 : Below w.heap.size w w1 := (Below.refl _ _).grown hgrow (Nat.le_refl _) (by simp)
  have hx : w1.ownsRow w.heap.size 5 1 (.slice (some ⟨w.heap.size, 0, none⟩) n n) n (bytesV (List.replicate 0 c ++ List.replicate (n - 0) 0)) := by
    have e : bytesV (List.replicate 0 c ++ List.replicate (n - 0) 0) = (madeCells (Value.int .u8 0).cells (n * 1)).toList := by
      rw [show (Value.int .u8 0).cells = #[Value.int .u8 0] from rfl, toList_madeCells_one]
      simp [bytesV]
    rw [e]; exact hown
  clear hown
  go_loopw [6] (fun i wr => ∃ k : Nat, k ≤ n ∧ i = .int .i64 k ∧ wr.ownsRow w.heap.size 5 1 (.slice (some ⟨w.heap.size, 0, none⟩) n n) n (bytesV (List.replicate k c ++ List.replicate (n - k) 0)) ∧ Below w.heap.size w wr) (fun i _ => n - (intOf i).toNat)
  case atStart => exact ⟨0, Nat.zero_le _, rfl, hx, hb1⟩
  case round =>
    clear hx hb1 hgrow
    obtain ⟨k, hk, rfl, hown, hb⟩ := hrel
    by_cases hlt : k < n
    · have hc : ∃ u, wr.cell? ⟨w.heap.size, k, none⟩ = some u := by
        rw [hown.cellAt k (by omega)]
        exact ⟨_, List.getElem?_eq_getElem (by rw [bytesV_length]; simp; omega)⟩
      obtain ⟨u, hc⟩ := hc
      have hf := hown.frozenAt k
      have hst := hown.stored k (.int .u8 (c.toNat : Int))
      have e : (bytesV (List.replicate k c ++ List.replicate (n - k) 0)).set k (.int .u8 (c.toNat : Int)) = bytesV (List.replicate (k + 1) c ++ List.replicate (n - (k + 1)) 0) := by
        rw [bytesV_append, bytesV_append, bytesV_rep, bytesV_rep, bytesV_rep, bytesV_rep, List.set_append, if_neg (by simp)]
        rw [show n - k = (n - (k + 1)) + 1 by omega, List.replicate_succ, List.length_replicate, Nat.sub_self, List.set_cons_zero, List.replicate_succ' (n := k), List.append_assoc]
        rfl
      rw [e] at hst
      have HST := hide hst
      clear hst e hown
      go_wp2
      go_roundw
      case rel => exact ⟨k + 1, by omega, by go_num, HST.out.1, hb.setCell (Nat.le_refl _) _⟩
      case measure => simp [intOf]; omega
    · have hkn : k = n := by omega
      subst hkn
      have hsl := Sl.of_own hown
      rw [Nat.sub_self, List.replicate_zero, List.append_nil] at hsl
      have hcv := conv_str (P := Try.prog) (c := k) hsl 62 9 5 Try.underlying62 Try.underlying5 Try.underlying9
      clear hown hsl
      go_wp2
      go_ret
      exact ⟨rfl, hb⟩

/-- no more octets than are looked at -/
def octs17 (s : ByteArray) : ByteArray := if (1280 : Int) < (s.size : Int) then s.extract 0 1280 else s
theorem octs17_size (s : ByteArray) : (octs17 s).size ≤ 1280 := by
  unfold octs17
  split
  · rw [← oct_length, oct_extract]; simp; omega
  · omega
theorem octs17_any (s : ByteArray) (w : World) (hs : s.size ≤ 9223372036854775807) : Calls Try.prog 34 #[.string s] w fun e w' => e = .returned (.string (octs17 s)) ∧ w = w' := by
  obtain ⟨R, hR⟩ : ∃ R, R = octs17 s := ⟨_, rfl⟩
  rw [← hR]
  unfold octs17 at hR
  by_cases h : (1280 : Int) < (s.size : Int)
  · rw [if_pos h] at hR
    have HR := hide hR
    clear hR
    go_enter Try.func34, Try.ntmps34
    go_wp2_with fail
    go_ret
    exact ⟨by rw [HR.out]; rfl, rfl⟩
  · rw [if_neg h] at hR
    have HR := hide hR
    clear hR
    go_enter Try.func34, Try.ntmps34
    go_wp2_with fail
    go_ret
    exact ⟨by rw [HR.out]; rfl, rfl⟩

/-- a fate of which no more is looked at than may be -/
def fates (f : Fate) : Fate := { f with keep := f.keep.take 60 }

theorem fates_sl {w : World} {V : Nat → Prop} {FA : Option Addr} {fn : Nat} {f : Fate} (h : Sl w V 1 FA fn (boolV f.keep)) : (60 < fn → Sl w V 1 FA 60 (boolV (fates f).keep)) ∧ (¬ 60 < fn → (fates f).keep = f.keep) := by
  have hlen : f.keep.length = fn := by have := h.1; rw [boolV_length] at this; omega
  refine ⟨fun h1 => ⟨by rw [boolV_length, fates, List.length_take]; omega, fun _ => ?_⟩, fun h1 => List.take_of_length_le (by omega)⟩
  obtain ⟨a, e, hv, hb, hc⟩ := h.2 (by omega)
  refine ⟨a, e, hv, hb, fun j u hu => hc j u ?_⟩
  have hu' : ((f.keep.take 60).map Value.bool)[j]? = some u := hu
  rw [List.map_take, List.getElem?_take] at hu'
  split at hu'
  · exact hu'
  · cases hu'

set_option maxRecDepth 100000 in
set_option maxHeartbeats 800000 in
theorem fates_any (FA : Option Addr) (fn fc : Nat) (f : Fate) (V : Nat → Prop) (w : World) (h : Ft w V FA fn fc f) (hc : fn ≤ fc) (hc2 : fc ≤ 9223372036854775807) :
    Calls Try.prog 31 #[ftv FA fn fc f] w fun e w' => ∃ n, e = .returned (ftv FA n fc (fates f)) ∧ n ≤ 60 ∧ Below w.heap.size w w' ∧ Ft w' V FA n fc (fates f) := by
  have hle := h.le
  have hB1 := (Box.new w 47 #[.slice FA fn fc, .int .i64 f.torn, .int .i64 f.cut]).up (.cells #[.slice none 0 0, .int .i64 0, .int .i64 0] 47)
  have hb : Below w.heap.size w ((w.alloc (.cells #[.slice FA fn fc, .int .i64 f.torn, .int .i64 f.cut] 47)).alloc (.cells #[.slice none 0 0, .int .i64 0, .int .i64 0] 47)) := ((Below.refl _ _).alloc (Nat.le_refl _) _).alloc (by simp) _
  obtain ⟨f1, f2⟩ := fates_sl h.sl
  have e1 : (fates f).torn = f.torn := rfl
  have e2 : (fates f).cut = f.cut := rfl
  unfold ftv
  rw [e1, e2]
  obtain ⟨tn, htn⟩ : ∃ tn, tn = f.torn := ⟨_, rfl⟩
  obtain ⟨ct, hct⟩ : ∃ ct, ct = f.cut := ⟨_, rfl⟩
  rw [← htn, ← hct] at hB1 hb ⊢
  clear htn hct e1 e2
  by_cases h60 : 60 < fn
  · have hS := f1 h60
    have HF2 := hide f2
    have b1 : (60 : Int) ≤ fc := by omega
    have b2 : ¬ fc = 0 := by omega
    clear f1 f2 hB1
    go_enter Try.func31, Try.ntmps31
    go_wp2_with fail
    exact bodyPost_ret (v := .agg #[.slice FA 60 fc, .int .i64 tn, .int .i64 ct]) (by simp [results, Try.results31, go_sem]) rfl ⟨60, rfl, Nat.le_refl _, ((Below.refl _ _).alloc (Nat.le_refl _) _).alloc (by simp) _, hS.below (((Below.refl _ _).alloc (Nat.le_refl _) _).alloc (by simp) _), by omega⟩
  · have hE := hide (f2 h60)
    clear f1 f2 hB1
    go_enter Try.func31, Try.ntmps31
    go_wp2_with fail
    refine bodyPost_ret (v := .agg #[.slice FA fn fc, .int .i64 tn, .int .i64 ct]) (by simp [results, Try.results31, go_sem]) rfl ⟨fn, rfl, by omega, ((Below.refl _ _).alloc (Nat.le_refl _) _).alloc (by simp) _, ?_, hle⟩
    rw [hE.out]
    exact h.sl.below (((Below.refl _ _).alloc (Nat.le_refl _) _).alloc (by simp) _)
end Go.Proofs.Yteoiadfcchalfaa

/-! The walks of layer 17: strings.Join, Read; the reference's Same of equal disks, and May. -/
namespace Go.Proofs.Yteoiadfcchalfaa
open Go.RowKit
open DiskP (Bytes Disk Wr Fate)
set_option linter.unusedVariables false

theorem join_flat (xs : List (List UInt8)) : Lib.join xs [] = xs.flatten := by
  cases xs with
  | nil => rfl
  | cons x r => rw [Lib.join_cons, List.flatten_cons, Lib.joinTail]; simp

/-- a slice of strings, one behind the other -/
theorem join_any (A : Option Addr) (n c : Nat) (ss : List ByteArray) (V : Nat → Prop) (w : World) (h : Sl w V 1 A n (strs ss)) (hA : n = 0 ∨ ∃ g o, A = some ⟨g, o, none⟩) (hc : n ≤ c) (hn : n ≤ 1000000000) (hl : ((ss.map oct).flatten).length ≤ 140737488355328) :
    Calls Try.prog 100 #[.slice A n c, .string ⟨#[]⟩] w fun e w' => e = .returned (.string (mkB (ss.map oct).flatten)) ∧ Below w.heap.size w w' := by
  have hlen := h.len
  rcases Nat.eq_zero_or_pos n with h0 | h0
  · subst h0
    have hs : ss = [] := List.eq_nil_of_length_eq_zero hlen
    subst hs
    exact (Try.strings_Join_none A c ⟨#[]⟩ w).mono fun e w' ⟨he, hw⟩ => ⟨he, hw ▸ Below.refl _ _⟩
  · obtain ⟨g, o, rfl⟩ := hA.resolve_left (by omega)
    obtain ⟨a, ea, _, hb, hcell⟩ := h.2 h0
    injection ea with ea
    subst ea
    have hj := join_flat (ss.map fun x => x.data.toList)
    have := Try.strings_Join g o c ss ⟨#[]⟩ w (fun j x hx => by
      have := hcell j (.string x) (by rw [strs, List.getElem?_map, hx]; rfl)
      rw [Addr.add_lit] at this
      exact this) hb (by omega) (by omega) (by rw [show (⟨#[]⟩ : ByteArray).data.toList = [] from rfl, hj]; exact hl)
    rw [show (⟨#[]⟩ : ByteArray).data.toList = [] from rfl, hj, hlen] at this
    exact this

theorem read_ok {d : Disk} {i n : Int} (hm : DiskP.may d = true) (ht : DiskP.there d i n = true) (hd : d.dead = false) : DiskP.read d i n = ((((DiskP.done d).drop i.toNat).take n.toNat).flatten, 0) := by
  rw [DiskP.read, hm, ht, hd]; rfl
theorem read_dead {d : Disk} {i n : Int} (hm : DiskP.may d = true) (ht : DiskP.there d i n = true) (hd : d.dead = true) : DiskP.read d i n = ([], 14) := by
  rw [DiskP.read, hm, ht, hd]; rfl
theorem sized_flat {S : List Bytes} (h : ∀ s ∈ S, s.length = 128) : S.flatten.length = 128 * S.length := by
  induction S with
  | nil => rfl
  | cons s S ih =>
    rw [List.flatten_cons, List.length_append, h s (by simp), ih fun t ht => h t (by simp [ht]), List.length_cons]
    omega

set_option maxRecDepth 100000 in
set_option maxHeartbeats 1600000 in
theorem read17_any (A : Option Addr) (n c : Nat) (B : Option Addr) (m e : Nat) (d : Disk) (V : Nat → Prop) (i k : Nat) (w : World) (h : Dk w V A n c B m e d) (hm : DiskP.may d = true) (hik : i + k ≤ n) :
    Calls Try.prog 83 #[dkv A n c B m e d.left d.dead, .int .i64 i, .int .i64 k] w fun q w' => q = .returned (.tuple #[.string (mkB (DiskP.read d i k).1), .int .i64 ((DiskP.read d i k).2 : Nat)]) ∧ Below w.heap.size w w' := by
  have hlen := h.len
  have hnle := h.nle
  have hdl : (DiskP.done d).length = n := by rw [DiskP.done, DiskP.doneGo_len, hlen]
  have hmi := (DiskP.may_iff d).1 hm
  have hsz : ∀ s ∈ DiskP.done d, s.length = 128 := DiskP.doneGo_size d.W (fun w hw => (hmi.2.2.2.2 w hw).2.2) d.S hmi.2.2.2.1
  have hn1 : 0 < n := by rw [← hlen]; omega
  have ht : DiskP.there d i k = true := by
    simp only [DiskP.there, Bool.and_eq_true, decide_eq_true_eq]
    rw [hlen]; omega
  have hma := fun w1 hD => may_any A n c B m e d V w1 hD
  have hth := fun w1 hD => there_any A n c B m e d V i k w1 hD (by omega) (by omega)
  have hdo := fun w1 hD => done_any A n c B m e d V w1 hD hm
  rw [hm] at hma
  rw [ht] at hth
  have hB1 := Box.new w 50 #[.slice A n c, .slice B m e, .int .i64 d.left, .bool d.dead]
  have hb : Below w.heap.size w (w.alloc (.cells #[.slice A n c, .slice B m e, .int .i64 d.left, .bool d.dead] 50)) := (Below.refl _ _).alloc (Nat.le_refl _) _
  obtain ⟨lf, hlf⟩ : ∃ lf, lf = d.left := ⟨_, rfl⟩
  have HDL := hide hdl
  have HSZ := hide hsz
  clear hdl hsz hmi hlen
  cases hd : d.dead with
  | true =>
    rw [read_dead hm ht hd]
    rw [← hlf, hd] at hma hth hB1 hb
    rw [← hlf]
    have HMA := hide (hma _ (h.below hb))
    have HTH := hide hth
    clear hma hth hlf hdo ht hd
    go_enter Try.func83, Try.ntmps83
    go_wp2_with fail
    refine HMA.out.mono ?_
    rintro q w1 ⟨rfl, hb1⟩
    have kA1 := hB1.belowS hb1
    have hbw1 := hb.trans (hb1.mono hb.size)
    obtain ⟨p0, p1, p2, p3⟩ := kA1.cell4
    go_wp2_with fail
    refine (HTH.out _ (h.below hbw1)).mono ?_
    rintro q w2 ⟨rfl, hb2⟩
    have kA2 := kA1.belowS hb2
    have hbw2 := hbw1.trans (hb2.mono hbw1.size)
    clear p0 p1 p2 p3
    obtain ⟨p0, p1, p2, p3⟩ := kA2.cell4
    go_wp2_with fail
    go_ret2
    exact ⟨rfl, hbw2⟩
  | false =>
    rw [read_ok hm ht hd]
    obtain ⟨ss, hss⟩ : ∃ ss, ss = (((DiskP.done d).drop i).take k).map mkB := ⟨_, rfl⟩
    have e1 : ((secV (DiskP.done d)).drop (i * 1)).take ((i + k - i) * 1) = strs ss := by
      rw [hss, Nat.mul_one, Nat.mul_one, Nat.add_sub_cancel_left]
      simp [secV, strs, List.map_drop, List.map_take]
    have e2 : (ss.map oct).flatten = (((DiskP.done d).drop i).take k).flatten := by
      rw [hss, List.map_map, show oct ∘ mkB = id from funext oct_mkB, List.map_id]
    have hjl : ((ss.map oct).flatten).length ≤ 140737488355328 := by
      rw [e2, sized_flat fun s hs => HSZ.out s (List.mem_of_mem_drop (List.mem_of_mem_take hs)), List.length_take]
      omega
    rw [Int.toNat_natCast, Int.toNat_natCast, ← e2]
    have E1 := hide e1
    have HJL := hide hjl
    clear e1 e2 hjl hss
    rw [← hlf, hd] at hma hth hB1 hb hdo
    rw [← hlf]
    have HMA := hide (hma _ (h.below hb))
    have HTH := hide hth
    have HDO := hide hdo
    clear hma hth hlf hdo ht hd
    go_enter Try.func83, Try.ntmps83
    go_wp2_with fail
    refine HMA.out.mono ?_
    rintro q w1 ⟨rfl, hb1⟩
    have kA1 := hB1.belowS hb1
    have hbw1 := hb.trans (hb1.mono hb.size)
    obtain ⟨p0, p1, p2, p3⟩ := kA1.cell4
    go_wp2_with fail
    refine (HTH.out _ (h.below hbw1)).mono ?_
    rintro q w2 ⟨rfl, hb2⟩
    have kA2 := kA1.belowS hb2
    have hbw2 := hbw1.trans (hb2.mono hbw1.size)
    clear p0 p1 p2 p3
    obtain ⟨p0, p1, p2, p3⟩ := kA2.cell4
    go_wp2_with fail
    refine (HDO.out _ (h.below hbw2)).mono ?_
    rintro q w3 ⟨v3, rfl, ho3, hb3⟩
    obtain ⟨g, cap, hv3, hg1, hg2, hgc⟩ := own_form ho3 hn1
    subst hv3
    have hbw3 := hbw2.trans (hb3.mono hbw2.size)
    have hsl := (Sl.of_own ho3).cut (k := i) (m := i + k) (cap := cap) (by omega) hik (by omega)
    rw [E1.out, Nat.add_sub_cancel_left, Nat.mul_one] at hsl
    have b1 : (i : Int) ≤ (cap : Int) := by omega
    have b2 : (i : Int) + (k : Int) ≤ (cap : Int) := by omega
    have b3 : (i : Int) ≤ (i : Int) + (k : Int) := by omega
    have hjl := HJL.out
    clear ho3 p0 p1 p2 p3
    by_cases hci : cap = i
    · rw [if_pos hci] at hsl
      have hj := join_any _ k (cap - i) ss _ w3 hsl (.inl (by omega)) (by omega) (by omega) hjl
      clear hsl hjl
      subst hci
      have hk0 : k = 0 := by omega
      subst hk0
      rw [Nat.sub_self] at hj
      go_wp2_with fail
      refine hj.mono ?_
      rintro q w4 ⟨rfl, hb4⟩
      go_wp2_with fail
      go_ret2
      exact ⟨rfl, hbw3.trans (hb4.mono hbw3.size)⟩
    · rw [if_neg hci] at hsl
      have hA : (some (⟨g, 0, none⟩ : Addr)).map (fun x => x.add i) = some ⟨g, i, none⟩ := by rw [Option.map_some, Addr.add_lit, Nat.zero_add]
      rw [hA] at hsl
      have hj := join_any _ k (cap - i) ss _ w3 hsl (.inr ⟨g, i, rfl⟩) (by omega) (by omega) hjl
      clear hsl hjl hA
      go_wp2_with fail
      refine hj.mono ?_
      rintro q w4 ⟨rfl, hb4⟩
      go_wp2_with fail
      go_ret2
      exact ⟨rfl, hbw3.trans (hb4.mono hbw3.size)⟩
end Go.Proofs.Yteoiadfcchalfaa

/-! The walks of layer 17: the reference's Same of equal disks without writes that wait, and its May. -/
namespace Go.Proofs.Yteoiadfcchalfaa
open Go.RowKit
open DiskP (Bytes Disk Wr Fate)
set_option linter.unusedVariables false

set_option maxRecDepth 100000 in
set_option maxHeartbeats 1600000 in
theorem same17_any (A A' B B' : Option Addr) (n c c' e e' : Nat) (lf : Int) (dd : Bool) (S : List Bytes) (V V' : Nat → Prop) (w : World) (h : Sl w V 1 A n (secV S)) (g : Sl w V' 1 A' n (secV S)) (hn : n ≤ 1000000000) :
    Calls Try.prog 36 #[dkv A n c B 0 e lf dd, dkv A' n c' B' 0 e' lf dd] w fun q w' => q = .returned (.bool true) ∧ Below w.heap.size w w' := by
  have hb : Below w.heap.size w ((w.alloc (.cells #[.slice A n c, .slice B 0 e, .int .i64 lf, .bool dd] 50)).alloc (.cells #[.slice A' n c', .slice B' 0 e', .int .i64 lf, .bool dd] 50)) := ((Below.refl _ _).alloc (Nat.le_refl _) _).alloc (by simp) _
  have hs := h.below hb
  have gs := g.below hb
  have hne : ((n : Int) != n) = false := by simp
  have hne2 : (lf != lf) = false := by simp
  have hne3 : (dd != dd) = false := by simp
  clear h g
  go_enter Try.func36, Try.ntmps36
  go_wp2_with fail
  go_loopw [5] (fun i wr => ∃ k : Nat, k ≤ n ∧ i = .int .i64 k ∧ ∃ q, wr = ((w.alloc (.cells #[.slice A n c, .slice B 0 e, .int .i64 lf, .bool dd] 50)).alloc (.cells #[.slice A' n c', .slice B' 0 e', .int .i64 lf, .bool dd] 50)).drewN q) (fun i _ => n - (intOf i).toNat)
  case atStart => exact ⟨0, Nat.zero_le _, rfl, 0, rfl⟩
  case round =>
    obtain ⟨k, hk, rfl, q, rfl⟩ := hrel
    by_cases hlt : k < n
    · obtain ⟨a, u, hA, hx, hc⟩ := hs.at_ hlt
      obtain ⟨a', u', hA', hx', hc'⟩ := gs.at_ hlt
      have hu : u' = u := by rw [hx] at hx'; injection hx' with h; exact h.symm
      subst hA hA' hu
      obtain ⟨s, hsu⟩ : ∃ s, u' = .string s := by
        rw [secV_get] at hx
        cases hq : S[k]? with
        | none => rw [hq] at hx; cases hx
        | some s => rw [hq] at hx; injection hx with hx; exact ⟨_, hx.symm⟩
      subst hsu
      clear hx hx' hs gs
      have hi0 : (0 : Int) ≤ (k : Int) := by omega
      have hi1 : (k : Int) < (n : Int) := by omega
      go_wp2_with fail
      go_quiet (fail)
      go_wp2_with fail
      go_roundw
      case rel => exact ⟨k + 1, by omega, by go_num, _, rfl⟩
      case measure => simp [intOf]; omega
    · have hkn : k = n := by omega
      subst hkn
      clear hs gs
      go_wp2_with fail
      go_loopw [6] (fun i wr => i = .int .i64 0 ∧ ∃ q, wr = ((w.alloc (.cells #[.slice A k c, .slice B 0 e, .int .i64 lf, .bool dd] 50)).alloc (.cells #[.slice A' k c', .slice B' 0 e', .int .i64 lf, .bool dd] 50)).drewN q) (fun _ _ => 0)
      case atStart => exact ⟨rfl, _, rfl⟩
      case round =>
        obtain ⟨rfl, q2, rfl⟩ := hrel
        go_wp2_with fail
        go_ret
        exact ⟨rfl, below_drewN hb _⟩

/-! ### The reference's May -/

set_option maxRecDepth 100000 in
set_option maxHeartbeats 3200000 in
theorem rmay_any (A : Option Addr) (n c : Nat) (B : Option Addr) (m e : Nat) (d : Disk) (V : Nat → Prop) (w : World) (h : Dk w V A n c B m e d) :
    Calls Try.prog 39 #[dkv A n c B m e d.left d.dead] w fun q w' => q = .returned (.bool (DiskP.may d)) ∧ Below w.heap.size w w' := by
  have hlen := h.len
  have hwlen := h.wlen
  have hn := h.nle
  have hm := h.mle
  have hmo := may_out (d := d)
  have hml := fun k s => may_long (d := d) (k := k) (s := s)
  have hmw := fun k x => may_wrong (d := d) (k := k) (x := x)
  have hmi := (DiskP.may_iff d).2
  obtain ⟨R, hR⟩ : ∃ R, R = DiskP.may d := ⟨_, rfl⟩
  rw [← hR] at hmo hml hmw hmi ⊢
  clear hR
  rw [hlen] at hmo hmw hmi
  obtain ⟨lf, hlf⟩ : ∃ lf, lf = d.left := ⟨_, rfl⟩
  obtain ⟨dd, hdd⟩ : ∃ dd, dd = d.dead := ⟨_, rfl⟩
  rw [← hlf] at hmo hmi ⊢
  rw [← hdd]
  clear hlf hdd
  have hb : Below w.heap.size w (w.alloc (.cells #[.slice A n c, .slice B m e, .int .i64 lf, .bool dd] 50)) := (Below.refl _ _).alloc (Nat.le_refl _) _
  have hL := h.below hb
  have HML := hide hml
  have HMW := hide hmw
  have HLEN := hide hlen
  have HWLEN := hide hwlen
  have HMI := hide hmi
  have HMO := hide hmo
  clear hml hmw hlen hwlen h hmi hmo
  go_enter Try.func39, Try.ntmps39
  go_wp2_with fail
  go_loop [3] (fun i => ∃ k : Nat, k ≤ n ∧ i = .int .i64 k ∧ AllS d.S k) (fun i => n - (intOf i).toNat)
  case atStart => exact ⟨0, Nat.zero_le _, rfl, allS_zero _⟩
  case round =>
    obtain ⟨k, hk, rfl, hall⟩ := hrel
    by_cases hlt : k < n
    · obtain ⟨a, s, hA, hs, hc⟩ := hL.sec hlt
      subst hA
      obtain ⟨bs, hbs⟩ : ∃ bs, bs = mkB s := ⟨_, rfl⟩
      rw [← hbs] at hc
      have hsz : bs.size = s.length := by rw [hbs, mkB_size]
      by_cases h128 : s.length = 128
      · have hz : bs.size = 128 := by omega
        have hall' := allS_succ hall hs h128
        have hne : ((bs.size : Int) != 128) = false := by rw [hz]; rfl
        clear hsz hs hbs hz h128
        go_wp2_with fail
        go_round
        case rel => exact ⟨k + 1, by omega, by go_num, hall'⟩
        case measure => simp [intOf]; omega
      · have HR := hide (HML.out k s hs h128)
        have hne : ((bs.size : Int) != 128) = true := by simp; omega
        clear hsz hs hbs h128
        go_wp2_with fail
        go_ret
        exact ⟨by rw [HR.out]; rfl, hb⟩
    · have hkn : k = n := by omega
      subst hkn
      have hallS : ∀ s ∈ d.S, s.length = 128 := by
        have : d.S.take k = d.S := List.take_of_length_le (by have := HLEN.out; omega)
        rw [← this]; exact hall
      have HALL := hide hallS
      clear hallS hall hlt
      go_wp2_with fail
      go_loopw [4] (fun i wr => ∃ j : Nat, j ≤ m ∧ i = .int .i64 j ∧ AllW k d.W j ∧ ∃ q, wr = (w.alloc (.cells #[.slice A k c, .slice B m e, .int .i64 lf, .bool dd] 50)).drewN q) (fun i _ => m - (intOf i).toNat)
      case atStart => exact ⟨0, Nat.zero_le _, rfl, allW_zero _ _, 0, rfl⟩
      case round =>
        obtain ⟨j, hj, rfl, hall, q, rfl⟩ := hrel
        by_cases hlt : j < m
        · obtain ⟨a, x, hA, hx, hc1, hc2⟩ := hL.wr hlt
          subst hA
          obtain ⟨bs, hbs⟩ : ∃ bs, bs = mkB x.s := ⟨_, rfl⟩
          rw [← hbs] at hc2
          have hsz : bs.size = x.s.length := by rw [hbs, mkB_size]
          have hi0 : (0 : Int) ≤ (j : Int) := by omega
          have hi1 : (j : Int) < (m : Int) := by omega
          by_cases hok : 0 ≤ x.at_ ∧ x.at_ < (k : Int) ∧ x.s.length = 128
          · have hall' := allW_succ hall hx hok
            obtain ⟨g1, g2, g3⟩ := hok
            have hne : ((bs.size : Int) != 128) = false := by rw [hsz, g3]; rfl
            have f1 : decide (x.at_ < 0) = false := by simp; omega
            have f2 : decide ((k : Int) ≤ x.at_) = false := by simp; omega
            clear hsz hx hbs g3 hall
            go_wp2_with fail
            go_quiet (fail)
            go_wp2_with fail
            go_roundw
            case rel => exact ⟨j + 1, by omega, by go_num, hall', _, rfl⟩
            case measure => simp [intOf]; omega
          · have HR := hide (HMW.out j x hx hok)
            by_cases g1 : 0 ≤ x.at_
            · by_cases g2 : x.at_ < (k : Int)
              · have hne : ((bs.size : Int) != 128) = true := by simp; omega
                have f1 : decide (x.at_ < 0) = false := by simp; omega
                have f2 : decide ((k : Int) ≤ x.at_) = false := by simp; omega
                clear hsz hx hbs hok hall
                go_wp2_with fail
                go_quiet (fail)
                go_wp2_with fail
                go_ret
                exact ⟨by rw [HR.out]; rfl, below_drewN (below_drewN hb _) _⟩
              · have f1 : decide (x.at_ < 0) = false := by simp; omega
                have f2 : decide ((k : Int) ≤ x.at_) = true := by simp; omega
                clear hsz hx hbs hok hall
                go_wp2_with fail
                go_quiet (fail)
                go_wp2_with fail
                go_ret
                exact ⟨by rw [HR.out]; rfl, below_drewN (below_drewN hb _) _⟩
            · have f1 : decide (x.at_ < 0) = true := by simp; omega
              clear hsz hx hbs hok hall
              go_wp2_with fail
              go_quiet (fail)
              go_wp2_with fail
              go_ret
              exact ⟨by rw [HR.out]; rfl, below_drewN (below_drewN hb _) _⟩
        · have hjm : j = m := by omega
          subst hjm
          have hallW : ∀ x ∈ d.W, 0 ≤ x.at_ ∧ x.at_ < (k : Int) ∧ x.s.length = 128 := by
            have : d.W.take j = d.W := List.take_of_length_le (by have := HWLEN.out; omega)
            rw [← this]; exact hall
          have HALLW := hide hallW
          clear hallW hall hlt
          by_cases h0 : 1 ≤ k
          · by_cases h1 : k ≤ 4000
            · by_cases h2 : -1 ≤ lf
              · have HR := hide (HMI.out ⟨h0, h1, h2, HALL.out, HALLW.out⟩)
                go_wp2_with fail
                go_ret
                exact ⟨by rw [HR.out]; rfl, below_drewN hb _⟩
              · have HR := hide (HMO.out (by omega))
                go_wp2_with fail
                go_ret
                exact ⟨by rw [HR.out]; rfl, below_drewN hb _⟩
            · have HR := hide (HMO.out (by omega))
              go_wp2_with fail
              go_ret
              exact ⟨by rw [HR.out]; rfl, below_drewN hb _⟩
          · have HR := hide (HMO.out (by omega))
            go_wp2_with fail
            go_ret
            exact ⟨by rw [HR.out]; rfl, below_drewN hb _⟩
end Go.Proofs.Yteoiadfcchalfaa
