/- The walks of layer 17: the reference's Same of equal disks without writes that wait, and its May. (merged: DiskE DiskF DiskG) -/
import Derived.Test.YtojincohnjophaaGreatDoorDiskD
import Derived.Test.YtojincohnjophaaGreatDoorShelf
import Derived.Laws.CopyOwn
/-! The walks of layer 17: slices.Repeat, New, and the law's own All, octets, Fates. -/
namespace Go.Proofs.YtojincohnjophaaGreatDoor
open Go.RowKit
open DiskP (Bytes Disk Wr Fate)
set_option linter.unusedVariables false

theorem repeatL_nought (c : Nat) : Lib.repeatL [(0 : UInt8)] c = List.replicate c 0 := by
  induction c with
  | zero => rfl
  | succ c ih => simp [Lib.repeatL, List.replicate_succ] at *; exact ih
theorem noughts_any (m : Int) (w : World) (h0 : 0 ≤ m) (h1 : m ≤ 1000000) :
    Calls Tryz.prog 24 #[.string ⟨#[0]⟩, .int .i64 m] w fun e w' => e = .returned (.string (mkB (DiskP.noughts m.toNat))) ∧ Below w.heap.size w w' := by
  obtain ⟨c, rfl⟩ := Int.eq_ofNat_of_zero_le h0
  have := Tryz.strings_Repeat ⟨#[0]⟩ c w (by omega) (by show 1 * c ≤ _; omega)
  rw [show (⟨#[0]⟩ : ByteArray).data.toList = [0] from rfl, repeatL_nought] at this
  exact this

theorem mul_one_any (n : Nat) (hn : n ≤ 4000) (w : World) :
    Calls Tryz.prog 48 #[.int .u64 1, .int .u64 n] w fun e w' => e = .returned (.tuple #[.int .u64 0, .int .u64 n]) ∧ w = w' := by
  have := Tryz.bits_Mul 1 n (by omega) (by omega) w
  have e1 : 1 * n / 18446744073709551616 = 0 := by omega
  have e2 : 1 * n % 18446744073709551616 = n := by omega
  rw [e1, e2] at this
  exact this.mono fun _ _ h => ⟨h.1, h.2.symm⟩

/-- the row of a slice that was just made -/
theorem own_row {w : World} {base : Nat} {e : TypeId} {g n : Nat} {xs : List Value} (h : w.ownsRow base e 1 (.slice (some ⟨g, 0, none⟩) n n) n xs) : w.heap[g]? = some (.cells xs.toArray e (0, 0)) ∧ base ≤ g := by
  rcases h.2 with ⟨h', _⟩ | ⟨g', cap', cur, h', hb, hg, _, _, hsz, htake⟩
  · simp at h'
  · simp only [Value.slice.injEq, Option.some.injEq, Addr.mk.injEq, and_true, true_and] at h'
    obtain ⟨rfl, rfl⟩ := h'
    rw [List.take_of_length_le (by simpa using Nat.le_of_eq hsz)] at htake
    rw [← htake]
    exact ⟨hg, hb⟩
theorem own_of_row {w : World} {base : Nat} {e : TypeId} {g n : Nat} {xs : List Value} (h : w.heap[g]? = some (.cells xs.toArray e (0, 0))) (hb : base ≤ g) (hn : xs.length = n) (hm : n ≤ maxLen) : w.ownsRow base e 1 (.slice (some ⟨g, 0, none⟩) n n) n xs :=
  ⟨by simpa using hn, .inr ⟨g, n, xs.toArray, rfl, hb, h, Nat.le_refl _, hm, by simpa using hn, List.take_of_length_le (by simp; omega)⟩⟩

/-- k times a string, and n-k times the empty one -/
def repRow (s : ByteArray) (n k : Nat) : List Value := List.replicate k (.string s) ++ List.replicate (n - k) (.string .empty)
theorem repRow_len {s : ByteArray} {n k : Nat} (h : k ≤ n) : (repRow s n k).length = n := by simp [repRow]; omega
theorem repRow_full (s : ByteArray) (n : Nat) : repRow s n n = List.replicate n (.string s) := by simp [repRow]
theorem repRow_splice {s : ByteArray} {n k m : Nat} (h : k + m ≤ n) : splice (repRow s n k) k (List.replicate m (.string s)) = repRow s n (k + m) := by
  unfold splice repRow
  rw [List.take_left' (by simp), List.drop_append, List.drop_of_length_le (by simp), List.nil_append, List.length_replicate, List.length_replicate, List.drop_replicate, ← List.append_assoc, List.replicate_append_replicate]
  congr 2
  omega

set_option maxRecDepth 100000 in
set_option maxHeartbeats 3200000 in
theorem repeat_any (b c n : Nat) (s : ByteArray) (w : World) (hn : n ≤ 4000) (h1 : 1 ≤ n) (hc : w.cell? ⟨b, 0, none⟩ = some (.string s)) (hb : b < w.heap.size) (hc1 : 1 ≤ c) :
    Calls Tryz.prog 56 #[.slice (some ⟨b, 0, none⟩) 1 c, .int .i64 n] w fun e w' => ∃ g, e = .returned (.slice (some ⟨g, 0, none⟩) n n) ∧ w'.ownsRow w.heap.size 9 1 (.slice (some ⟨g, 0, none⟩) n n) n (List.replicate n (.string s)) ∧ Below w.heap.size w w' := by
  obtain ⟨i0, hi, hz0, hz1, hz2⟩ := info_parts Tryz.info9
  have hsz : (Tryz.prog.info? 9).map (·.size) = some 1 := by rw [hi]; simp [hz1]
  go_enter Tryz.func56, Tryz.ntmps56
  have hu := Tryz.underlying22
  have hmk : (madeCells (Value.string .empty).cells (n * 1)).toList = repRow s n 0 := by
    rw [show (Value.string .empty).cells = #[Value.string .empty] from rfl, toList_madeCells_one]
    simp [repRow]
  have hmin : [Value.string s].length = Nat.min 1 n := by
    show 1 = min 1 n
    omega
  have hfit0 : 0 + [Value.string s].length ≤ (repRow s n 0).length := by rw [repRow_len (Nat.zero_le _)]; simpa using h1
  have hone : ∀ u ∈ [Value.string s], u.oneCell' = true := by intro u hu; simp at hu; subst hu; rfl
  have hsrc : ∀ (w1 : World), w1.cell? ⟨b, 0, none⟩ = some (.string s) → ∀ (j : Nat) u, [Value.string s][j]? = some u → w1.cell? ((⟨b, 0, none⟩ : Addr).add j) = some u := by
    intro w1 hcs j u hj
    have hj0 : j = 0 := by have := (List.getElem?_eq_some_iff.1 hj).1; simp at this; omega
    subst hj0
    simp at hj; subst hj
    exact hcs
  have HMIN := hide hmin
  have HFIT := hide hfit0
  have HONE := hide hone
  have HSRC := hide hsrc
  clear hmin hfit0 hone hsrc
  have HMK := hide hmk
  have HU := hide hu
  have HI := hide hi
  clear hmk hu hi
  go_wp2_with (first
    | (go_at_call 48; refine (mul_one_any n hn _).mono ?_; rintro e w' ⟨rfl, rfl⟩)
    | (at_make; refine wpList_make_full _ rfl _ _ 22 rfl w.heap.size 9 i0 (.string .empty) 1 HU.out HI.out hz0 hz1 .i64 .i64 n n n rfl rfl rfl rfl (by rw [hz2]; omega) (by simp only [maxLen]; omega) (Nat.le_refl _) ?_; intro w1 hown hgrow; have hb1 : Below w.heap.size w w1 := (Below.refl _ _).grown hgrow (Nat.le_refl _) (by simp); rw [HMK.out] at hown; have hg0 := (own_row hown).1; have hcs := bcell hb1 hb hc; have HG0 := hide hg0; clear hg0 hown hgrow)
    | (refine wpList_copy_splice rfl (.tmp 31) (.tmp 32) 22 22 rfl 9 HU.out hsz (some ⟨w.heap.size, 0, none⟩) (some ⟨b, 0, none⟩) n n 1 c rfl rfl w.heap.size 0 (repRow s n 0) 9 HG0.out [.string s] HMIN.out (fun _ => ⟨rfl, _, rfl, HSRC.out _ hcs⟩) HFIT.out HONE.out w.heap.size w hb1 (Nat.le_refl _) ?_; intro w2 HG2 hb2))
  have hg2 := HG2.out
  rw [show splice (repRow s n 0) 0 [Value.string s] = repRow s n 1 from repRow_splice (m := 1) (by omega)] at hg2
  have HG := hide hg2
  clear hg2 HG2
  go_loopw [8] (fun kv wr => ∃ k : Nat, 1 ≤ k ∧ k ≤ n ∧ kv = .int .i64 k ∧ Hid (wr.heap[w.heap.size]? = some (.cells (repRow s n k).toArray 9 (0, 0))) ∧ Below w.heap.size w wr) (fun kv _ => n - (intOf kv).toNat)
  case atStart => exact ⟨1, Nat.le_refl _, h1, rfl, HG, hb2⟩
  case round =>
    clear HG hb2 hb1
    obtain ⟨k, hk1, hk, rfl, HR, hbr⟩ := hrel
    by_cases hlt : k < n
    · obtain ⟨m, hm⟩ : ∃ m, m = min k (n - k) := ⟨_, rfl⟩
      have hm0 : 0 < m := by omega
      have hmn : k + m ≤ n := by omega
      have HMN : Hid ((List.replicate m (Value.string s)).length = Nat.min k (n - k)) := by rw [List.length_replicate, hm]; rfl
      have HONE2 : Hid (∀ u ∈ List.replicate m (Value.string s), u.oneCell' = true) := by intro u hu; rw [List.mem_replicate] at hu; rw [hu.2]; rfl
      have HFIT2 : Hid (k + (List.replicate m (Value.string s)).length ≤ (repRow s n k).length) := by rw [repRow_len hk, List.length_replicate]; exact hmn
      have HSRC2 : Hid (∀ (j : Nat) u, (List.replicate m (Value.string s))[j]? = some u → wr.drew.cell? ((⟨w.heap.size, 0, none⟩ : Addr).add j) = some u) := by
        intro j u hj
        have hjm : j < m := by have := (List.getElem?_eq_some_iff.1 hj).1; rwa [List.length_replicate] at this
        rw [List.getElem?_replicate, if_pos hjm] at hj
        injection hj with hj
        subst hj
        have := World.news_of_block (w := wr) (B := w.heap.size) (cs := (repRow s n k).toArray) (t := 9) (fr := (0, 0)) HR.out j (.string s) (by
          show (repRow s n k).toArray.toList[j]? = _
          rw [List.toList_toArray, repRow, List.getElem?_append_left (by rw [List.length_replicate]; omega), List.getElem?_replicate, if_pos (by omega)])
        exact this
      have HSP : Hid (splice (repRow s n k) k (List.replicate m (Value.string s)) = repRow s n (k + m)) := repRow_splice hmn
      have e1 : IntKind.i64.wrap ((k : Int) + (m : Int)) = (k : Int) + (m : Int) := IntWalk.i64_in _ (by omega)
      have HM := hide hm
      have b1 : (k : Int) ≤ (n : Int) := by omega
      have b2 : (0 : Int) ≤ (k : Int) := by omega
      have hkn : ¬ n = k := by omega
      clear hm
      have hrun : ∃ w5, (Builtin.copy_ #[22, 22] 3 #[.slice (some ⟨w.heap.size, k, none⟩) (n - k) (n - k), .slice (some ⟨w.heap.size, 0, none⟩) k n]).run Tryz.prog wr.drew = .ok (.int .i64 m) w5 ∧
          w5.heap[w.heap.size]? = some (.cells (repRow s n (k + m)).toArray 9 (0, 0)) ∧ Below w.heap.size w w5 := by
        have hq := run_copy_row (P := Tryz.prog) wr.drew 22 22 3 9 w.heap.size k (n - k) (n - k) ⟨w.heap.size, 0, none⟩ k n (repRow s n k).toArray 9 (List.replicate m (.string s)) HU.out hsz HR.out HMN.out HSRC2.out (by simpa using HFIT2.out) HONE2.out
        rw [List.length_replicate] at hq
        refine ⟨_, hq, ?_, below_setRow hbr.drew (Nat.le_refl _) _⟩
        refine (setRow_heap wr.drew _ _ _ _ _ (show wr.drew.heap[w.heap.size]? = _ from HR.out)).trans ?_
        have := HSP.out
        unfold splice at this
        rw [List.length_replicate] at this
        rw [List.append_assoc, List.toList_toArray, this]
      obtain ⟨w5, hrun, hg5, hb5⟩ := hrun
      have HG5 := hide hg5
      clear hg5
      go_wp2_with fail
      go_region_law (fail)
      all_goals (try simp only [Act.put, List.setIfInBounds_toArray])
      all_goals go_simp
      all_goals
        go_roundw
        case rel =>
          refine ⟨_, _, _, _, _, _, _, _, _, _, _, _, _, _, ⟨k + m, by omega, hmn, ?_, HG5, hb5⟩, rfl⟩
          go_num
        case measure => show n - ((k : Int) + (m : Int)).toNat < n - ((k : Int)).toNat; omega
    · have hkn : k = n := by omega
      subst hkn
      have hrow := HR.out
      rw [repRow_full] at hrow
      have how := own_of_row (base := w.heap.size) (n := k) hrow (Nat.le_refl _) (by simp) (by simp only [maxLen]; omega)
      clear hrow HR
      go_wp2_with fail
      go_ret
      exact ⟨_, rfl, how, hbr⟩

/-! ### New -/

set_option maxRecDepth 100000 in
set_option maxHeartbeats 1600000 in
theorem new_any (n : Nat) (w : World) (h1 : 1 ≤ n) (hn : n ≤ 4000) :
    Calls Tryz.prog 29 #[.int .i64 n] w fun q w' => ∃ v, q = .returned (.tuple #[v, .int .i64 0]) ∧ DkV w' (fun b => w.heap.size ≤ b) v (DiskP.new n) ∧ Below w.heap.size w w' := by
  have hB := Box.new w 54 #[.slice none 0 0, .slice none 0 0, .int .i64 0, .bool false]
  have hb : Below w.heap.size w (w.alloc (.cells #[.slice none 0 0, .slice none 0 0, .int .i64 0, .bool false] 54)) := (Below.refl _ _).alloc (Nat.le_refl _) _
  obtain ⟨z, hz⟩ : ∃ z, z = mkB (DiskP.noughts 128) := ⟨_, rfl⟩
  have hzs := fun w => noughts_any 128 w (by omega) (by omega)
  rw [show ((128 : Int).toNat) = 128 from rfl, ← hz] at hzs
  have HZ := hide hz
  have HZS := hide hzs
  clear hz hzs
  go_enter Tryz.func29, Tryz.ntmps29
  go_wp2_with fail
  refine (HZS.out _).mono ?_
  rintro q w1 ⟨rfl, hb1⟩
  have kB1 := hB.belowS hb1
  have hbw1 := hb.trans (hb1.mono hb.size)
  have hlt1 := kB1.lt
  go_wp2_with fail
  refine (repeat_any w1.heap.size 1 n z _ hn h1 (by simp [go_sem]) (by simp) (Nat.le_refl _)).mono ?_
  rintro q w2 ⟨g, rfl, ho2, hb2⟩
  have kB2 := (kB1.up (.cells #[.string z] 9)).belowS hb2
  have hbw2 := (hbw1.alloc hbw1.size (.cells #[.string z] 9)).trans (hb2.mono (by have := hbw1.size; simp; omega))
  obtain ⟨p0, p1, p2, p3⟩ := kB2.cell4
  have f0 := kB2.frozen 0
  have f1 := kB2.frozen 1
  have f2 := kB2.frozen 2
  have f3 := kB2.frozen 3
  go_wp2_with fail
  have kF := kB2.set4 (u0 := .slice (some ⟨g, 0, none⟩) n n) (u1 := .slice none 0 0) (u2 := .int .i64 (-1)) (u3 := .bool false)
  have hbF := below_set4 (b := w.heap.size) (u0 := .slice (some ⟨g, 0, none⟩) n n) (u1 := .slice none 0 0) (u2 := .int .i64 (-1)) (u3 := .bool false) hbw2 (Nat.le_refl _)
  obtain ⟨s0, s1, s2, s3⟩ := kF.cell4
  rw [World.size_alloc] at ho2
  refine bodyPost_ret (v := .tuple #[.agg #[.slice (some ⟨g, 0, none⟩) n n, .slice none 0 0, .int .i64 (-1), .bool false], .int .i64 0]) (by simp [results, Tryz.results29, go_sem, s0, s1, s2, s3]) rfl ⟨_, rfl, ⟨_, _, _, _, _, _, rfl, ?_⟩, hbF⟩
  have e : secV (DiskP.new n).S = List.replicate n (.string z) := by simp [secV, DiskP.new, strs, HZ.out]
  refine ⟨?_, Sl.nil, by omega, by omega, Nat.le_refl _, Nat.le_refl _, by simp [DiskP.new]⟩
  rw [e]
  exact ((Sl.of_own ho2).keep (by rw [set4_size]; exact Nat.le_refl _) fun x hx _ => set4_far (by omega)).mono fun x hx => by omega

/-! ### All, octets, Fates -/

/-- a fate of which no more is looked at than may be -/
def fates (f : Fate) : Fate := { f with keep := f.keep.take 60 }

theorem fates_sl {w : World} {V : Nat → Prop} {FA : Option Addr} {fn : Nat} {f : Fate} (h : Sl w V 1 FA fn (boolV f.keep)) : (60 < fn → Sl w V 1 FA 60 (boolV (fates f).keep)) ∧ (¬ 60 < fn → (fates f).keep = f.keep) := by
  have hlen : f.keep.length = fn := by have := h.1; rw [boolV_length] at this; omega
  refine ⟨fun h1 => ⟨by rw [boolV_length, fates, List.length_take]; omega, fun _ => ?_⟩, fun h1 => List.take_of_length_le (by omega)⟩
  obtain ⟨a, e, hv, hb, hc⟩ := h.2 (by omega)
  refine ⟨a, e, hv, hb, fun j u hu => hc j u ?_⟩
  have hu' : ((f.keep.take 60).map Value.bool)[j]? = some u := hu
  rw [List.map_take, List.getElem?_take] at hu'
  split at hu'
  · exact hu'
  · cases hu'

set_option maxRecDepth 100000 in
set_option maxHeartbeats 800000 in
theorem fates_any (FA : Option Addr) (fn fc : Nat) (f : Fate) (V : Nat → Prop) (w : World) (h : Ft w V FA fn fc f) (hc : fn ≤ fc) (hc2 : fc ≤ 9223372036854775807) :
    Calls Tryz.prog 15 #[ftv FA fn fc f] w fun e w' => ∃ n, e = .returned (ftv FA n fc (fates f)) ∧ n ≤ 60 ∧ Below w.heap.size w w' ∧ Ft w' V FA n fc (fates f) := by
  have hle := h.le
  have hB1 := (Box.new w 25 #[.slice FA fn fc, .int .i64 f.torn, .int .i64 f.cut]).up (.cells #[.slice none 0 0, .int .i64 0, .int .i64 0] 25)
  have hb : Below w.heap.size w ((w.alloc (.cells #[.slice FA fn fc, .int .i64 f.torn, .int .i64 f.cut] 25)).alloc (.cells #[.slice none 0 0, .int .i64 0, .int .i64 0] 25)) := ((Below.refl _ _).alloc (Nat.le_refl _) _).alloc (by simp) _
  obtain ⟨f1, f2⟩ := fates_sl h.sl
  have e1 : (fates f).torn = f.torn := rfl
  have e2 : (fates f).cut = f.cut := rfl
  unfold ftv
  rw [e1, e2]
  obtain ⟨tn, htn⟩ : ∃ tn, tn = f.torn := ⟨_, rfl⟩
  obtain ⟨ct, hct⟩ : ∃ ct, ct = f.cut := ⟨_, rfl⟩
  rw [← htn, ← hct] at hB1 hb ⊢
  clear htn hct e1 e2
  by_cases h60 : 60 < fn
  · have hS := f1 h60
    have HF2 := hide f2
    have b1 : (60 : Int) ≤ fc := by omega
    have b2 : ¬ fc = 0 := by omega
    clear f1 f2 hB1
    go_enter Tryz.func15, Tryz.ntmps15
    go_wp2_with fail
    exact bodyPost_ret (v := .agg #[.slice FA 60 fc, .int .i64 tn, .int .i64 ct]) (by simp [results, Tryz.results15, go_sem]) rfl ⟨60, rfl, Nat.le_refl _, ((Below.refl _ _).alloc (Nat.le_refl _) _).alloc (by simp) _, hS.below (((Below.refl _ _).alloc (Nat.le_refl _) _).alloc (by simp) _), by omega⟩
  · have hE := hide (f2 h60)
    clear f1 f2 hB1
    go_enter Tryz.func15, Tryz.ntmps15
    go_wp2_with fail
    refine bodyPost_ret (v := .agg #[.slice FA fn fc, .int .i64 tn, .int .i64 ct]) (by simp [results, Tryz.results15, go_sem]) rfl ⟨fn, rfl, by omega, ((Below.refl _ _).alloc (Nat.le_refl _) _).alloc (by simp) _, ?_, hle⟩
    rw [hE.out]
    exact h.sl.below (((Below.refl _ _).alloc (Nat.le_refl _) _).alloc (by simp) _)
end Go.Proofs.YtojincohnjophaaGreatDoor

/-! The walks of layer 17: strings.Join, Read; the reference's Same of equal disks, and May. -/
namespace Go.Proofs.YtojincohnjophaaGreatDoor
open Go.RowKit
open DiskP (Bytes Disk Wr Fate)
set_option linter.unusedVariables false

theorem join_flat (xs : List (List UInt8)) : Lib.join xs [] = xs.flatten := by
  cases xs with
  | nil => rfl
  | cons x r => rw [Lib.join_cons, List.flatten_cons, Lib.joinTail]; simp

/-- a slice of strings, one behind the other -/
theorem join_any (A : Option Addr) (n c : Nat) (ss : List ByteArray) (V : Nat → Prop) (w : World) (h : Sl w V 1 A n (strs ss)) (hA : n = 0 ∨ ∃ g o, A = some ⟨g, o, none⟩) (hc : n ≤ c) (hn : n ≤ 1000000000) (hl : ((ss.map oct).flatten).length ≤ 140737488355328) :
    Calls Tryz.prog 60 #[.slice A n c, .string ⟨#[]⟩] w fun e w' => e = .returned (.string (mkB (ss.map oct).flatten)) ∧ Below w.heap.size w w' := by
  have hlen := h.len
  rcases Nat.eq_zero_or_pos n with h0 | h0
  · subst h0
    have hs : ss = [] := List.eq_nil_of_length_eq_zero hlen
    subst hs
    exact (Tryz.strings_Join_none A c ⟨#[]⟩ w).mono fun e w' ⟨he, hw⟩ => ⟨he, hw ▸ Below.refl _ _⟩
  · obtain ⟨g, o, rfl⟩ := hA.resolve_left (by omega)
    obtain ⟨a, ea, _, hb, hcell⟩ := h.2 h0
    injection ea with ea
    subst ea
    have hj := join_flat (ss.map fun x => x.data.toList)
    have := Tryz.strings_Join g o c ss ⟨#[]⟩ w (fun j x hx => by
      have := hcell j (.string x) (by rw [strs, List.getElem?_map, hx]; rfl)
      rw [Addr.add_lit] at this
      exact this) hb (by omega) (by omega) (by rw [show (⟨#[]⟩ : ByteArray).data.toList = [] from rfl, hj]; exact hl)
    rw [show (⟨#[]⟩ : ByteArray).data.toList = [] from rfl, hj, hlen] at this
    exact this

theorem read_ok {d : Disk} {i n : Int} (hm : DiskP.may d = true) (ht : DiskP.there d i n = true) (hd : d.dead = false) : DiskP.read d i n = ((((DiskP.done d).drop i.toNat).take n.toNat).flatten, 0) := by
  rw [DiskP.read, hm, ht, hd]; rfl
theorem read_dead {d : Disk} {i n : Int} (hm : DiskP.may d = true) (ht : DiskP.there d i n = true) (hd : d.dead = true) : DiskP.read d i n = ([], 14) := by
  rw [DiskP.read, hm, ht, hd]; rfl
theorem sized_flat {S : List Bytes} (h : ∀ s ∈ S, s.length = 128) : S.flatten.length = 128 * S.length := by
  induction S with
  | nil => rfl
  | cons s S ih =>
    rw [List.flatten_cons, List.length_append, h s (by simp), ih fun t ht => h t (by simp [ht]), List.length_cons]
    omega

set_option maxRecDepth 100000 in
set_option maxHeartbeats 1600000 in
theorem read17_any (A : Option Addr) (n c : Nat) (B : Option Addr) (m e : Nat) (d : Disk) (V : Nat → Prop) (i k : Nat) (w : World) (h : Dk w V A n c B m e d) (hm : DiskP.may d = true) (hik : i + k ≤ n) :
    Calls Tryz.prog 68 #[dkv A n c B m e d.left d.dead, .int .i64 i, .int .i64 k] w fun q w' => q = .returned (.tuple #[.string (mkB (DiskP.read d i k).1), .int .i64 ((DiskP.read d i k).2 : Nat)]) ∧ Below w.heap.size w w' := by
  have hlen := h.len
  have hnle := h.nle
  have hdl : (DiskP.done d).length = n := by rw [DiskP.done, DiskP.doneGo_len, hlen]
  have hmi := (DiskP.may_iff d).1 hm
  have hsz : ∀ s ∈ DiskP.done d, s.length = 128 := DiskP.doneGo_size d.W (fun w hw => (hmi.2.2.2.2 w hw).2.2) d.S hmi.2.2.2.1
  have hn1 : 0 < n := by rw [← hlen]; omega
  have ht : DiskP.there d i k = true := by
    simp only [DiskP.there, Bool.and_eq_true, decide_eq_true_eq]
    rw [hlen]; omega
  have hma := fun w1 hD => may_any A n c B m e d V w1 hD
  have hth := fun w1 hD => there_any A n c B m e d V i k w1 hD (by omega) (by omega)
  have hdo := fun w1 hD => done_any A n c B m e d V w1 hD hm
  rw [hm] at hma
  rw [ht] at hth
  have hB1 := Box.new w 54 #[.slice A n c, .slice B m e, .int .i64 d.left, .bool d.dead]
  have hb : Below w.heap.size w (w.alloc (.cells #[.slice A n c, .slice B m e, .int .i64 d.left, .bool d.dead] 54)) := (Below.refl _ _).alloc (Nat.le_refl _) _
  obtain ⟨lf, hlf⟩ : ∃ lf, lf = d.left := ⟨_, rfl⟩
  have HDL := hide hdl
  have HSZ := hide hsz
  clear hdl hsz hmi hlen
  cases hd : d.dead with
  | true =>
    rw [read_dead hm ht hd]
    rw [← hlf, hd] at hma hth hB1 hb
    rw [← hlf]
    have HMA := hide (hma _ (h.below hb))
    have HTH := hide hth
    clear hma hth hlf hdo ht hd
    go_enter Tryz.func68, Tryz.ntmps68
    go_wp2_with fail
    refine HMA.out.mono ?_
    rintro q w1 ⟨rfl, hb1⟩
    have kA1 := hB1.belowS hb1
    have hbw1 := hb.trans (hb1.mono hb.size)
    obtain ⟨p0, p1, p2, p3⟩ := kA1.cell4
    go_wp2_with fail
    refine (HTH.out _ (h.below hbw1)).mono ?_
    rintro q w2 ⟨rfl, hb2⟩
    have kA2 := kA1.belowS hb2
    have hbw2 := hbw1.trans (hb2.mono hbw1.size)
    clear p0 p1 p2 p3
    obtain ⟨p0, p1, p2, p3⟩ := kA2.cell4
    go_wp2_with fail
    go_ret2
    exact ⟨rfl, hbw2⟩
  | false =>
    rw [read_ok hm ht hd]
    obtain ⟨ss, hss⟩ : ∃ ss, ss = (((DiskP.done d).drop i).take k).map mkB := ⟨_, rfl⟩
    have e1 : ((secV (DiskP.done d)).drop (i * 1)).take ((i + k - i) * 1) = strs ss := by
      rw [hss, Nat.mul_one, Nat.mul_one, Nat.add_sub_cancel_left]
      simp [secV, strs, List.map_drop, List.map_take]
    have e2 : (ss.map oct).flatten = (((DiskP.done d).drop i).take k).flatten := by
      rw [hss, List.map_map, show oct ∘ mkB = id from funext oct_mkB, List.map_id]
    have hjl : ((ss.map oct).flatten).length ≤ 140737488355328 := by
      rw [e2, sized_flat fun s hs => HSZ.out s (List.mem_of_mem_drop (List.mem_of_mem_take hs)), List.length_take]
      omega
    rw [Int.toNat_natCast, Int.toNat_natCast, ← e2]
    have E1 := hide e1
    have HJL := hide hjl
    clear e1 e2 hjl hss
    rw [← hlf, hd] at hma hth hB1 hb hdo
    rw [← hlf]
    have HMA := hide (hma _ (h.below hb))
    have HTH := hide hth
    have HDO := hide hdo
    clear hma hth hlf hdo ht hd
    go_enter Tryz.func68, Tryz.ntmps68
    go_wp2_with fail
    refine HMA.out.mono ?_
    rintro q w1 ⟨rfl, hb1⟩
    have kA1 := hB1.belowS hb1
    have hbw1 := hb.trans (hb1.mono hb.size)
    obtain ⟨p0, p1, p2, p3⟩ := kA1.cell4
    go_wp2_with fail
    refine (HTH.out _ (h.below hbw1)).mono ?_
    rintro q w2 ⟨rfl, hb2⟩
    have kA2 := kA1.belowS hb2
    have hbw2 := hbw1.trans (hb2.mono hbw1.size)
    clear p0 p1 p2 p3
    obtain ⟨p0, p1, p2, p3⟩ := kA2.cell4
    go_wp2_with fail
    refine (HDO.out _ (h.below hbw2)).mono ?_
    rintro q w3 ⟨v3, rfl, ho3, hb3⟩
    obtain ⟨g, cap, hv3, hg1, hg2, hgc⟩ := own_form ho3 hn1
    subst hv3
    have hbw3 := hbw2.trans (hb3.mono hbw2.size)
    have hsl := (Sl.of_own ho3).cut (k := i) (m := i + k) (cap := cap) (by omega) hik (by omega)
    rw [E1.out, Nat.add_sub_cancel_left, Nat.mul_one] at hsl
    have b1 : (i : Int) ≤ (cap : Int) := by omega
    have b2 : (i : Int) + (k : Int) ≤ (cap : Int) := by omega
    have b3 : (i : Int) ≤ (i : Int) + (k : Int) := by omega
    have hjl := HJL.out
    clear ho3 p0 p1 p2 p3
    by_cases hci : cap = i
    · rw [if_pos hci] at hsl
      have hj := join_any _ k (cap - i) ss _ w3 hsl (.inl (by omega)) (by omega) (by omega) hjl
      clear hsl hjl
      subst hci
      have hk0 : k = 0 := by omega
      subst hk0
      rw [Nat.sub_self] at hj
      go_wp2_with fail
      refine hj.mono ?_
      rintro q w4 ⟨rfl, hb4⟩
      go_wp2_with fail
      go_ret2
      exact ⟨rfl, hbw3.trans (hb4.mono hbw3.size)⟩
    · rw [if_neg hci] at hsl
      have hA : (some (⟨g, 0, none⟩ : Addr)).map (fun x => x.add i) = some ⟨g, i, none⟩ := by rw [Option.map_some, Addr.add_lit, Nat.zero_add]
      rw [hA] at hsl
      have hj := join_any _ k (cap - i) ss _ w3 hsl (.inr ⟨g, i, rfl⟩) (by omega) (by omega) hjl
      clear hsl hjl hA
      go_wp2_with fail
      refine hj.mono ?_
      rintro q w4 ⟨rfl, hb4⟩
      go_wp2_with fail
      go_ret2
      exact ⟨rfl, hbw3.trans (hb4.mono hbw3.size)⟩
end Go.Proofs.YtojincohnjophaaGreatDoor

/-! The walks of layer 17: the reference's Same of equal disks without writes that wait, and its May. -/
namespace Go.Proofs.YtojincohnjophaaGreatDoor
open Go.RowKit
open DiskP (Bytes Disk Wr Fate)
set_option linter.unusedVariables false

/-! ### The reference's May -/

end Go.Proofs.YtojincohnjophaaGreatDoor
