/- The walk of the reference's Lay. -/
import Derived.Test.YteoiadfcchalfaaSlotB
import Derived.Test.YteoiadfcchalfaaSlotC
namespace Go.Proofs.Yteoiadfcchalfaa
open Go.RowKit
set_option linter.unusedVariables false

theorem set_zero (a b : List UInt8) (z : Nat) (x : UInt8) : (a ++ (List.replicate (z + 1) 0 ++ b)).set a.length x = (a ++ [x]) ++ (List.replicate z 0 ++ b) := by
  rw [List.set_append, if_neg (by omega), Nat.sub_self, List.replicate_succ]
  simp

theorem bytesV_set (l : List UInt8) (j : Nat) (x : UInt8) : (bytesV l).set j (.int .u8 (x.toNat : Int)) = bytesV (l.set j x) := by
  simp [bytesV, List.map_set]

/-- A store of an octet over a nought of a row of one's own. -/
theorem row_set {w : World} {base g cap n : Nat} {e : TypeId} {L : List UInt8} (h : w.ownsRow base e 1 (.slice (some ⟨g, 0, none⟩) n cap) n (bytesV L)) (a b : List UInt8) (z : Nat) (hL : L = a ++ (List.replicate (z + 1) 0 ++ b)) (j : Nat) (hj : j = a.length) (x : Int) (y : UInt8) (hx : x = (y.toNat : Int)) :
    (∃ u, w.cell? ⟨g, j, none⟩ = some u) ∧ w.frozen? ⟨g, j, none⟩ = false ∧ (w.setCell ⟨g, j, none⟩ (.int .u8 x)).ownsRow base e 1 (.slice (some ⟨g, 0, none⟩) n cap) n (bytesV ((a ++ [y]) ++ (List.replicate z 0 ++ b))) := by
  have hl := h.1
  rw [bytesV_length, hL] at hl
  simp only [List.length_append, List.length_replicate] at hl
  refine ⟨⟨Value.int .u8 (((L.getD j 0).toNat : Nat) : Int), ?_⟩, h.frozenAt j, ?_⟩
  · rw [h.cellAt j (by omega), bytesV, List.getElem?_map, List.getD_eq_getElem?_getD, List.getElem?_eq_getElem (by rw [hL]; simp only [List.length_append, List.length_replicate]; omega)]
    rfl
  · have := (h.stored j (.int .u8 x)).1
    rw [hx, bytesV_set, hL, hj, set_zero, ← hx, ← hj] at this
    exact this

/-- the page when k cells are laid -/
def rTail (ss : List ByteArray) (k : Nat) : List UInt8 := (octs (ss.take k)).reverse.flatten
def rHead (ss : List ByteArray) (k n : Nat) : List UInt8 := SlotP.u16 n ++ SlotP.heads (octs (ss.take k))
def rRest (ss : List ByteArray) (k : Nat) : Nat := 1022 - 2 * k - SlotP.sumLen (octs (ss.take k))

/-- the same, when j octets of the cell k are laid -/
def rMid (ss : List ByteArray) (k n : Nat) (s : ByteArray) (j : Nat) : List UInt8 :=
  rHead ss (k + 1) n ++ List.replicate (rRest ss (k + 1)) 0 ++ (oct s).take j ++ (List.replicate (s.size - j) 0 ++ rTail ss k)
theorem rHead_succ {ss : List ByteArray} {k n : Nat} {s : ByteArray} (h : ss[k]? = some s) : rHead ss (k + 1) n = rHead ss k n ++ [UInt8.ofNat (s.size / 256)] ++ [UInt8.ofNat s.size] := by
  have h1 : k < ss.length := (List.getElem?_eq_some_iff.1 h).1
  have h2 : ss[k] = s := (List.getElem?_eq_some_iff.1 h).2
  simp only [rHead, SlotP.heads]
  rw [List.take_succ_eq_append_getElem h1, h2, octs_append, octs_cons, octs_nil, List.flatMap_append]
  simp [SlotP.u16]
theorem rHead_length (ss : List ByteArray) (k n : Nat) (hk : k ≤ ss.length) : (rHead ss k n).length = 2 + 2 * k := by
  simp only [rHead, List.length_append, SlotP.heads_length, octs_length, List.length_take]
  simp [SlotP.u16]
  omega
theorem rMid_zero {ss : List ByteArray} {k n : Nat} {s : ByteArray} (h : ss[k]? = some s) :
    rHead ss k n ++ [UInt8.ofNat (s.size / 256)] ++ [UInt8.ofNat s.size] ++ (List.replicate (rRest ss (k + 1) + s.size) 0 ++ rTail ss k) = rMid ss k n s 0 := by
  have e : List.replicate (rRest ss (k + 1) + s.size) (0 : UInt8) = List.replicate (rRest ss (k + 1)) 0 ++ List.replicate s.size 0 := (List.replicate_append_replicate).symm
  rw [rMid, rHead_succ h, e]
  simp only [List.take_zero, List.append_nil, Nat.sub_zero, List.append_assoc]
theorem rTail_succ {ss : List ByteArray} {k : Nat} {s : ByteArray} (h : ss[k]? = some s) : rTail ss (k + 1) = oct s ++ rTail ss k := by
  have h1 : k < ss.length := (List.getElem?_eq_some_iff.1 h).1
  have h2 : ss[k] = s := (List.getElem?_eq_some_iff.1 h).2
  simp only [rTail]
  rw [List.take_succ_eq_append_getElem h1, h2, octs_append, octs_cons, octs_nil]
  simp
theorem rMid_full {ss : List ByteArray} {k n : Nat} {s : ByteArray} (h : ss[k]? = some s) : rMid ss k n s s.size = rHead ss (k + 1) n ++ (List.replicate (rRest ss (k + 1)) 0 ++ rTail ss (k + 1)) := by
  rw [rMid, rTail_succ h, List.take_of_length_le (by rw [oct_length]; omega)]
  simp
theorem rMid_succ {ss : List ByteArray} {k n : Nat} {s : ByteArray} {j : Nat} (hj : j < s.size) :
    rMid ss k n s j = (rHead ss (k + 1) n ++ List.replicate (rRest ss (k + 1)) 0 ++ (oct s).take j) ++ (List.replicate ((s.size - (j + 1)) + 1) 0 ++ rTail ss k) ∧
    (rHead ss (k + 1) n ++ List.replicate (rRest ss (k + 1)) 0 ++ (oct s).take j) ++ [s[j]] ++ (List.replicate (s.size - (j + 1)) 0 ++ rTail ss k) = rMid ss k n s (j + 1) := by
  refine ⟨by rw [rMid, show s.size - j = (s.size - (j + 1)) + 1 by omega], ?_⟩
  rw [rMid, List.take_succ_eq_append_getElem (by rw [oct_length]; exact hj)]
  simp only [List.append_assoc]
  rfl
theorem rStart (ss : List ByteArray) (n : Nat) (hn : n ≤ 40) : bytesV (([0] ++ [UInt8.ofNat n]) ++ (List.replicate 1022 0 ++ [])) = bytesV (rHead ss 0 n ++ (List.replicate (rRest ss 0) 0 ++ rTail ss 0)) := by
  have e : n / 256 = 0 := by omega
  have e1 : rHead ss 0 n = [0] ++ [UInt8.ofNat n] := by
    simp only [rHead, List.take_zero, octs_nil, SlotP.heads, List.flatMap_nil, List.append_nil, SlotP.u16, e]
    rfl
  have e2 : rRest ss 0 = 1022 := by simp only [rRest, List.take_zero, octs_nil, SlotP.sumLen_nil]
  have e3 : rTail ss 0 = [] := rfl
  rw [e1, e2, e3]
theorem rStep {ss : List ByteArray} {k n : Nat} {s : ByteArray} (h : ss[k]? = some s) (hn : ss.length = n) (hle : ∀ s ∈ ss, (oct s).length ≤ 1000) (hu : SlotP.used (octs ss) ≤ 1024) (hk : k < n) (hk2 : k < ss.length) :
    (s.size : Int) ≤ 1000 ∧ SlotP.sumLen (octs (ss.take (k + 1))) = SlotP.sumLen (octs (ss.take k)) + s.size ∧ (SlotP.sumLen (octs (ss.take (k + 1))) : Int) ≤ 1022 ∧
    rRest ss k = rRest ss (k + 1) + s.size + 1 + 1 ∧ 2 + 2 * k = (rHead ss k n).length := by
  have h1 := sumLen_take_succ ss k s h
  have h2 := sumLen_take_le ss (k + 1)
  have h4 := hle s (List.mem_of_getElem? h)
  rw [oct_length] at h4
  simp only [SlotP.used, octs_length] at hu
  refine ⟨by omega, h1, by omega, ?_, (rHead_length ss k n (by omega)).symm⟩
  simp only [rRest, h1]
  omega

theorem rAll {ss : List ByteArray} {k : Nat} (h : ss.length = k) : rHead ss k k ++ (List.replicate (rRest ss k) 0 ++ rTail ss k) = SlotP.lay (octs ss) := by
  have e : ss.take k = ss := List.take_of_length_le (by omega)
  simp only [rHead, rRest, rTail, e, SlotP.lay, octs_length, h, SlotP.used]
  rw [show 1022 - 2 * k - SlotP.sumLen (octs ss) = 1024 - (2 + 2 * k + SlotP.sumLen (octs ss)) by omega]
  simp

set_option maxRecDepth 100000 in
set_option maxHeartbeats 4000000 in
theorem rlay_any (A : Option Addr) (n c : Nat) (ss : List ByteArray) (V : Nat → Prop) (w : World) (h : Sl w V 1 A n (strs ss)) (hf : SlotP.fits (octs ss) = true) :
    Calls Try.prog 30 #[.slice A n c] w fun e w' => e = .returned (.string ⟨(SlotP.lay (octs ss)).toArray⟩) ∧ Below w.heap.size w w' := by
  have h3 := (SlotP.fits_iff _).1 hf
  have hlen : ss.length = n := h.len
  rw [octs_length] at h3
  obtain ⟨h31, h32, h33⟩ := h3
  have hn40 : (n : Int) ≤ 40 := by omega
  have HL := hide hlen
  have H3 := hide h32
  have H33 := hide h33
  clear hf hlen h32 h33 h31
  have hmk : ∀ w, (Instr.makeSlice 62 (.int .i64 1024) (.int .i64 1024)).run Try.prog w = .ok (.slice (some ⟨w.heap.size, 0, none⟩) 1024 1024) (w.alloc (.cells (madeCells #[.int .u8 0] 1024) 5)) := by
    intro w
    obtain ⟨i0, hi, hz0, hz1, hz2⟩ := info_parts Try.info5
    have := run_make (P := Try.prog) w 62 5 i0 (.int .u8 0) Try.underlying62 hi hz0 .i64 .i64 1024 1024 (by omega) (Int.le_refl _) (by rw [hz2]; omega) (by omega)
    simpa [hz1, Value.cells] using this
  have how0 := World.ownsRow_lit (base := w.heap.size) (e := 5) (size := 1) w (madeCells #[.int .u8 0] 1024) 1024 (Nat.le_refl _) (by simp [maxLen]) (by rw [size_madeCells])
  rw [toList_madeCells_one, show (List.replicate 1024 (Value.int .u8 0)) = bytesV (List.replicate 1024 0) by simp [bytesV]] at how0
  have hb0 : Below w.heap.size w (w.alloc (.cells (madeCells #[.int .u8 0] 1024) 5)) := (Below.refl _ w).alloc (Nat.le_refl _) _
  generalize hW : w.alloc (.cells (madeCells #[.int .u8 0] 1024) 5) = W0 at how0 hb0
  obtain ⟨⟨u0, hc0⟩, hf0, how1⟩ := row_set how0 [0] [] 1022 (by simp [List.replicate_succ]) 1 rfl (n : Int) (UInt8.ofNat n) (by simp; omega)
  have hb1 : Below w.heap.size w (W0.setCell ⟨w.heap.size, 1, none⟩ (.int .u8 (n : Int))) := hb0.setCell (Nat.le_refl _) _
  rw [rStart ss n (by omega)] at how1
  have HW := hide hW
  clear how0
  go_enter Try.func30, Try.ntmps30
  go_wp2
  clear hW hmk
  go_loopw [4, 5] (fun f i wr => ∃ k fin : Nat, k ≤ n ∧ i = .int .i64 k ∧ f = .int .i64 fin ∧ Hid (fin = 1024 - SlotP.sumLen (octs (ss.take k))) ∧ fin ≤ 1024 ∧ wr.ownsRow w.heap.size 5 1 (.slice (some ⟨w.heap.size, 0, none⟩) 1024 1024) 1024 (bytesV (rHead ss k n ++ (List.replicate (rRest ss k) 0 ++ rTail ss k))) ∧ Below w.heap.size w wr)
    (fun _ i _ => n - (intOf i).toNat)
  case atStart => exact ⟨0, 1024, Nat.zero_le _, rfl, rfl, hide (by simp [octs_nil, SlotP.sumLen_nil]), Nat.le_refl _, how1, hb1⟩
  case round =>
    clear how1 hb1 hb0 hc0 hf0
    obtain ⟨k, fin, hk, rfl, rfl, HFIN, hfin, how, hb⟩ := hrel
    by_cases hlt : k < n
    · obtain ⟨a, s, hA, hsk, hc⟩ := (h.below hb).str hlt
      subst hA
      have hst := rStep hsk (by have := HL.out; omega) (fun x hx => H3.out (oct x) (mem_octs.2 ⟨x, hx, rfl⟩)) H33.out hlt (by have := HL.out; omega)
      obtain ⟨hsz, hsum, hend, hrest, hhl⟩ := hst
      obtain ⟨⟨u1, hc1⟩, hf1, how1⟩ := row_set how (rHead ss k n) (rTail ss k) (rRest ss (k + 1) + s.size + 1) (by rw [hrest]) (2 + 2 * k) hhl ((s.size : Int) / 256) (UInt8.ofNat (s.size / 256)) (by simp; omega)
      obtain ⟨⟨u2, hc2⟩, hf2, how2⟩ := row_set how1 (rHead ss k n ++ [UInt8.ofNat (s.size / 256)]) (rTail ss k) (rRest ss (k + 1) + s.size) rfl (3 + 2 * k) (by simp; omega) ((s.size : Int) % 256) (UInt8.ofNat s.size) (by simp)
      have hb2 : Below w.heap.size w ((wr.setCell ⟨w.heap.size, 2 + 2 * k, none⟩ (.int .u8 ((s.size : Int) / 256))).setCell ⟨w.heap.size, 3 + 2 * k, none⟩ (.int .u8 ((s.size : Int) % 256))) := (hb.setCell (Nat.le_refl _) _).setCell (Nat.le_refl _) _
      have e2 : rHead ss k n ++ [UInt8.ofNat (s.size / 256)] ++ [UInt8.ofNat s.size] ++ (List.replicate (rRest ss (k + 1) + s.size) 0 ++ rTail ss k) = rMid ss k n s 0 := rMid_zero hsk
      rw [e2] at how2
      have HSK := hide hsk
      have HHL := hide hhl
      have HREST := hide hrest
      have HEND := hide hend
      have HSUM := hide hsum
      have hfs : (s.size : Int) ≤ fin := by have := HFIN.out; omega
      have hpos : fin - s.size = (rHead ss (k + 1) n ++ List.replicate (rRest ss (k + 1)) 0).length := by
        rw [List.length_append, rHead_length ss (k + 1) n (by have := HL.out; omega), List.length_replicate]
        have h1 := HFIN.out
        have h2 := HEND.out
        simp only [rRest]
        have h3 := H33.out
        have h4 := sumLen_take_le ss (k + 1)
        simp only [SlotP.used, octs_length, HL.out] at h3
        omega
      have HPOS := hide hpos
      clear e2 hsk how how1 hhl hrest hend hsum hpos
      go_wp2
      obtain ⟨wo, hwo⟩ : ∃ wo : World, wo = wr := ⟨_, rfl⟩
      generalize hW2 : (wr.setCell ⟨w.heap.size, 2 + 2 * k, none⟩ (.int .u8 ((s.size : Int) / 256))).setCell ⟨w.heap.size, 3 + 2 * k, none⟩ (.int .u8 ((s.size : Int) % 256)) = W2 at *
      have HW2 := hide hW2
      have HWO := hide hwo
      clear hW2 hwo
      go_loopw [7] (fun v wr => ∃ j : Nat, j ≤ s.size ∧ v = .int .i64 j ∧ wr.ownsRow w.heap.size 5 1 (.slice (some ⟨w.heap.size, 0, none⟩) 1024 1024) 1024 (bytesV (rMid ss k n s j)) ∧ Below w.heap.size w wr)
        (fun v _ => s.size - (intOf v).toNat)
      case atStart => exact ⟨0, Nat.zero_le _, rfl, how2, hb2⟩
      case round =>
        clear how2 hb2 hc1 hc2 hf1 hf2 hc hb
        obtain ⟨j, hj, rfl, how, hb⟩ := hrel
        by_cases hlj : j < s.size
        · obtain ⟨a2, s2, hA2, hsk2, hc⟩ := (h.below hb).str hlt
          injection hA2 with hA2
          subst hA2
          rw [HSK.out] at hsk2
          injection hsk2 with hsk2
          subst hsk2
          obtain ⟨m1, m2⟩ := rMid_succ (ss := ss) (k := k) (n := n) hlj
          obtain ⟨⟨u1, hc1⟩, hf1, how1⟩ := row_set how _ _ _ m1 (fin - s.size + j) (by rw [List.length_append, ← HPOS.out, List.length_take, oct_length]; omega) (s[j].toNat : Int) s[j] rfl
          rw [m2] at how1
          have hb1 : Below w.heap.size w (wr.setCell ⟨w.heap.size, fin - s.size + j, none⟩ (.int .u8 (s[j].toNat : Int))) := hb.setCell (Nat.le_refl _) _
          have hlj' : (j : Int) < s.size := by omega
          clear m1 m2 how
          go_wp2
          go_roundw
          case rel => exact ⟨j + 1, by omega, by go_num, how1, hb1⟩
          case measure => simp [intOf]; omega
        · obtain rfl : j = s.size := by omega
          rw [rMid_full HSK.out] at how
          go_wp2
          go_roundw
          case rel => exact ⟨k + 1, fin - s.size, by omega, by go_num, by congr 1; omega, hide (by have h1 := HFIN.out; have h2 := HSUM.out; omega), by omega, how, hb⟩
          case measure => simp [intOf]; omega
    · obtain rfl : k = n := by omega
      have e : rHead ss k k ++ (List.replicate (rRest ss k) 0 ++ rTail ss k) = SlotP.lay (octs ss) := rAll HL.out
      rw [e] at how
      have hsl := Sl.of_own how
      have hcv := conv_str (P := Try.prog) (c := 1024) hsl 62 9 5 Try.underlying62 Try.underlying5 Try.underlying9
      clear e how hsl
      go_wp2
      go_ret
      exact ⟨rfl, hb⟩

end Go.Proofs.Yteoiadfcchalfaa
