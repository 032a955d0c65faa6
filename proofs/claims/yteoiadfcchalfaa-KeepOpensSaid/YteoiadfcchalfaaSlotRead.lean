/- The walks of slot.Read and of the reference's Read. -/
import Derived.Test.YteoiadfcchalfaaSlotLay
namespace Go.Proofs.Yteoiadfcchalfaa
open Go.RowKit
set_option linter.unusedVariables false

theorem i64_or_nat (a b : Nat) (ha : a < 9223372036854775808) (hb : b < 9223372036854775808) : bits .or .i64 (a : Int) (b : Int) = ((a ||| b : Nat) : Int) := by
  have hx : a ||| b < 2 ^ 63 := Nat.or_lt_two_pow (by omega) (by omega)
  have ea : (BitVec.ofInt 64 (a : Int)).toNat = a := by rw [BitVec.ofInt_natCast, BitVec.toNat_ofNat]; exact Nat.mod_eq_of_lt (by omega)
  have eb : (BitVec.ofInt 64 (b : Int)).toNat = b := by rw [BitVec.ofInt_natCast, BitVec.toNat_ofNat]; exact Nat.mod_eq_of_lt (by omega)
  show IntKind.i64.wrap ((BitVec.ofInt 64 (a : Int) ||| BitVec.ofInt 64 (b : Int)).toNat : Int) = _
  rw [BitVec.toNat_or, ea, eb, IntKind.wrap_i64]
  omega
theorem or_bytes (x y : Nat) (hy : y < 256) : (x * 256) ||| y = 256 * x + y := by
  have := Nat.shiftLeft_add_eq_or_of_lt (b := y) (i := 8) (by omega) x
  rw [Nat.shiftLeft_eq] at this
  rw [← this]; omega

theorem oct_at (s : ByteArray) (i : Nat) (h : i < s.size) : (oct s).getD i 0 = s[i] := by
  rw [List.getD_eq_getElem?_getD, List.getElem?_eq_getElem (by rw [oct_length]; exact h)]
  rfl
theorem rd16 (s : ByteArray) (i j : Nat) (hi : i < s.size) (hj : j < s.size) (hij : j = i + 1) :
    bits .or .i64 (wrap64 (wrap64 (s[i].toNat : Int) * 256)) (wrap64 (s[j].toNat : Int)) = ((SlotP.at16 (oct s) i : Nat) : Int) := by
  subst hij
  have h1 : s[i].toNat < 256 := UInt8.toNat_lt _
  have h2 : s[i + 1].toNat < 256 := UInt8.toNat_lt _
  have e1 : wrap64 (wrap64 (s[i].toNat : Int) * 256) = ((s[i].toNat * 256 : Nat) : Int) := by
    have e0 : wrap64 (s[i].toNat : Int) = (s[i].toNat : Int) := IntWalk.wrap64_in _ (by omega)
    rw [e0, IntWalk.wrap64_in _ (by omega)]; omega
  have e2 : wrap64 (s[i + 1].toNat : Int) = ((s[i + 1].toNat : Nat) : Int) := IntWalk.wrap64_in _ (by omega)
  rw [e1, e2, i64_or_nat _ _ (by omega) (by omega), or_bytes _ _ h2, SlotP.at16, oct_at s i hi, oct_at s (i + 1) hj]
theorem at16_lt (s : List UInt8) (i : Nat) : SlotP.at16 s i < 65536 := by
  have h1 : (s.getD i 0).toNat < 256 := UInt8.toNat_lt _
  have h2 : (s.getD (i + 1) 0).toNat < 256 := UInt8.toNat_lt _
  simp only [SlotP.at16]
  omega

/-- what the loop of Read still has to do comes to what is read -/
def Reads (b : List UInt8) (n k : Nat) (ts : List ByteArray) (fin : Nat) : Prop :=
  SlotP.readGo b (n - k) k (octs ts) fin = SlotP.readGo b n 0 [] 1024 ∧ ts.length = k ∧ fin ≤ 1024
theorem reads_start (b : List UInt8) (n : Nat) : Reads b n 0 [] 1024 := ⟨by simp [octs_nil], rfl, by omega⟩
theorem reads_no {b : List UInt8} {n k : Nat} {ts : List ByteArray} {fin : Nat} (h : Reads b n k ts fin) (hk : k < n) (hlt : (fin : Int) < (SlotP.at16 b (2 + 2 * k) : Nat)) : SlotP.readGo b n 0 [] 1024 = none := by
  rw [← h.1, show n - k = (n - (k + 1)) + 1 by omega, SlotP.readGo, if_pos (by omega)]
theorem reads_succ {s : ByteArray} {n k : Nat} {ts : List ByteArray} {fin : Nat} (h : Reads (oct s) n k ts fin) (hk : k < n) (hle : (SlotP.at16 (oct s) (2 + 2 * k) : Int) ≤ fin) :
    Reads (oct s) n (k + 1) (ts ++ [s.extract (fin - SlotP.at16 (oct s) (2 + 2 * k)) fin]) (fin - SlotP.at16 (oct s) (2 + 2 * k)) := by
  refine ⟨?_, by simp [h.2.1], by have := h.2.2; omega⟩
  rw [← h.1, show n - k = (n - (k + 1)) + 1 by omega, SlotP.readGo, if_neg (by omega), octs_append, octs_cons, octs_nil, oct_extract, show fin - (fin - SlotP.at16 (oct s) (2 + 2 * k)) = SlotP.at16 (oct s) (2 + 2 * k) by omega]
theorem reads_all {b : List UInt8} {n : Nat} {ts : List ByteArray} {fin : Nat} (h : Reads b n n ts fin) : SlotP.readGo b n 0 [] 1024 = some (octs ts) := by
  rw [← h.1, Nat.sub_self, SlotP.readGo]
theorem read_none {b : List UInt8} (h1 : b.length = 1024) (h2 : SlotP.at16 b 0 ≤ 40) (h3 : SlotP.readGo b (SlotP.at16 b 0) 0 [] 1024 = none) : SlotP.read b = ([], 3) := by
  unfold SlotP.read
  rw [if_neg (by omega), if_neg (by omega), h3]
theorem read_some {b : List UInt8} {l : List (List UInt8)} (h1 : b.length = 1024) (h2 : SlotP.at16 b 0 ≤ 40) (h3 : SlotP.readGo b (SlotP.at16 b 0) 0 [] 1024 = some l) : SlotP.read b = if SlotP.fits l && decide (SlotP.lay l = b) then (l, 0) else ([], 3) := by
  unfold SlotP.read
  rw [if_neg (by omega), if_neg (by omega), h3]
theorem read_far {b : List UInt8} (h1 : b.length = 1024) (h2 : 40 < SlotP.at16 b 0) : SlotP.read b = ([], 3) := by
  unfold SlotP.read
  rw [if_neg (by omega), if_pos (by omega)]
theorem read_short {b : List UInt8} (h1 : b.length ≠ 1024) : SlotP.read b = ([], 17) := by
  unfold SlotP.read
  rw [if_pos h1]

set_option maxRecDepth 100000 in
set_option maxHeartbeats 4000000 in
theorem read_any (s : ByteArray) (w : World) (hs : s.size ≤ 9223372036854775807) :
    Calls Try.prog 19 #[.string s] w fun e w' => ∃ v ts, e = .returned (.tuple #[v, .int .i64 ((SlotP.read (oct s)).2 : Nat)]) ∧ w'.ownsRow w.heap.size 9 1 v ts.length (strs ts) ∧ octs ts = (SlotP.read (oct s)).1 ∧ Below w.heap.size w w' := by
  by_cases h1024 : s.size = 1024
  · have hne : ((s.size : Int) != 1024) = false := by simp; omega
    have h00 : 0 < s.size := by omega
    have h01 : 1 < s.size := by omega
    have h02 : (0 : Int) < s.size := by omega
    have h03 : (1 : Int) < s.size := by omega
    have hsz : (1024 : Int) ≤ s.size := by omega
    have hsz2 : (s.size : Int) ≤ 1024 := by omega
    have hrd := rd16 s 0 1 h00 h01 rfl
    have hl1024 : (oct s).length = 1024 := by rw [oct_length]; exact h1024
    have H1024 := hide h1024
    have HL := hide hl1024
    clear h1024 hl1024
    by_cases h40 : 40 < SlotP.at16 (oct s) 0
    · have hr := read_far HL.out h40
      have h40' : (40 : Int) < (SlotP.at16 (oct s) 0 : Nat) := by omega
      have HR := hide hr
      clear hr h40
      go_enter Try.func19, Try.ntmps19
      go_wp2
      go_quiet (fail)
      go_wp2
      go_ret2
      exact ⟨_, [], by rw [HR.out]; rfl, World.ownsRow_nil _ _ _ _, by rw [HR.out]; rfl, below_drewN (Below.refl _ _) _⟩
    · have h40' : (SlotP.at16 (oct s) 0 : Int) ≤ 40 := by omega
      clear h40
      go_enter Try.func19, Try.ntmps19
      go_wp2
      go_quiet (fail)
      go_wp2
      clear hrd
      generalize hn0 : SlotP.at16 (oct s) 0 = n at *
      have HN := hide hn0
      clear hn0
      go_loopw [5, 6, 27] (fun v f i wr => ∃ (k fin : Nat) (ts : List ByteArray), k ≤ n ∧ i = .int .i64 k ∧ f = .int .i64 fin ∧ Reads (oct s) n k ts fin ∧ wr.ownsRow w.heap.size 9 1 v k (strs ts) ∧ Below w.heap.size w wr) (fun _ _ i _ => n - (intOf i).toNat)
      case atStart => exact ⟨0, 1024, [], Nat.zero_le _, rfl, by rw [H1024.out], reads_start _ _, World.ownsRow_nil _ _ _ _, below_drewN (Below.refl _ _) _⟩
      case round =>
        obtain ⟨k, fin, ts, hk, rfl, rfl, hrs, hown, hb⟩ := hrel
        have hfin := hrs.2.2
        have htl := hrs.2.1
        have HTL := hide htl
        clear htl
        by_cases hlt : k < n
        · have g1 : 2 + 2 * k < s.size := by omega
          have g2 : 3 + 2 * k < s.size := by omega
          have g3 : (2 : Int) + 2 * k < s.size := by omega
          have g4 : (3 : Int) + 2 * k < s.size := by omega
          have g5 : (0 : Int) ≤ 2 + 2 * k := by omega
          have g6 : (0 : Int) ≤ 3 + 2 * k := by omega
          have e1 : IntKind.i64.wrap (2 * (k : Int)) = 2 * (k : Int) := IntWalk.i64_in _ (by omega)
          have e2 : IntKind.i64.wrap (2 + 2 * (k : Int)) = 2 + 2 * (k : Int) := IntWalk.i64_in _ (by omega)
          have e3 : IntKind.i64.wrap (3 + 2 * (k : Int)) = 3 + 2 * (k : Int) := IntWalk.i64_in _ (by omega)
          have e4 : ((2 : Int) + 2 * k).toNat = 2 + 2 * k := by omega
          have e5 : ((3 : Int) + 2 * k).toNat = 3 + 2 * k := by omega
          have hrd := rd16 s (2 + 2 * k) (3 + 2 * k) g1 g2 (by omega)
          by_cases hgt : (fin : Int) < (SlotP.at16 (oct s) (2 + 2 * k) : Nat)
          · have hr := read_none HL.out (by have := HN.out; omega) (by rw [HN.out]; exact reads_no hrs hlt hgt)
            have HR := hide hr
            clear hr
            go_wp2
            go_quiet (fail)
            go_wp2
            go_ret2
            exact ⟨_, [], by rw [HR.out]; rfl, World.ownsRow_nil _ _ _ _, by rw [HR.out]; rfl, below_drewN hb _⟩
          · have hgt' : (SlotP.at16 (oct s) (2 + 2 * k) : Int) ≤ fin := by omega
            have hrs' := reads_succ hrs hlt hgt'
            have HRS := hide hrs'
            have HRO := hide hrs
            clear hrs hrs' hgt
            go_wp2
            go_quiet (fail)
            clear e1 e2 e3 hrd
            have hb' := below_drewN hb nq
            go_wp2_with (at_builtin; refine wp_app_str rfl _ _ rfl w.heap.size _ _ _ (own_drewN hown nq) rfl (s.extract (fin - SlotP.at16 (oct s) (2 + 2 * k)) fin) rfl (by omega) hb'.size ?_; intro v' w1 hA)
            have hb1 := hA.below (own_drewN hown nq) hb' (Nat.le_refl _) hb'.size
            go_wp2
            go_roundw
            case rel => exact ⟨k + 1, fin - SlotP.at16 (oct s) (2 + 2 * k), _, by omega, by go_num, by congr 1; omega, HRS.out, hA.own, hb1⟩
            case measure => simp [intOf]; omega
        · obtain rfl : k = n := by omega
          have hall := reads_all hrs
          have hr := read_some HL.out (by have := HN.out; omega) (by rw [HN.out]; exact hall)
          obtain ⟨A, c, hA⟩ := own_shape hown
          subst hA
          have hsl := Sl.of_own hown
          cases hf : SlotP.fits (octs ts) with
          | false =>
            rw [hf] at hr
            have hln := lay_no A k c ts _ wr hsl (by omega) hf
            have HR := hide hr
            clear hr hall hrs hsl hf
            go_wp2_with (go_at_call 22; refine hln.mono ?_; rintro e w' ⟨rfl, rfl⟩)
            go_ret2
            exact ⟨_, [], by rw [HR.out]; rfl, World.ownsRow_nil _ _ _ _, by rw [HR.out]; rfl, hb⟩
          | true =>
            rw [hf] at hr
            have hly := lay_yes A k c ts wr hsl.any hf
            have hpo : oct ⟨(SlotP.lay (octs ts)).toArray⟩ = SlotP.lay (octs ts) := oct_mk _
            generalize (⟨(SlotP.lay (octs ts)).toArray⟩ : ByteArray) = pg at hly hpo
            by_cases hcmp : SlotP.lay (octs ts) = oct s
            · have hc2 : (pg.toList == s.toList) = true := by rw [toList_cmp, hpo]; simpa using hcmp
              rw [hcmp] at hr
              simp only [decide_true, Bool.and_self, if_true] at hr
              have HR := hide hr
              clear hr hall hrs hsl hf hpo hcmp
              go_wp2_with (go_at_call 22; refine hly.mono ?_; rintro e w1 ⟨rfl, hb1⟩)
              go_ret2
              exact ⟨_, ts, by rw [HR.out]; rfl, by rw [HTL.out]; exact own_below hown hb1, by rw [HR.out], hb.trans (Below.mono hb1 hb.size)⟩
            · have hc2 : (pg.toList == s.toList) = false := by rw [toList_cmp, hpo]; simpa using hcmp
              simp only [hcmp, decide_false, Bool.and_false, Bool.false_eq_true, if_false] at hr
              have HR := hide hr
              clear hr hall hrs hsl hf hpo hcmp
              go_wp2_with (go_at_call 22; refine hly.mono ?_; rintro e w1 ⟨rfl, hb1⟩)
              go_ret2
              exact ⟨_, [], by rw [HR.out]; rfl, World.ownsRow_nil _ _ _ _, by rw [HR.out]; rfl, hb.trans (Below.mono hb1 hb.size)⟩
  · have hr := read_short (b := oct s) (by rw [oct_length]; exact h1024)
    have hne : ((s.size : Int) != 1024) = true := by simp; omega
    have HR := hide hr
    clear hr h1024
    go_enter Try.func19, Try.ntmps19
    go_wp2
    go_ret2
    exact ⟨_, [], by rw [HR.out]; rfl, World.ownsRow_nil _ _ _ _, by rw [HR.out]; rfl, Below.refl _ _⟩

end Go.Proofs.Yteoiadfcchalfaa
