/- The walk of layer 21's pages: a text's cells, filled on pages. -/
import Derived.Deep.RegionHeld3
import Derived.Deep.RegionLaw
import Derived.Deep.DeepCutAuto
import Derived.Test.YtojincohnjophaaGreatDoorLogAw
import Derived.Test.YtojincohnjophaaGreatDoorSlotC
import Derived.Test.YtojincohnjophaaGreatDoorShelf
import Derived.Test.YtojincohnjophaaGreatDoorKeepD
/-! The walk of slot.Lay. -/
namespace Go.Proofs.YtojincohnjophaaGreatDoor
open Go.RowKit
set_option linter.unusedVariables false

attribute [local go_sem] Oper.semAt_some

theorem repeatL_zero (c : Nat) : Lib.repeatL [0] c = List.replicate c (0 : UInt8) := by
  induction c with
  | zero => rfl
  | succ c ih => simp [Lib.repeatL, List.replicate_succ] at *; exact ih
theorem zeros_any (m : Int) (w : World) (h0 : 0 ≤ m) (h1 : m ≤ 1000000) :
    Calls Tryz.prog 24 #[.string ⟨#[0]⟩, .int .i64 m] w fun e w' => e = .returned (.string (zeroBytes m.toNat)) ∧ Below w.heap.size w w' := by
  obtain ⟨c, rfl⟩ := Int.eq_ofNat_of_zero_le h0
  have := Tryz.strings_Repeat ⟨#[0]⟩ c w (by omega) (by show 1 * c ≤ _; omega)
  rw [show (⟨#[0]⟩ : ByteArray).data.toList = [0] from rfl, repeatL_zero] at this
  exact this

/-- 'append(b, s...)', s a string, as a step of a region that draws -/
theorem step_app_string {P : Program} {ops : Array Oper} {o : Oper} {a : Act} {K : Act → World → Prop} {Q : Exit → Act → World → Prop} {E : Prop} {w : World} (hgd : o.guard = none) (sl x : Operand) (t u : TypeId) (ho : o.op = .call { callee := .builtin .append, args := #[sl, x], argTypes := #[t, u] })
    (base : Nat) (e : TypeId) (i : TypeInfo) (ht : P.underlying t = some (.slice e)) (hu : P.underlying u = some .string) (hi : P.info? e = some i) (hz : i.zero = some (.int .u8 0))
    (hsize : i.size = 1) (hby : i.bytes = 1)
    (v : Value) (n : Nat) (l : List UInt8) (hown : w.ownsRow base e 1 v n (bytesV l)) (hs : a.eval sl = v) (q : ByteArray) (hx : a.eval x = .string q)
    (h63 : n + q.size ≤ 140737488355328) (hbase : base ≤ w.heap.size)
    (h : ∀ v' w', w'.ownsRow base e 1 v' (n + q.size) (bytesV (l ++ oct q)) → w.grownBy w' v.ownBlock → K (a.put o.dst v') w') :
    if Region.wanted o (yielded ops a.tmps) = true then Oper.wp P o a w K Q else E := by
  have hw : Region.wanted o (yielded ops a.tmps) = true := by simp [Region.wanted, hgd]
  rw [if_pos hw]
  obtain ⟨v', w', hr, h2, h3, h4⟩ := Lib.run_append_own_string (P := P) w base t u o.type e i ht hu hi hz hsize hby v n (bytesV l) hown q (by simp only [maxLen]; omega) h63 hbase
  unfold Oper.wp execOp
  simp only [ho, resolve, invoke, builtin, Sem.run_bind, Sem.run_pure, Result.andThen_ok, List.map_toArray, List.map_cons, List.map_nil, hs, hx, hr]
  exact h v' w' (by rw [bytesV_append]; exact h2) h3

/-- 'append(b, s...)', s a string, inside a fence -/
theorem wpListIn_app_string {P : Program} {F : Fence} {N : Nat} {ops : Array Oper} {rest : List Oper} {o : Oper} {a : Act} {Q : Exit → Act → World → Prop} {w : World} (hgd : o.guard = none) (sl x : Operand) (t u : TypeId) (ho : o.op = .call { callee := .builtin .append, args := #[sl, x], argTypes := #[t, u] })
    (base : Nat) (e : TypeId) (i : TypeInfo) (ht : P.underlying t = some (.slice e)) (hu : P.underlying u = some .string) (hi : P.info? e = some i) (hz : i.zero = some (.int .u8 0))
    (hsize : i.size = 1) (hby : i.bytes = 1)
    (v : Value) (n : Nat) (l : List UInt8) (hown : w.ownsRow base e 1 v n (bytesV l)) (hs : a.eval sl = v) (q : ByteArray) (hx : a.eval x = .string q)
    (h63 : n + q.size ≤ 140737488355328) (hbase : base ≤ w.heap.size)
    (h : ∀ v' w', w'.ownsRow base e 1 v' (n + q.size) (bytesV (l ++ oct q)) → w.grownBy w' v.ownBlock → wpListIn F N P ops Q rest (a.put o.dst v') w') :
    wpListIn F N P ops Q (o :: rest) a w := by
  refine wpListIn_plain hgd fun K hK' => ?_
  obtain ⟨v', w', hrun, h2, h3, h4⟩ := Lib.run_append_own_string (P := P) w base t u o.type e i ht hu hi hz hsize hby v n (bytesV l) hown q (by simp only [maxLen]; omega) h63 hbase
  unfold Oper.wpIn
  refine ⟨?_, ?_⟩
  · simp [Oper.about, ho, resolve, Target.leads, Sem.run_pure]
  · rw [Oper.semAt_plain F _ _ (by rw [ho]; intro c hc'; cases hc')]
    simp [execOp, ho, resolve, invoke, builtin, hs, hx, hrun, Result.andThen]
    exact hK' _ _ (h v' w' (by rw [bytesV_append]; exact h2) h3)

/-- the page's first octets, when k cells are told -/
def layHead (ss : List ByteArray) (k n : Nat) : List UInt8 := SlotP.u16 n ++ SlotP.heads (octs (ss.take k))
theorem bytesV_u16 (n : Nat) (h : n < 65536) : bytesV (SlotP.u16 n) = [.int .u8 ((n / 256 : Nat) : Int), .int .u8 ((n % 256 : Nat) : Int)] := by
  simp [bytesV, SlotP.u16]; omega
theorem layHead_succ {ss : List ByteArray} {k n : Nat} {s : ByteArray} (h : ss[k]? = some s) : layHead ss (k + 1) n = layHead ss k n ++ SlotP.u16 s.size := by
  have h1 : k < ss.length := (List.getElem?_eq_some_iff.1 h).1
  have h2 : ss[k] = s := (List.getElem?_eq_some_iff.1 h).2
  simp only [layHead, SlotP.heads]
  rw [List.take_succ_eq_append_getElem h1, h2, octs_append, octs_cons, octs_nil, List.flatMap_append, List.append_assoc]
  simp

/-- the page, when some cells are laid -/
def layTo (ss : List ByteArray) (k : Nat) (pre : List (Nat × Cel)) : List UInt8 := SlotP.u16 k ++ SlotP.heads (octs ss) ++ List.replicate (1024 - SlotP.used (octs ss)) 0 ++ (octs (pre.map fun p => p.2.1)).flatten
theorem layTo_snoc (ss : List ByteArray) (k : Nat) (pre : List (Nat × Cel)) (x : Nat × Cel) : layTo ss k (pre ++ [x]) = layTo ss k pre ++ oct x.2.1 := by
  simp [layTo, octs]
theorem layTo_nil (ss : List ByteArray) (k : Nat) (hk : ss.length = k) : layTo ss k [] = layHead ss k k ++ List.replicate (1024 - SlotP.used (octs ss)) 0 := by
  have e : ss.take k = ss := List.take_of_length_le (by omega)
  simp [layTo, layHead, e, octs]
theorem layTo_len0 (ss : List ByteArray) (k : Nat) (hk : ss.length = k) : (layTo ss k []).length = 2 + 2 * k + (1024 - SlotP.used (octs ss)) := by
  have h1 := SlotP.heads_length (octs ss)
  rw [octs_length] at h1
  have h2 : (octs (([] : List (Nat × Cel)).map fun p => p.2.1)).flatten = [] := rfl
  simp only [layTo, List.length_append, h1, List.length_replicate, h2]
  simp [SlotP.u16]
  omega
theorem layTo_pos (ss : List ByteArray) (k : Nat) (pre : List (Nat × Cel)) : 0 < (layTo ss k pre).length := by
  simp [layTo, SlotP.u16]
theorem layTo_all (ss : List ByteArray) (k : Nat) (hk : ss.length = k) (ys : List (Nat × Cel)) (h : ys.map (fun p => p.2.1) = ss.reverse) : layTo ss k ys = SlotP.lay (octs ss) := by
  simp only [layTo, h, SlotP.lay, octs_length, hk]
  simp [octs]
theorem layTo_length (ss : List ByteArray) (k : Nat) (hk : ss.length = k) (hk40 : k ≤ 40) (pre : List (Nat × Cel)) (h : pre.length ≤ 40) : (layTo ss k pre).length ≤ 100000 := by
  have h1 := SlotP.heads_length (octs ss)
  rw [octs_length] at h1
  have h2 : (octs (pre.map fun p => p.2.1)).flatten.length ≤ 1000 * pre.length := by
    rw [SlotP.flatten_length]
    have := sumLen_le (pre.map fun p => p.2.1) 1000 (by
      intro s hs
      simp only [List.mem_map] at hs
      obtain ⟨p, _, rfl⟩ := hs
      exact p.2.2)
    simpa using this
  simp only [layTo, List.length_append, h1, List.length_replicate]
  simp [SlotP.u16]
  simp at h2
  omega

set_option maxRecDepth 100000 in
set_option maxHeartbeats 400000 in
theorem lay_no (A : Option Addr) (n c : Nat) (ss : List ByteArray) (V : Nat → Prop) (w : World) (h : Sl w V 1 A n (strs ss)) (hn : n ≤ 9223372036854775807) (hf : SlotP.fits (octs ss) = false) :
    Calls Tryz.prog 8 #[.slice A n c] w fun e w' => e = .returned (.tuple #[.string ⟨#[]⟩, .int .i64 1]) ∧ w = w' := by
  have hfa := fits_any A n c ss V w h hn
  rw [hf] at hfa
  clear hf
  go_enter Tryz.func8, Tryz.ntmps8
  go_wp2_with (go_at_call 23; refine hfa.mono ?_; rintro e w' ⟨rfl, rfl⟩)
  go_ret2
  exact ⟨rfl, rfl⟩

set_option maxRecDepth 100000 in
set_option maxHeartbeats 4000000 in
theorem lay_yes (A : Option Addr) (n c : Nat) (ss : List ByteArray) (w : World) (h : Sl w (fun _ => True) 1 A n (strs ss)) (hf : SlotP.fits (octs ss) = true) :
    Calls Tryz.prog 8 #[.slice A n c] w fun e w' => e = .returned (.tuple #[.string ⟨(SlotP.lay (octs ss)).toArray⟩, .int .i64 0]) ∧ Below w.heap.size w w' := by
  obtain ⟨i0, hi, hz0, hz1, hz2⟩ := info_parts Tryz.info5
  have h3 := (SlotP.fits_iff _).1 hf
  have hlen : ss.length = n := h.len
  rw [octs_length] at h3
  obtain ⟨h31, h32, h33⟩ := h3
  have hfa := fits_any A n c ss _ w h (by omega)
  rw [hf] at hfa
  have hn40 : (n : Int) ≤ 40 := by omega
  have HL := hide hlen
  have H3 := hide h32
  have H33 := hide h33
  clear hf hlen h32 h33 h31
  refine callsIn_wide.1 (callsIn_of_wp_marks (n := 3) Tryz.func8 rfl trivial (wpIn_wide.2 ?_) rfl)
  simp only [Tryz.ntmps8, List.size_toArray, List.length_cons, List.length_nil, Nat.reduceAdd, Nat.reduceSub, Array.replicate_succ, Array.replicate_zero, List.push_toArray, List.append_toArray, List.nil_append, List.cons_append]
  go_wp2_with (go_at_call 23; refine hfa.mono ?_; rintro e w' ⟨rfl, rfl⟩)
  have hb0 : Below w.heap.size w ((w.alloc (Obj.cells #[Value.int IntKind.u8 (↑n / 256), Value.int IntKind.u8 ↑n] 5)).alloc (Obj.cells #[Value.slice (some { block := w.heap.size, off := 0 }) 2 2] 33)) :=
    ((Below.refl _ w).alloc (Nat.le_refl _) _).alloc (by simp) _
  have hbx0 := Boxed.new (w.alloc (Obj.cells #[Value.int IntKind.u8 (↑n / 256), Value.int IntKind.u8 ↑n] 5)) 33 (Value.slice (some { block := w.heap.size, off := 0 }) 2 2)
  have how0 := (World.ownsRow_lit (base := w.heap.size) (e := 5) (size := 1) w #[Value.int IntKind.u8 (↑n / 256), Value.int IntKind.u8 ↑n] 2 (Nat.le_refl _) (by simp [maxLen]) rfl).alloc (Obj.cells #[Value.slice (some { block := w.heap.size, off := 0 }) 2 2] 33)
  have e0 : (#[Value.int IntKind.u8 (↑n / 256), Value.int IntKind.u8 ↑n] : Array Value).toList = bytesV (layHead ss 0 n) := by
    simp only [layHead, List.take_zero, octs_nil, SlotP.heads, List.flatMap_nil, List.append_nil]
    rw [bytesV_u16 n (by omega)]
    simp
    omega
  rw [e0] at how0
  rw [World.size_alloc] at hbx0
  clear e0
  go_loopw [22] (fun i wr => ∃ (k : Nat) (v : Value), k ≤ n ∧ i = .int .i64 k ∧ Boxed wr (w.heap.size + 1) 33 v ∧ wr.ownsRow w.heap.size 5 1 v (2 + 2 * k) (bytesV (layHead ss k n)) ∧ Below w.heap.size w wr)
    (fun i _ => n - (intOf i).toNat)
  case atStart => exact ⟨0, _, Nat.zero_le _, rfl, hbx0, how0, hb0⟩
  case round =>
    clear hb0 hbx0 how0
    obtain ⟨k, v, hk, rfl, hbx, how, hb⟩ := hrel
    obtain ⟨g, cap, hv⟩ := ownsRow_succ (k := 1 + 2 * k) (by rw [show 1 + 2 * k + 1 = 2 + 2 * k by omega]; exact how)
    rw [show 1 + 2 * k + 1 = 2 + 2 * k by omega] at hv
    subst hv
    have hc0 := hbx.cell
    have hf0 := hbx.frozen
    by_cases hlt : k < n
    · obtain ⟨a, s, hA, hsk, hc⟩ := (h.below hb).str hlt
      subst hA
      have hsz : (s.size : Int) ≤ 1000 := by
        have := H3.out (oct s) (mem_octs.2 ⟨s, List.mem_of_getElem? hsk, rfl⟩)
        rw [oct_length] at this; omega
      have HS := hide hsk
      clear hsk h
      go_wp2_with (at_builtin; go_must (refine wp_app_new rfl _ _ 33 rfl w.heap.size 5 i0 (.int .u8 0) 1 1 Tryz.underlying33 hi hz0 hz1 hz2 rfl (by decide) _ _ _ how rfl 2 2 [.int .u8 ((s.size : Int) / 256), .int .u8 ((s.size : Int) % 256)] rfl rfl (by simp [Value.oneCell']) (by simp only [maxLen]; omega) (by omega) hb.size ?_); intro v' w1 hA; go_must (obtain ⟨g', cap', hv'⟩ := ownsRow_succ (k := 2 + 2 * k + 1) hA.own); go_must (subst hv'); go_must (obtain ⟨⟨hc1, hf1⟩, ⟨hbx3, how3⟩, hb3, _, _⟩ := Boxed.apd hbx how (by decide) hA.own hA.grown))
      have hb4 := hb3 w w.heap.size hb (Nat.le_refl _) (by omega) hb.size
      have e : bytesV (layHead ss k n) ++ [.int .u8 ((s.size : Int) / 256), .int .u8 ((s.size : Int) % 256)] = bytesV (layHead ss (k + 1) n) := by
        rw [layHead_succ HS.out, bytesV_append, bytesV_u16 s.size (by omega)]
        rfl
      rw [e] at how3
      clear e hb3 hbx hA how
      go_wp2
      go_roundw
      case rel => exact ⟨k + 1, _, by omega, by go_num, hbx3, how3, hb4⟩
      case measure => simp [intOf]; omega
    · obtain rfl : k = n := by omega
      clear hlt hk
      have hu : (SlotP.used (octs ss) : Int) ≤ 1024 := by have := H33.out; omega
      have hus : SlotP.sumLen (octs ss) ≤ 1000000000 := by have := H33.out; simp only [SlotP.used] at this; omega
      have hua := fun W (hW : Sl W (fun _ => True) 1 A k (strs ss)) => used_any A k c ss (fun _ => True) W hW (by omega) hus
      have hsr := h.below hb
      have e1024 : ((1024 : Int) - (SlotP.used (octs ss) : Int)).toNat = 1024 - SlotP.used (octs ss) := by omega
      have E1024 := hide e1024
      clear e1024 hus
      go_wp2_with fail
      go_cut [] from 5 to 42 (fun wc => ∃ v, Boxed wc (w.heap.size + 1) 33 v ∧ wc.ownsRow w.heap.size 5 1 v (2 + 2 * k + (1024 - SlotP.used (octs ss))) (bytesV (layHead ss k k ++ List.replicate (1024 - SlotP.used (octs ss)) 0)) ∧ Below w.heap.size w wc)
      case first =>
        have hwr : IntKind.i64.wrap (1024 - (SlotP.used (octs ss) : Int)) = 1024 - (SlotP.used (octs ss) : Int) := IntWalk.i64_in _ (by omega)
        refine wp_region_noPanic ?_
        go_region_law (first
          | (go_simp; go_at_call 25; refine (hua _ (by first | exact hsr | exact hsr.drew)).mono ?_; rintro e w' ⟨rfl, rfl⟩)
          | (go_simp; go_at_call 24; refine (zeros_any (1024 - (SlotP.used (octs ss) : Int)) _ (by omega) (by omega)).mono ?_; rintro e w1 ⟨rfl, hbr⟩; have hcw := (Boxed.below (W := wr.drew) hbx hbr).cell)
          | (refine step_app_string rfl _ _ 33 9 rfl w.heap.size 5 i0 Tryz.underlying33 Tryz.underlying9 hi hz0 hz1 hz2 _ _ _ (own_below how.drew hbr) rfl _ rfl (by rw [size_zeroBytes]; omega) (by have := hbr.size; have := hb.size; simp at *; omega) ?_; intro v' w2 hown2 hgr2; rw [oct_zeroBytes, size_zeroBytes] at hown2; obtain ⟨g', cap', hv'⟩ := ownsRow_succ (k := 1 + 2 * k + (1024 - SlotP.used (octs ss))) (by rw [show 1 + 2 * k + (1024 - SlotP.used (octs ss)) + 1 = 2 + 2 * k + (1024 - SlotP.used (octs ss)) by omega]; exact hown2); rw [show 1 + 2 * k + (1024 - SlotP.used (octs ss)) + 1 = 2 + 2 * k + (1024 - SlotP.used (octs ss)) by omega] at hv'; subst hv'; obtain ⟨⟨hc1, hf1⟩, ⟨hbx3, how3⟩, hb3, _, _⟩ := Boxed.apd (Boxed.below (W := wr.drew) hbx hbr) (own_below how.drew hbr) (by decide) hown2 hgr2))
        all_goals have hbw : Below w.heap.size w w1 := (hb.drew).trans (Below.mono hbr hb.size)
        all_goals have hb4 := hb3 w w.heap.size hbw (Nat.le_refl _) (by omega) hbw.size
        all_goals refine NoPanic.normal ?_
        all_goals go_wp2_with fail
        all_goals go_meet
        all_goals exact ⟨_, hbx3, how3, hb4⟩
      case rest =>
        obtain ⟨v, hbx1, how1, hb1⟩ := hcut
        have hle : ∀ s ∈ ss, s.size ≤ 1000 := fun s hs => by
          have := H3.out (oct s) (mem_octs.2 ⟨s, hs, rfl⟩)
          rwa [oct_length] at this
        have HLE := hide hle
        clear hle hua
        go_wp2_with (go_at_call 26; refine (backward_any _ _ _ _).mono ?_; rintro e w' ⟨rfl, rfl⟩)
        have hb2 : Below w.heap.size w (wc.alloc (.cells #[.slice A k c] 22)) := hb1.alloc hb1.size _
        have hwc := hb1.size
        have hwc1 := hbx1.lt
        have hV : ∀ b, (b = wc.heap.size ∨ b < w.heap.size) → b < (wc.alloc (.cells #[.slice A k c] 22)).heap.size := by
          intro b hb
          rw [World.size_alloc]
          omega
        have hSq := back_stops Fence.wide 2 trivial rfl (by omega) wc.heap.size A k c ss (by omega) (fun b => b = wc.heap.size ∨ b < w.heap.size) (.inl rfl) HLE.out (wc.alloc (.cells #[.slice A k c] 22)) hV (Boxed.new wc _ _).cell ((h.lt.below hb2).mono fun b hb => .inr hb)
        have hKb : ∀ (W : World) (l : Nat) (o o' : Obj), (wc.alloc (.cells #[.slice A k c] 22)).heap.size ≤ l → W.heap[l]? = some o → o.isCells = false → o.isWalk = false → KeepV (fun b => b = wc.heap.size ∨ b < w.heap.size) W (W.putObj l o') := by
          intro W l o o' hl _ _ _
          refine KeepV.putObj o' fun b hb => ?_
          have := hV b hb
          omega
        refine wpIn_wide.1 (wpIn_rangeFunc_ownG (n := 3) (F := Fence.wide) (w := wc.alloc (.cells #[.slice A k c] 22)) rfl (by omega) (gf := 54) (lb := #[.pointer (some ⟨wc.heap.size, 0, none⟩)]) rfl trivial (enters_of Tryz.func54 (by kernel_rfl) rfl)
          hSq KeepV.trans hKb (Below.refl _ _) (fun _ => rfl)
          (fun pre W => ((∃ v, Boxed W (w.heap.size + 1) 33 v ∧ W.ownsRow w.heap.size 5 1 v (layTo ss k pre).length (bytesV (layTo ss k pre)) ∧ True) ∧ Boxed W wc.heap.size 22 (.slice A k c)) ∧ Below w.heap.size w W)
          (fun _ _ _ => False)
          (OwnFrom.and (Own.from (fun s X Y row hs hg hr => ⟨holdsRow_own w.heap.size (w.heap.size + 1) 33 5 1 (fun pre => (layTo ss k pre).length) (fun pre => bytesV (layTo ss k pre)) (fun _ _ => True) s X Y row hs.1 hg hr, boxed_own (β := List (Nat × Cel)) wc.heap.size 22 (fun _ => .slice A k c) s X Y row hs.2 hg hr⟩) _) (ownFrom_below (Nat.le_refl _) (by rw [World.size_alloc]; omega)))
          (fun _ _ _ _ _ hs _ _ => hs)
          ?start
          (fun x => { tmps := #[.slice A k c, undef, .string ⟨#[]⟩, .int .i64 0, .pointer (some ⟨w.heap.size + 1, 0, none⟩), u5, u6, u7, .string x.2.1, u9, u10, u11, u12, u13, u14, u15, u16, u17, u18, u19, u20, u21, u22, u23, u24, u25, u26, u27, u28, u29, u30, u31, u32, u33, u34, u35, u36, u37, u38, u39, u40, u41, u42, .slice A k c, .func (.func 54) #[] #[.pointer (some ⟨wc.heap.size, 0, none⟩)], .int .i64 (x.1 : Int), .string x.2.1, undef, undef, undef, undef, undef], defers := [] }) ?assign ?body ?done ?stop)
        case start =>
          refine ⟨⟨⟨v, hbx1.alloc _, ?_, trivial⟩, Boxed.new wc _ _⟩, hb2⟩
          rw [layTo_len0 ss k HL.out, layTo_nil ss k HL.out]
          exact how1.alloc _
        case assign =>
          intro l x W K hK
          gi_wp2
          exact hK
        case body =>
          rintro l pre x W ⟨⟨⟨v1, hv, hr, _⟩, hbs⟩, hB⟩ hlen
          obtain ⟨g1, cap1, hv1, _, _⟩ := hr.form (layTo_pos ss k pre)
          subst hv1
          have hc1 := hv.cell
          have hf1 := hv.frozen
          have hL1 := layTo_length ss k HL.out (by omega) pre (by omega)
          have hx1 := x.2.2
          have hpos := layTo_pos ss k pre
          gi_wp2_with (gi_at_builtin; refine wpListIn_app_string rfl _ _ 33 9 rfl w.heap.size 5 i0 Tryz.underlying33 Tryz.underlying9 hi hz0 hz1 hz2 _ _ _ hr rfl _ rfl (by omega) hB.size ?_; intro v2 w2 hown2 hgr2; obtain ⟨g2, cap2, hv2, _, _⟩ := hown2.form (by omega); subst hv2; obtain ⟨⟨hc2, hf2⟩, ⟨hbx3, how3⟩, hb3, hkv, hko⟩ := Boxed.apd hv hr (by decide) hown2 hgr2)
          have hne : some wc.heap.size ≠ (Value.slice (some ⟨g1, 0, none⟩) (layTo ss k pre).length cap1).ownBlock := hbs.not_row (by decide) hr
          have hkv2 := hkv (fun b => b = wc.heap.size ∨ b < w.heap.size) (by
            rintro b (rfl | hb)
            · exact ⟨by omega, hne⟩
            · refine ⟨by omega, ?_⟩
              have := (hr.lt g1 rfl).1
              simp [Value.ownBlock]
              omega)
          refine ⟨hko.from _, hkv2, ⟨⟨_, hbx3, ?_, trivial⟩, ?_⟩, hb3 w w.heap.size hB (Nat.le_refl _) (by omega) hB.size⟩
          · rw [layTo_snoc, List.length_append, oct_length]
            exact how3
          · exact (hkv2.2 _ (.inl rfl) hbs.lt).trans hbs
        case done =>
          rintro D ys W hD hys ⟨⟨⟨v1, hv, hr, _⟩, hbs⟩, hB⟩ hK
          have hc1 := hv.cell
          obtain ⟨g1, cap1, hv1, _, _⟩ := hr.form (layTo_pos ss k ys)
          subst hv1
          have hcv := conv_str (P := Tryz.prog) (c := cap1) (Sl.of_own hr) 33 9 5 Tryz.underlying33 Tryz.underlying5 Tryz.underlying9
          have hfin := layTo_all ss k HL.out ys hys
          have HF := hide hfin
          have HYS := hide hys
          clear hys hfin hbs hv hr
          go_wp2
          refine ⟨by simp, .inl ⟨_, _, rfl, run_takeDeferred hK, ?_⟩⟩
          exact ⟨_, results_tmp2 rfl _ _ _, by rw [← HF.out]; rfl, hB.trans (belowK_b (w := w) (Nat.le_refl _) W D _ _ (by rw [World.size_alloc] at hD; omega) hK rfl rfl)⟩
        case stop =>
          rintro D c pre W _ _ h _
          exact h.elim

end Go.Proofs.YtojincohnjophaaGreatDoor

/-! The walk of layer 21's pages: a text's cells, filled on pages. -/
namespace Go.Proofs.YtojincohnjophaaGreatDoor
open Go.RowKit
open DiskP (Bytes Disk Wr Fate)
open KeepP (Cut Head okC okH piecesK pieces pagesP cells)
set_option linter.unusedVariables false

theorem octs_map_mkB (l : List Bytes) : octs (l.map mkB) = l := by
  induction l with
  | nil => rfl
  | cons b l ih => rw [List.map_cons, octs_cons, ih, oct_mkB]
theorem secV_snocB (l : List Bytes) (s : ByteArray) : strs (l.map mkB ++ [s]) = secV (l ++ [oct s]) := by
  simp [secV, strs, mkB_oct]
theorem piece_next (t : Bytes) (j : Nat) (r : ByteArray) (hr : oct r = t.drop (300 * j)) (n : Nat) (hn : n = min r.size 300) :
    oct (r.extract 0 n) = (t.drop (300 * j)).take 300 ∧ oct (r.extract n r.size) = t.drop (300 * (j + 1)) := by
  have hz : (t.drop (300 * j)).length = r.size := by rw [← hr, oct_length]
  refine ⟨?_, ?_⟩
  · rw [oct_extract, hr, List.drop_zero, Nat.sub_zero, hn]
    by_cases h : r.size ≤ 300
    · rw [Nat.min_eq_left h, List.take_of_length_le (by omega), List.take_of_length_le (by omega)]
    · rw [Nat.min_eq_right (by omega)]
  · rw [oct_extract, hr, List.drop_drop, List.take_of_length_le (by rw [List.length_drop]; rw [List.length_drop] at hz; omega)]
    by_cases h : r.size ≤ 300
    · rw [List.length_drop] at hz
      rw [List.drop_of_length_le (by omega), List.drop_of_length_le (by omega)]
    · rw [hn, Nat.min_eq_right (by omega)]; rfl

/-- the cells that stand ahead of the round j, and what is left of the text -/
def PgR (w0 : World) (t : Bytes) (j : Nat) (tv cv : Value) (wr : World) : Prop :=
  ∃ r : ByteArray, tv = .string r ∧ oct r = t.drop (300 * j) ∧ j ≤ cells t.length ∧ wr.ownsRow w0.heap.size 9 1 cv j (secV (piecesK t j)) ∧ Below w0.heap.size w0 wr

set_option maxRecDepth 100000 in
set_option maxHeartbeats 3200000 in
theorem pages_any (s : ByteArray) (w : World) (hs : s.size ≤ 1000000) :
    Calls Tryz.prog 28 #[.string s] w fun q w' => ∃ v, q = .returned v ∧ w'.ownsRow w.heap.size 9 1 v (pagesP (oct s)).length (secV (pagesP (oct s))) ∧ Below w.heap.size w w' := by
  obtain ⟨t, ht⟩ : ∃ t, t = oct s := ⟨_, rfl⟩
  have htl : t.length ≤ 1000000 := by rw [ht, oct_length]; exact hs
  have HP0 : Hid (PgR w t 0 (.string s) (.slice none 0 0) w) := ⟨s, rfl, by rw [ht]; rfl, Nat.zero_le _, ⟨rfl, .inl ⟨rfl, rfl⟩⟩, Below.refl _ _⟩
  rw [← ht]
  clear ht hs
  go_enter Tryz.func28, Tryz.ntmps28
  go_upto_block 0 with (fail)
  go_cut [0, 3] from 4 to 26 (fun tv cv wc => PgR w t (cells t.length) tv cv wc)
  case first =>
    go_wp2_with fail
    go_loopw [0, 3] (fun tv cv wr => ∃ j, PgR w t j tv cv wr) (fun tv _ _ => (match tv with | .string r => r.size | _ => 0))
    case atStart => exact ⟨0, HP0.out⟩
    case round =>
      clear HP0
      obtain ⟨j, r, rfl, hr, hj, hown, hb⟩ := hrel
      have hz : (t.drop (300 * j)).length = r.size := by rw [← hr, oct_length]
      rw [List.length_drop] at hz
      by_cases h0 : r.size = 0
      · have hjc : j = cells t.length := by unfold cells at *; omega
        subst hjc
        have x1 : ¬ 0 < r.size := by omega
        have x2 : (r.size : Int) = 0 := by omega
        have HF : Hid (PgR w t (cells t.length) (.string r) u3 wr) := ⟨r, rfl, hr, Nat.le_refl _, hown, hb⟩
        clear hr hown hb hz hj
        go_wp2_with fail
        go_meet
        exact HF.out
      · have hp : (0 : Int) < (r.size : Int) := by omega
        have hp2 : 0 < r.size := by omega
        obtain ⟨n, hn⟩ : ∃ n, n = min r.size 300 := ⟨_, rfl⟩
        obtain ⟨e1, e2⟩ := piece_next t j r hr n hn
        have hnb : n ≤ r.size ∧ 1 ≤ n := by omega
        have hj1 : j + 1 ≤ cells t.length := by unfold cells; omega
        have hmin : min (r.size : Int) 300 = (n : Int) := by omega
        have hown' : wr.ownsRow w.heap.size 9 1 u3 j (strs ((piecesK t j).map mkB)) := hown
        have hbs := hb.size
        have hrl : j ≤ 1000000000000 := by unfold cells at hj; omega
        have HB := hide hb
        have E1 := hide e1
        have E2 := hide e2
        have N1 : (n : Int) ≤ (r.size : Int) := by omega
        obtain ⟨r2, hr2⟩ : ∃ r2, r2 = r.extract n r.size := ⟨_, rfl⟩
        have hz2 : r2.size < r.size := by rw [hr2, ← oct_length, oct_extract, List.length_take, List.length_drop, oct_length]; omega
        clear hr hz hn hown hb e1 e2 h0 hj
        go_wp2_with (at_builtin; refine wp_app_str rfl _ _ rfl w.heap.size _ _ _ hown' rfl _ rfl hrl hbs ?_; intro v2 w5 hA)
        have ho2 := hA.own
        rw [secV_snocB, E1.out, ← KeepP.piecesK_snoc] at ho2
        have hb2 := hA.below hown' HB.out (Nat.le_refl _) hbs
        rw [← hr2]
        have HF : Hid (PgR w t (j + 1) (.string r2) v2 w5) := ⟨r2, rfl, by rw [hr2]; exact E2.out, hj1, ho2, hb2⟩
        clear ho2 hb2 hA
        go_roundw
        case rel => exact ⟨j + 1, HF.out⟩
        case measure => exact hz2
  case rest =>
    clear HP0
    revert wc
    intro wL hcut
    obtain ⟨r, rfl, hr, _, hown, hb⟩ := hcut
    have hpk : piecesK t (cells t.length) = pieces t := rfl
    rw [hpk] at hown
    have hpl : (pieces t).length = cells t.length := KeepP.piecesK_len t _
    obtain ⟨A3, c3, rfl⟩ := own_shape hown
    have hsl : Sl wL (fun b => w.heap.size ≤ b) 1 A3 (cells t.length) (strs ((pieces t).map mkB)) := Sl.of_own hown
    have hcl : cells t.length ≤ 100000 := by unfold cells; omega
    have hfill := fill_yes A3 (cells t.length) c3 ((pieces t).map mkB) _ wL hsl (by omega) (fun s hs => by
      simp only [List.mem_map] at hs
      obtain ⟨b, hb, rfl⟩ := hs
      rw [mkB_size]
      have := KeepP.piecesK_le t _ b hb
      omega)
    rw [octs_map_mkB] at hfill
    obtain ⟨F, hF⟩ : ∃ F, F = SlotP.fill (pieces t) := ⟨_, rfl⟩
    have hfit := (KeepP.fill_pieces t).1
    have hpg : pagesP t = F.map SlotP.lay := by rw [hF]; rfl
    rw [← hF] at hfill hfit
    have hFl : F.length ≤ 100000 := by
      have h1 := SlotP.length_le_flatten F fun l hl => (hfit l hl).2
      have h2 : F.flatten = pieces t := by rw [hF]; exact (KeepP.fill_pieces t).2
      rw [h2, hpl] at h1
      omega
    have HPG := hide hpg
    have HFIT := hide hfit
    have HFL := hide hfill
    clear hfit hfill hF hpg hpk hpl hr hown hsl
    go_wp2_with fail
    refine HFL.out.mono ?_
    rintro q w2 ⟨v, vals, ll, rfl, ho, hrows, hll, hb2⟩
    obtain ⟨A5, c5, rfl⟩ := own_shape ho
    have hlen : ll.length = F.length := by rw [← hll, List.length_map]
    obtain ⟨m, hm⟩ : ∃ m, m = F.length := ⟨_, rfl⟩
    rw [hlen, ← hm] at ho
    rw [hlen, ← hm]
    have hbw2 := hb.trans (hb2.mono hb.size)
    have HO := hide (Sl.of_own ho)
    have HROWS := hide hrows
    have HLL := hide hll
    have HM := hide hm
    have HLEN := hide hlen
    have HB0 : Hid (w2.ownsRow w2.heap.size 9 1 (.slice none 0 0) 0 (secV ((F.map SlotP.lay).take 0))) := ⟨rfl, .inl ⟨rfl, rfl⟩⟩
    have hm2 : m ≤ 100000 := by omega
    clear ho hrows hll hm hlen hb2 HFL
    go_wp2_with fail
    go_loopw [7, 34] (fun lv iv wr => ∃ i : Nat, iv = .int .i64 i ∧ i ≤ m ∧ wr.ownsRow w2.heap.size 9 1 lv i (secV ((F.map SlotP.lay).take i)) ∧ Below w2.heap.size w2 wr) (fun _ iv _ => m - (intOf iv).toNat)
    case atStart => exact ⟨0, rfl, by omega, HB0.out, Below.refl _ _⟩
    case round =>
      clear HB0
      obtain ⟨i, rfl, him, hown, hbr⟩ := hrel
      by_cases hi : i < m
      · have d1 : decide (i < m) = true := by simpa using hi
        have hiI : (i : Int) < (m : Int) := by omega
        have hFi : i < F.length := by rw [← HM.out]; exact hi
        have hlli : i < ll.length := by rw [HLEN.out]; exact hFi
        obtain ⟨Al, cl, hv1, hs1⟩ := HROWS.out.2 i ll[i] (List.getElem?_eq_getElem hlli)
        obtain ⟨aS, u, eA, hx, hcS⟩ := (HO.out.below hbr).at_ hi
        rw [hv1] at hx
        obtain rfl := Option.some.inj hx
        have hoct : octs ll[i] = F[i] := by
          have h1 : (ll.map octs)[i]? = F[i]? := by rw [HLL.out]
          rw [List.getElem?_map, List.getElem?_eq_getElem hlli, List.getElem?_eq_getElem hFi] at h1
          exact Option.some.inj h1
        have hlay := fun (ww : World) (hS : Sl ww (fun _ => True) 1 Al ll[i].length (strs ll[i])) => lay_yes Al ll[i].length cl ll[i] ww hS (by rw [hoct]; exact (HFIT.out _ (List.getElem_mem hFi)).1)
        rw [hoct] at hlay
        obtain ⟨pg, hpg⟩ : ∃ pg : ByteArray, pg = ⟨(SlotP.lay F[i]).toArray⟩ := ⟨_, rfl⟩
        rw [← hpg] at hlay
        have hsn : secV ((F.map SlotP.lay).take i ++ [oct pg]) = secV ((F.map SlotP.lay).take (i + 1)) := by
          rw [List.take_succ_eq_append_getElem (by rw [List.length_map]; exact hFi), hpg, oct_mk, List.getElem_map]
        have HSN := hide hsn
        have HLAY := hide (hlay wr (hs1.any.below hbr))
        obtain ⟨kl, hkl⟩ : ∃ kl, kl = ll[i].length := ⟨_, rfl⟩
        rw [← hkl] at HLAY hcS
        have HOWN := hide hown
        have hbs := hbr.size
        subst eA
        clear hpg hsn hlay hoct hs1 hv1 hkl hown
        go_wp2_with fail
        refine HLAY.out.mono ?_
        rintro q w5 ⟨rfl, hb5⟩
        have hown5 : w5.ownsRow w2.heap.size 9 1 u7 i (strs (((F.map SlotP.lay).take i).map mkB)) := own_below HOWN.out hb5
        have hbE := hbr.trans (hb5.mono hbs)
        have hbsE := hbE.size
        have hil : i ≤ 1000000000000 := by omega
        clear hcS hb5
        go_wp2_with (at_builtin; refine wp_app_str rfl _ _ rfl w2.heap.size _ _ _ hown5 rfl _ rfl hil hbsE ?_; intro v2 w6 hA)
        have ho6 := hA.own
        rw [secV_snocB, HSN.out] at ho6
        have hb6 := hA.below hown5 hbE (Nat.le_refl _) hbsE
        have HO6 := hide ho6
        have HB6 := hide hb6
        clear ho6 hb6 hA
        go_roundw
        case rel => exact ⟨i + 1, by go_num, by omega, HO6.out, HB6.out⟩
        case measure => simp [intOf]; omega
      · have hieq : i = m := by omega
        subst hieq
        have hfin : (F.map SlotP.lay).take i = F.map SlotP.lay := List.take_of_length_le (by rw [List.length_map, HM.out]; exact Nat.le_refl _)
        rw [hfin] at hown
        have HOWN := hide (own_mono hown hbw2.size)
        have hbF := hbw2.trans (hbr.mono hbw2.size)
        clear hown hfin hi
        go_wp2_with fail
        go_ret
        exact ⟨_, rfl, by rw [HPG.out, List.length_map, ← HM.out]; exact HOWN.out, hbF⟩
end Go.Proofs.YtojincohnjophaaGreatDoor
