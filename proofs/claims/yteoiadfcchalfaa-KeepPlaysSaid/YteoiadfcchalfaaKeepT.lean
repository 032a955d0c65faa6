/- The walks of the reference's Fill (layer 19), Pages and Room (layer 21). (printed by kt.py) -/
import Derived.Test.YteoiadfcchalfaaKeepE
import Derived.Test.YteoiadfcchalfaaSlotFewW
import Derived.Test.YteoiadfcchalfaaLogLay
import Derived.Test.YteoiadfcchalfaaRegE
import Derived.Deep.DeepCutAuto
import Derived.Deep.CutBlock
import Derived.Deep.RegionHeld3
namespace Go.Proofs.Yteoiadfcchalfaa
open Go.RowKit
open DiskP (Bytes Disk Wr Fate noughts)
open KeepP (Cut Head K Kept okC okH pagesP)
set_option linter.unusedVariables false

theorem sum_take_le (l : List Bytes) (k : Nat) : LogP.sum (l.take k) ≤ LogP.sum l := by
  have h := LogP.sum_append (l.take k) (l.drop k)
  rw [List.take_append_drop] at h
  omega
theorem sum_take_succ {l : List Bytes} {k : Nat} {s : Bytes} (h : l[k]? = some s) : LogP.sum (l.take (k + 1)) = LogP.sum (l.take k) + LogP.secs s.length := by
  have h1 : k < l.length := (List.getElem?_eq_some_iff.1 h).1
  have h2 : l[k] = s := (List.getElem?_eq_some_iff.1 h).2
  rw [List.take_succ_eq_append_getElem h1, LogP.sum_append, LogP.sum_cons, LogP.sum_nil, h2, Nat.add_zero]

set_option maxRecDepth 100000 in
set_option maxHeartbeats 1600000 in
theorem room_any (ct : Cut) (A : Option Addr) (n c : Nat) (l : List Bytes) (s : ByteArray) (V : Nat → Prop) (w : World) (h : Sl w V 1 A n (secV l)) (hsum : LogP.sum l ≤ 100000) (hz : ∀ t ∈ l, t.length ≤ 100000) (hs : s.size ≤ 100000) (hn : n ≤ 1000000) (hc : okC ct) :
    Calls Try.prog 58 #[.agg #[.int .i64 (ct.log : Nat), .int .i64 (ct.pages : Nat)], .slice A n c, .string s] w fun q w' => q = .returned (.bool (decide (LogP.sum l + LogP.secs s.size < ct.log))) ∧ Below w.heap.size w w' := by
  have hln : l.length = n := by have := h.len; rwa [List.length_map] at this
  have hcl := hc.2.1
  obtain ⟨lg, hlg⟩ : ∃ x, x = ct.log := ⟨_, rfl⟩
  obtain ⟨pg, hpg⟩ : ∃ x, x = ct.pages := ⟨_, rfl⟩
  rw [← hlg, ← hpg]
  rw [← hlg] at hcl
  have kC := Box.new w 85 #[.int .i64 (lg : Nat), .int .i64 (pg : Nat)]
  have hbC : Below w.heap.size w (w.alloc (.cells #[.int .i64 (lg : Nat), .int .i64 (pg : Nat)] 85)) := (Below.refl _ _).alloc (Nat.le_refl _) _
  obtain ⟨w1, hw1⟩ : ∃ y, y = w.alloc (.cells #[.int .i64 (lg : Nat), .int .i64 (pg : Nat)] 85) := ⟨_, rfl⟩
  rw [← hw1] at kC hbC
  have HS := hide (h.below hbC)
  have HZ := hide hz
  have HW1 := hide hw1
  have HL := hide hln
  have HSM := hide hsum
  have hsl := LogP.secs_le s.size
  have hrs := fun ww => rsecs_any s.size ww hs
  obtain ⟨sc, hsc⟩ : ∃ x, x = LogP.secs s.size := ⟨_, rfl⟩
  rw [← hsc] at hsl hrs ⊢
  have HRS := hide hrs
  clear h hz hw1 hln hlg hpg hc hsum hrs hsc
  go_enter Try.func58, Try.ntmps58
  go_upto_block 0 with (fail)
  rw [← HW1.out]
  clear HW1
  go_wp2_with fail
  go_loopw [7, 8] (fun av iv wr => ∃ k : Nat, iv = .int .i64 k ∧ av = .int .i64 (LogP.sum (l.take k) : Nat) ∧ k ≤ n ∧ wr = w1) (fun _ iv _ => n - (intOf iv).toNat)
  case atStart => exact ⟨0, rfl, rfl, Nat.zero_le _, rfl⟩
  case round =>
    obtain ⟨k, rfl, rfl, hk, rfl⟩ := hrel
    obtain ⟨sk, hsk⟩ : ∃ x, x = LogP.sum (l.take k) := ⟨_, rfl⟩
    have hskl : sk ≤ 100000 := by rw [hsk]; exact Nat.le_trans (sum_take_le l k) HSM.out
    rw [← hsk]
    by_cases hlt : k < n
    · obtain ⟨a, x, hA, hx, hcx⟩ := HS.out.str hlt
      have hx' : l[k]? = some (oct x) := by
        rw [List.getElem?_map] at hx
        cases hl : l[k]? with
        | none => rw [hl] at hx; cases hx
        | some y => rw [hl] at hx; injection hx with hx; rw [← hx, oct_mkB]
      have hxs := sum_take_succ hx'
      rw [← hsk, oct_length] at hxs
      have hxz := HZ.out _ (List.mem_of_getElem? hx')
      rw [oct_length] at hxz
      have hxl := LogP.secs_le x.size
      have HRX := hide (rsecs_any x.size wr hxz)
      obtain ⟨sx, hsx⟩ : ∃ y, y = LogP.secs x.size := ⟨_, rfl⟩
      rw [← hsx] at hxs hxl HRX
      have HXS := hide hxs
      have d1 : decide (k < n) = true := by simpa using hlt
      have hkn : (k : Int) < (n : Int) := by omega
      clear hx hx' hxs hxz hsx hsk
      subst hA
      go_wp2_with fail
      refine HRX.out.mono ?_
      rintro q w2 ⟨rfl, rfl⟩
      go_wp2_with fail
      go_roundw
      case rel => exact ⟨k + 1, by go_num, by rw [HXS.out]; go_num, by omega, trivial⟩
      case measure => simp [intOf]; omega
    · obtain rfl : k = n := by omega
      have d1 : decide (k < k) = false := by simp
      have hfull : sk = LogP.sum l := by rw [hsk, List.take_of_length_le (by rw [HL.out]; omega)]
      have HFU := hide hfull
      obtain ⟨q0, q1⟩ := kC.cell2
      have hw2 : wrap64 ((sk : Int) + (sc : Int)) = ((sk + sc : Nat) : Int) := by unfold wrap64; omega
      have HW2 := hide hw2
      clear hw2
      have hbx : Below wr.heap.size wr wr.drew := (Below.refl _ _).drew
      have HSS : Hid (∀ ww : World, Below wr.heap.size wr ww → ww.cell? ⟨w.heap.size, 0, none⟩ = some (.int .i64 (lg : Nat))) := fun ww hb => (kC.belowS hb).cell2.1
      have hbcw := hbC
      have HBC := hide hbC
      clear hlt hk hsk hfull q0 q1 hbC kC hbcw
      go_upto_region 6 with (fail)
      go_region_held3 (fun ww => ww.cell? ⟨w.heap.size, 0, none⟩ = some (.int .i64 (lg : Nat)))
        (first | (with_reducible exact (HSS.out wr (Below.refl _ _))) | (with_reducible exact (HSS.out _ hbx)))
        (((with_reducible refine (HRS.out _).mono ?_); rintro q w7 ⟨rfl, rfl⟩))
      go_wp2_with fail
      go_ret
      refine ⟨ret_bool ?_, HBC.out.trans (hbx.mono HBC.out.size)⟩
      rw [← HFU.out]
      have hw2 := HW2.out
      have hw3 : IntKind.i64.wrap ((sk : Int) + (sc : Int)) = (sk : Int) + (sc : Int) := IntWalk.i64_in _ (by clear hw2; omega)
      simp only [hw3, decide_eq_decide]
      clear hw2 hw3
      omega

/-- 'append(s, x...)' of two lists of strings, as a step of a region that draws; the step is wanted -/
theorem step_app_strsG {w : World} {ops : Array Oper} {K : Act → World → Prop} {E : Prop} {o : Oper} {a : Act} {Q : Exit → Act → World → Prop} (hw : Region.wanted o (yielded ops a.tmps) = true) (s x : Operand)
    (ho : o.op = .call { callee := .builtin .append, args := #[s, x], argTypes := #[22, 22] })
    (base : Nat) (v : Value) (n : Nat) (ss : List ByteArray) (hown : w.ownsRow base 9 1 v n (strs ss)) (hs : a.eval s = v)
    (V : Nat → Prop) (A : Option Addr) (m c : Nat) (ts : List ByteArray) (hr : Sl w V 1 A m (strs ts)) (hx : a.eval x = .slice A m c) (hn : n + m ≤ 1000000000000) (hbase : base ≤ w.heap.size)
    (h : ∀ v' w', Apd w w' base 9 1 v v' (n + m) (strs (ss ++ ts)) → K (a.put o.dst v') w') : if Region.wanted o (yielded ops a.tmps) = true then Oper.wp Try.prog o a w K Q else E := by
  rw [if_pos hw]
  obtain ⟨v', w', hr, hA⟩ := run_app_strs o.type base v n ss hown V A m c ts hr hn hbase
  unfold Oper.wp execOp
  simp only [ho, resolve, invoke, builtin, Sem.run_bind, Sem.run_pure, Result.andThen_ok, List.map_toArray, List.map_cons, List.map_nil, hs, hx, hr]
  exact h v' w' hA
theorem cell_nextK {w w1 : World} {a : Addr} {v : Value} (h : w.cell? a = some v) (hb : Below w.heap.size w w1) : w1.cell? a = some v := by
  refine (hb.cell ?_).trans h
  by_cases hl : a.block < w.heap.size
  · exact hl
  · simp [World.cell?, Array.getElem?_eq_none (Nat.le_of_not_lt hl)] at h
theorem Apd.farK {w w' : World} {base : Nat} {e : TypeId} {size : Nat} {v v' : Value} {n : Nat} {xs : List Value} (h : Apd w w' base e size v v' n xs) {k : Nat} (hk : k < w.heap.size) (hne : v.ownBlock ≠ some k) : w'.heap[k]? = w.heap[k]? := h.grown.block k hk fun e => hne e.symm
theorem add_lit (g j : Nat) : (⟨g, 0, none⟩ : Addr).add j = ⟨g, j, none⟩ := by
  unfold Addr.add
  split <;> simp_all
theorem RegE.branch2 {P : Program} {ops : Array Oper} {Q : Exit → Act → World → Prop} {md : Region.Mode} {S : World → Prop} {n i j : Nat} {oi oj : Oper} {fuel : Nat} {listed : Array Bool} {a : Act} {w : World} (hi : ops[i]? = some oi) (hj : ops[j]? = some oj) (hr : Region.ready md ops listed = [i, j]) (hin : (i != n) = true) (hjn : (j != n) = true)
    (h1 : ∀ K : Act → World → Prop, (∀ a' w', S w' → RegE.wpE P md ops Q S n fuel (listed.setIfInBounds i true) a' w' → K a' w') → if Region.wanted oi (yielded ops a.tmps) = true then oi.wp P a w K Q else K (a.put oi.dst undef) w)
    (h2 : ∀ K : Act → World → Prop, (∀ a' w', S w' → RegE.wpE P md ops Q S n fuel (listed.setIfInBounds j true) a' w' → K a' w') → if Region.wanted oj (yielded ops a.tmps) = true then oj.wp P a w K Q else K (a.put oj.dst undef) w) : RegE.wpE P md ops Q S n (fuel + 1) listed a w := by
  refine RegE.branch hr (by
    have e1 : i ≠ n := by simpa using hin
    have e2 : j ≠ n := by simpa using hjn
    simp [Ne.symm e1, Ne.symm e2]) fun x hx => ?_
  simp only [List.mem_cons, List.not_mem_nil, or_false] at hx
  rcases hx with rfl | rfl
  · have h' := h1 (fun a' w' => S w' ∧ RegE.wpE P md ops Q S n fuel (listed.setIfInBounds x true) a' w') (fun a' w' h1 h2 => ⟨h1, h2⟩)
    unfold wpOp
    simp only [hi]
    split
    · rename_i hw; rw [if_pos hw] at h'; exact .inl h'
    · rename_i hw; rw [if_neg hw] at h'; exact h'
  · have h' := h2 (fun a' w' => S w' ∧ RegE.wpE P md ops Q S n fuel (listed.setIfInBounds x true) a' w') (fun a' w' h1 h2 => ⟨h1, h2⟩)
    unfold wpOp
    simp only [hj]
    split
    · rename_i hw; rw [if_pos hw] at h'; exact .inl h'
    · rename_i hw; rw [if_neg hw] at h'; exact h'
theorem blkT {w : World} {o : Obj} {b : Nat} (h : b = w.heap.size) : (w.alloc o).heap[b]? = some o := by subst h; exact heap_alloc_new w o
theorem blkD {w : World} {b : Nat} {x : Option Obj} (h : w.heap[b]? = x) : w.drew.heap[b]? = x := h
theorem blkU {w : World} {o p : Obj} {b : Nat} (h : w.heap[b]? = some p) : (w.alloc o).heap[b]? = some p := (Below.heap_alloc w o b (Array.getElem?_eq_some_iff.1 h).1).trans h
/-- an empty row of one's own -/
theorem own_mt {w : World} {base g : Nat} (h : w.heap[g]? = some (.cells #[] 9 (0, 0))) (hb : base ≤ g) : w.ownsRow base 9 1 (.slice (some ⟨g, 0, none⟩) 0 0) 0 (strs []) :=
  ⟨rfl, .inr ⟨g, 0, #[], rfl, hb, h, Nat.le_refl _, by simp [maxLen], rfl, rfl⟩⟩
/-- a row of one text -/
theorem sl_1 {w : World} {g : Nat} {s : ByteArray} (h : w.heap[g]? = some (.cells #[.string s] 9 (0, 0))) : Sl w (fun _ => True) 1 (some ⟨g, 0, none⟩) 1 (strs [s]) := by
  refine ⟨rfl, fun _ => ⟨_, rfl, trivial, (Array.getElem?_eq_some_iff.1 h).1, fun j u hu => ?_⟩⟩
  have hj : j = 0 := by
    have := (List.getElem?_eq_some_iff.1 hu).1
    simp [strs] at this; omega
  subst hj
  have e : u = .string s := by simpa [strs] using hu.symm
  subst e
  simp [World.cell?, Addr.add, h]

theorem sl_1b {w : World} {g : Nat} {s : ByteArray} (h : w.heap[g]? = some (.cells #[.string s] 9 (0, 0))) : Sl w (fun b => b = g) 1 (some ⟨g, 0, none⟩) 1 (strs [s]) := by
  obtain ⟨_, h2⟩ := sl_1 h
  refine ⟨rfl, fun hn => ?_⟩
  obtain ⟨a, e, _, hx, hc⟩ := h2 hn
  injection e with e
  subst e
  exact ⟨_, rfl, rfl, hx, hc⟩
/-- 'append([]string{}, l...)', as a step of a region that draws -/
theorem step_app_mt {w : World} {ops : Array Oper} {K : Act → World → Prop} {E : Prop} {o : Oper} {a : Act} {Q : Exit → Act → World → Prop} (hw : Region.wanted o (yielded ops a.tmps) = true) (s x : Operand)
    (ho : o.op = .call { callee := .builtin .append, args := #[s, x], argTypes := #[22, 22] })
    (base g : Nat) (hs : a.eval s = .slice (some ⟨g, 0, none⟩) 0 0) (V : Nat → Prop) (A : Option Addr) (m c : Nat) (hx : a.eval x = .slice A m c) (hg : w.heap[g]? = some (.cells #[] 9 (0, 0))) (hb : base ≤ g)
    (ts : List ByteArray) (hr : Sl w V 1 A m (strs ts)) (hn : m ≤ 1000000000000)
    (h : ∀ A' c' w', Apd w w' base 9 1 (.slice (some ⟨g, 0, none⟩) 0 0) (.slice A' m c') m (strs ts) → K (a.put o.dst (.slice A' m c')) w') : if Region.wanted o (yielded ops a.tmps) = true then Oper.wp Try.prog o a w K Q else E := by
  refine step_app_strsG hw s x ho base _ 0 [] (own_mt hg hb) hs V A m c ts hr hx (by omega) (Nat.le_trans hb (Nat.le_of_lt (Array.getElem?_eq_some_iff.1 hg).1)) fun v' w' hA => ?_
  rw [Nat.zero_add, List.nil_append] at hA
  obtain ⟨A', c', rfl⟩ := own_shape hA.own
  exact h A' c' w' hA
/-- 'append(l, s)', as a step of a region that draws -/
theorem step_app_s1 {w : World} {ops : Array Oper} {K : Act → World → Prop} {E : Prop} {o : Oper} {a : Act} {Q : Exit → Act → World → Prop} (hw : Region.wanted o (yielded ops a.tmps) = true) (s x : Operand)
    (ho : o.op = .call { callee := .builtin .append, args := #[s, x], argTypes := #[22, 22] })
    (g c1 : Nat) (v : Value) (hs : a.eval s = v) (hx : a.eval x = .slice (some ⟨g, 0, none⟩) 1 c1) (y : ByteArray) (hg : w.heap[g]? = some (.cells #[.string y] 9 (0, 0)))
    (base n : Nat) (ss : List ByteArray) (hown : w.ownsRow base 9 1 v n (strs ss)) (hn : n + 1 ≤ 1000000000000) (hb : base ≤ w.heap.size)
    (h : ∀ A' c' w', Apd w w' base 9 1 v (.slice A' (n + 1) c') (n + 1) (strs (ss ++ [y])) → K (a.put o.dst (.slice A' (n + 1) c')) w') : if Region.wanted o (yielded ops a.tmps) = true then Oper.wp Try.prog o a w K Q else E := by
  refine step_app_strsG hw s x ho base v n ss hown hs _ _ 1 c1 [y] (sl_1 hg) hx hn hb fun v' w' hA => ?_
  obtain ⟨A', c', rfl⟩ := own_shape hA.own
  exact h A' c' w' hA
/-- a list of the row is written anew -/
theorem rf_put {wr w6 : World} {B g jl cap m A6c : Nat} {A6 : Option Addr} {vals : List Value} {ll : List (List ByteArray)} {cur nw : List ByteArray} (hown : wr.ownsRow B 22 1 (.slice (some ⟨g, 0, none⟩) (jl + 1) cap) (jl + 1) vals)
    (hrw : Rows2 wr (fun b => B ≤ b ∧ some b ≠ some g) vals (ll ++ [cur])) (hb : Below wr.heap.size wr w6) (hj : jl = ll.length) (hm : m = nw.length) (ho : w6.ownsRow wr.heap.size 9 1 (.slice A6 m A6c) m (strs nw)) (hB : B ≤ wr.heap.size) :
    (w6.setCell ⟨g, jl, none⟩ (.slice A6 m A6c)).ownsRow B 22 1 (.slice (some ⟨g, 0, none⟩) (jl + 1) cap) (ll ++ [nw]).length (vals.set jl (.slice A6 m A6c)) ∧ Rows2 (w6.setCell ⟨g, jl, none⟩ (.slice A6 m A6c)) (fun b => B ≤ b ∧ some b ≠ some g) (vals.set jl (.slice A6 m A6c)) (ll ++ [nw]) := by
  have h6 := own_below hown hb
  have hgl : g < wr.heap.size := (hown.lt _ rfl).2
  have hlen : (ll ++ [nw]).length = jl + 1 := by simp [hj]
  refine ⟨by rw [hlen]; exact (h6.stored jl _).1, by rw [List.length_set, hrw.1]; simp, fun i l hi => ?_⟩
  have hfar : ∀ b, b ≠ g → (w6.setCell ⟨g, jl, none⟩ (.slice A6 m A6c)).heap[b]? = w6.heap[b]? := fun b hb => by
    simp only [World.setCell, Array.getElem?_modify]
    rw [if_neg (fun e => hb e.symm)]
  rcases Nat.lt_or_ge i jl with h1 | h1
  · rw [List.getElem?_append_left (by omega)] at hi
    obtain ⟨A', c', h2, h3⟩ := hrw.2 i l (by rw [List.getElem?_append_left (by omega)]; exact hi)
    refine ⟨A', c', by rw [List.getElem?_set_ne (by omega)]; exact h2, h3.keep (by simp [World.setCell]; exact hb.size) fun b hb' hl => ?_⟩
    rw [hfar b (fun e => hb'.2 (by rw [e]))]
    exact hb.block b hl
  · rw [List.getElem?_append_right (by omega)] at hi
    have h0 : i - ll.length = 0 := by
      have := (List.getElem?_eq_some_iff.1 hi).1
      simp at this; omega
    rw [h0] at hi
    simp only [List.getElem?_cons_zero, Option.some.injEq] at hi
    subst hi
    have hij : i = jl := by omega
    subst hij
    subst hm
    refine ⟨A6, A6c, by rw [List.getElem?_set_self (by rw [hrw.1]; simp; omega)], ((Sl.of_own ho).keep (by simp [World.setCell]) fun b hb' hl => hfar b (by have h : wr.heap.size ≤ b := hb'; omega)).mono fun b hb' => ⟨by have h : wr.heap.size ≤ b := hb'; omega, fun e => by injection e with e; have h : wr.heap.size ≤ b := hb'; omega⟩⟩
/-- what the reference's Fill has made of the first k cells -/
def RF (w0 : World) (ss : List ByteArray) (k : Nat) (vs : Value) (wr : World) : Prop :=
  ∃ vals L, wr.ownsRow w0.heap.size 22 1 vs L.length vals ∧ Rows2 wr (fun b => w0.heap.size ≤ b ∧ some b ≠ vs.ownBlock) vals L ∧ Below w0.heap.size w0 wr ∧ ((k = 0 ∧ L = []) ∨ ∃ ll cur, L = ll ++ [cur] ∧ cur ≠ [] ∧ Fills ss k ll cur)

set_option maxRecDepth 100000 in
set_option maxHeartbeats 6400000 in
theorem rfill_any (A : Option Addr) (n c : Nat) (ss : List ByteArray) (V : Nat → Prop) (w : World) (h : Sl w V 1 A n (strs ss)) (hn : n ≤ 100000) (hf : ∀ s ∈ ss, s.size ≤ 1000) :
    Calls Try.prog 88 #[.slice A n c] w fun e w' => ∃ A' c', e = .returned (.slice A' (SlotP.fill (octs ss)).length c') ∧ Below w.heap.size w w' := by
  have hlen : ss.length = n := h.len
  have HL := hide hlen
  have HF := hide hf
  have HS := hide h
  have HR0 : Hid (RF w ss 0 (.slice none 0 0) w) := ⟨[], [], ⟨rfl, .inl ⟨rfl, rfl⟩⟩, Rows2.nil _ _, Below.refl _ _, .inl ⟨rfl, rfl⟩⟩
  clear hlen hf h
  go_enter Try.func88, Try.ntmps88
  go_upto_block 0 with (fail)
  go_cut [3] from 4 to 54 (fun vs wc => RF w ss n vs wc)
  case first =>
    go_wp2_with fail
    go_loopw [3, 4] (fun vs iv wr => ∃ k : Nat, k ≤ n ∧ iv = .int .i64 k ∧ RF w ss k vs wr) (fun _ iv _ => n - (intOf iv).toNat)
    case atStart => exact ⟨0, Nat.zero_le _, rfl, HR0.out⟩
    case round =>
      clear HR0
      obtain ⟨k, hk, rfl, vals, L, hown, hrw, hb, hst⟩ := hrel
      obtain ⟨nL, hnL⟩ : ∃ nL, nL = L.length := ⟨_, rfl⟩
      rw [← hnL] at hown
      obtain ⟨X, xc, rfl⟩ := own_shape hown
      by_cases hlt : k < n
      · obtain ⟨a, s, hA, hsk, hc⟩ := (HS.out.below hb).str hlt
        have hsz := HF.out s (List.mem_of_getElem? hsk)
        have d1 : decide (k < n) = true := by simpa using hlt
        have hkn : (k : Int) < (n : Int) := by omega
        have hkn0 : (0 : Int) ≤ (k : Int) := by omega
        subst hA
        rcases hst with ⟨hk0, rfl⟩ | ⟨ll, cur, rfl, hcne, hfl⟩
        · have HX : Hid (Fills ss (k + 1) [] [s]) := by
            subst hk0
            exact fills_snoc (fills_zero ss) hsk (SlotP.fits_single _ (by rw [oct_length]; omega))
          simp only [List.length_nil] at hnL
          subst hnL
          have hv0 : vals = [] := by have := hrw.1; exact List.eq_nil_of_length_eq_zero (by simpa using this)
          subst hv0
          have HOWN := hide hown
          have HB := hide hb
          have HRW := hide hrw
          have HK0 := hide hk0
          clear hsk hown hb hrw hk0
          go_upto_region 6 with (fail)
          go_quiet (fail)
          go_upto_region 8 with (fail)
          have hbq : Below wr.heap.size wr (wr.drewN nq) := below_drewN (Below.refl _ _) nq
          obtain ⟨wq, hwq⟩ : ∃ y, y = wr.drewN nq := ⟨_, rfl⟩
          rw [← hwq] at hbq ⊢
          have hcq := cell_nextK hc hbq
          have HBQ := hide hbq
          have hos := own_below HOWN.out hbq
          have hos1 := own_below hos ((Below.refl _ _).alloc (Nat.le_refl _) (.cells #[.string s] 9))
          have hbw := HB.out.trans (hbq.mono HB.out.size)
          have hbw1 := hbw.alloc hbw.size (.cells #[.string s] 9)
          clear hwq hbq hc
          go_wp2_with (at_builtin; refine wp_app_list rfl _ _ rfl w.heap.size _ _ _ hos1 rfl _ _ _ ?_ (by simp) hbw1.size ?_; (show Value.slice (some ⟨wq.heap.size + 1, 0, none⟩) 1 1 = _; rw [World.size_alloc]); intro v2 w2 hA2)
          have hb2 := hA2.below hos1 hbw1 (Nat.le_refl _) hbw1.size
          have hr1 : Rows2 w2 (fun b => w.heap.size ≤ b ∧ some b ≠ v2.ownBlock) [.slice (some ⟨wq.heap.size, 0, none⟩) 1 1] ([] ++ [[s]]) := by
            have h1 : Sl (wq.alloc (.cells #[.string s] 9)) (fun b => b = wq.heap.size) 1 (some ⟨wq.heap.size, 0, none⟩) 1 (strs [s]) := sl_1b (blkT rfl)
            have hne : (Value.slice X 0 xc).ownBlock ≠ some wq.heap.size := fun e => by have := (hos.lt _ e).2; omega
            refine (Rows2.snoc (Rows2.nil _ (fun b => b = wq.heap.size)) h1).keep hA2.grown.size ?_
            rintro b rfl hlt
            refine ⟨hA2.farK hlt hne, hbw.size, fun e => ?_⟩
            rcases hA2.at_ with h | ⟨g, h, hg⟩
            · exact hne (h ▸ e.symm)
            · rw [h] at e; injection e with e; simp at hg; omega
          have HF : Hid (RF w ss (k + 1) v2 w2) := ⟨_, [[s]], hA2.own, hr1, hb2, .inr ⟨[], [s], rfl, by simp, HX.out⟩⟩
          clear hr1 hA2 hb2
          go_roundw
          case rel => exact ⟨k + 1, by omega, by go_num, HF.out⟩
          case measure => simp [intOf]; omega
        · have hnl : nL = ll.length + 1 := by rw [hnL]; simp
          obtain ⟨jl, hjl⟩ : ∃ jl, jl = ll.length := ⟨_, rfl⟩
          rw [← hjl] at hnl
          subst hnl
          obtain ⟨g, cap, hv, hgb, hgl, hgc⟩ := own_form hown (by omega)
          injection hv with hv _ hv2
          subst hv hv2
          obtain ⟨A2, c2, hvj, hsl2⟩ := hrw.2 jl cur (by rw [hjl]; simp)
          obtain ⟨a', u, ea, hxu, hcu⟩ := (Sl.of_own hown).at_ (k := jl) (by omega)
          injection ea with ea
          subst ea
          obtain rfl := Option.some.inj (hvj.symm.trans hxu)
          rw [add_lit] at hcu
          obtain ⟨fit, hfit⟩ : ∃ fit, fit = SlotP.fits (octs (cur ++ [s])) := ⟨_, rfl⟩
          have HRF : Hid (∀ (ww : World) A3 c3 (V3 : Nat → Prop), Sl ww V3 1 A3 (cur.length + 1) (strs (cur ++ [s])) → Calls Try.prog 27 #[.slice A3 (cur.length + 1) c3] ww fun e w' => e = .returned (.bool fit) ∧ ww = w') := fun ww A3 c3 V3 h3 => by
            rw [hfit]
            exact rfits_any A3 (cur.length + 1) c3 (cur ++ [s]) V3 ww h3 (by have := fills_cur hfl; omega)
          have hcl := fills_cur hfl
          obtain ⟨nc, hnc⟩ : ∃ nc, nc = cur.length := ⟨_, rfl⟩
          rw [← hnc] at hsl2 hcu HRF hcl
          have HFL := hide hfl
          have HSK := hide hsk
          have HOWN := hide hown
          have HB := hide hb
          have HRW := hide hrw
          have HSL2 := hide hsl2
          have HNC := hide hnc
          have HJL := hide hjl
          have HNL := hide hnL
          have HFIT := hide hfit
          have d0 : decide ((0 : Int) ≤ (jl : Int)) = true := by simp
          have d0' : (0 : Int) ≤ (jl : Int) := by omega
          have d0'' : (jl : Int) < (jl : Int) + 1 := by omega
          have hjlk : jl ≤ 100000 := by have := hfl.2.2.1; omega
          have hw5 : wrap64 (jl : Int) = (jl : Int) := by unfold wrap64; omega
          clear hsk hown hb hrw hfl hsl2 hnc hjl hnL hfit hvj hxu hgb hgl hgc
          go_upto_region 6 with (fail)
          clear hw5
          have hbx : Below wr.heap.size wr wr.drew := (Below.refl _ _).drew
          go_cut [31] from 15 to 31 (fun bv wc => bv = .bool fit ∧ Below wr.heap.size wr wc)
          case first =>
            have HSS : Hid (∀ ww, Below wr.heap.size wr ww → ww.cell? ⟨g, jl, none⟩ = some (.slice A2 nc c2) ∧ ww.cell? (a.add k) = some (.string s)) := fun ww hb => ⟨cell_nextK hcu hb, cell_nextK hc hb⟩
            have hS := HSS.out wr.drew hbx
            clear hcu hc
            refine wp_region_noPanic ?_
            refine RegE.begin_ (n := 16) (S := fun ww => ww.cell? ⟨g, jl, none⟩ = some (.slice A2 nc c2) ∧ ww.cell? (a.add k) = some (.string s)) (by kernel_rfl) (by kernel_rfl) (by kernel_rfl) ?_
            refine RegE.take (i := 0) (v := ?v0) rfl (by kernel_rfl) (by kernel_rfl) rfl (by kernel_rfl) (by kernel_rfl) (by kernel_rfl) (fun _ _ _ h => h) (Or.inl ⟨by first | rfl | simp [Region.wanted, yielded], ?y0⟩) hS ?r0
            case y0 => intro ww hSw; obtain ⟨hs1, hs2⟩ := hSw; (go_simp <;> with_reducible rfl)
            try simp only [Act.put, List.getElem_toArray, List.getElem_cons_zero, List.setIfInBounds_toArray, List.set_cons_zero, List.set_cons_succ]
            refine RegE.take (i := 1) (v := ?v1) rfl (by kernel_rfl) (by kernel_rfl) rfl (by kernel_rfl) (by kernel_rfl) (by kernel_rfl) (fun _ _ _ h => h) (Or.inl ⟨by first | rfl | simp [Region.wanted, yielded], ?y1⟩) hS ?r1
            case y1 => intro ww hSw; obtain ⟨hs1, hs2⟩ := hSw; (go_simp <;> with_reducible rfl)
            try simp only [Act.put, List.getElem_toArray, List.getElem_cons_zero, List.getElem_cons_succ, List.setIfInBounds_toArray, List.set_cons_zero, List.set_cons_succ]
            refine RegE.take (i := 2) (v := ?v2) rfl (by kernel_rfl) (by kernel_rfl) rfl (by kernel_rfl) (by kernel_rfl) (by kernel_rfl) (fun _ _ _ h => h) (Or.inl ⟨by first | rfl | simp [Region.wanted, yielded], ?y2⟩) hS ?r2
            case y2 => intro ww hSw; obtain ⟨hs1, hs2⟩ := hSw; (go_simp <;> with_reducible rfl)
            try simp only [Act.put, List.getElem_toArray, List.getElem_cons_zero, List.getElem_cons_succ, List.setIfInBounds_toArray, List.set_cons_zero, List.set_cons_succ]
            refine RegE.take (i := 4) (v := ?v4) rfl (by kernel_rfl) (by kernel_rfl) rfl (by kernel_rfl) (by kernel_rfl) (by kernel_rfl) (fun _ _ _ h => h) (Or.inl ⟨by first | rfl | simp [Region.wanted, yielded], ?y4⟩) hS ?r4
            case y4 => intro ww hSw; obtain ⟨hs1, hs2⟩ := hSw; (go_simp <;> with_reducible rfl)
            try simp only [Act.put, List.getElem_toArray, List.getElem_cons_zero, List.getElem_cons_succ, List.setIfInBounds_toArray, List.set_cons_zero, List.set_cons_succ]
            refine RegE.take (i := 5) (v := ?v5) rfl (by kernel_rfl) (by kernel_rfl) rfl (by kernel_rfl) (by kernel_rfl) (by kernel_rfl) (fun _ _ _ h => h) (Or.inl ⟨by first | rfl | simp [Region.wanted, yielded], ?y5⟩) hS ?r5
            case y5 => intro ww hSw; obtain ⟨hs1, hs2⟩ := hSw; (go_simp <;> with_reducible rfl)
            try simp only [Act.put, List.getElem_toArray, List.getElem_cons_zero, List.getElem_cons_succ, List.setIfInBounds_toArray, List.set_cons_zero, List.set_cons_succ]
            refine RegE.take (i := 6) (v := ?v6) rfl (by kernel_rfl) (by kernel_rfl) rfl (by kernel_rfl) (by kernel_rfl) (by kernel_rfl) (fun _ _ _ h => h) (Or.inl ⟨by first | rfl | simp [Region.wanted, yielded], ?y6⟩) hS ?r6
            case y6 => intro ww hSw; obtain ⟨hs1, hs2⟩ := hSw; (go_simp <;> with_reducible rfl)
            try simp only [Act.put, List.getElem_toArray, List.getElem_cons_zero, List.getElem_cons_succ, List.setIfInBounds_toArray, List.set_cons_zero, List.set_cons_succ]
            refine RegE.take (i := 7) (v := ?v7) rfl (by kernel_rfl) (by kernel_rfl) rfl (by kernel_rfl) (by kernel_rfl) (by kernel_rfl) (fun _ _ _ h => h) (Or.inl ⟨by first | rfl | simp [Region.wanted, yielded], ?y7⟩) hS ?r7
            case y7 => intro ww hSw; obtain ⟨hs1, hs2⟩ := hSw; (go_simp <;> with_reducible rfl)
            try simp only [Act.put, List.getElem_toArray, List.getElem_cons_zero, List.getElem_cons_succ, List.setIfInBounds_toArray, List.set_cons_zero, List.set_cons_succ]
            refine RegE.take (i := 9) (v := ?v9) rfl (by kernel_rfl) (by kernel_rfl) rfl (by kernel_rfl) (by kernel_rfl) (by kernel_rfl) (fun _ _ _ h => h) (Or.inl ⟨by first | rfl | simp [Region.wanted, yielded], ?y9⟩) hS ?r9
            case y9 => intro ww hSw; obtain ⟨hs1, hs2⟩ := hSw; (go_simp <;> with_reducible rfl)
            try simp only [Act.put, List.getElem_toArray, List.getElem_cons_zero, List.getElem_cons_succ, List.setIfInBounds_toArray, List.set_cons_zero, List.set_cons_succ]
            refine RegE.take (i := 10) (v := ?v10) rfl (by kernel_rfl) (by kernel_rfl) rfl (by kernel_rfl) (by kernel_rfl) (by kernel_rfl) (fun _ _ _ h => h) (Or.inl ⟨by first | rfl | simp [Region.wanted, yielded], ?y10⟩) hS ?r10
            case y10 => intro ww hSw; obtain ⟨hs1, hs2⟩ := hSw; (go_simp <;> with_reducible rfl)
            try simp only [Act.put, List.getElem_toArray, List.getElem_cons_zero, List.getElem_cons_succ, List.setIfInBounds_toArray, List.set_cons_zero, List.set_cons_succ]
            refine RegE.take (i := 11) (v := ?v11) rfl (by kernel_rfl) (by kernel_rfl) rfl (by kernel_rfl) (by kernel_rfl) (by kernel_rfl) (fun _ _ _ h => h) (Or.inl ⟨by first | rfl | simp [Region.wanted, yielded], ?y11⟩) hS ?r11
            case y11 => intro ww hSw; obtain ⟨hs1, hs2⟩ := hSw; (go_simp <;> with_reducible rfl)
            try simp only [Act.put, List.getElem_toArray, List.getElem_cons_zero, List.getElem_cons_succ, List.setIfInBounds_toArray, List.set_cons_zero, List.set_cons_succ]
            refine RegE.take (i := 12) (v := ?v12) rfl (by kernel_rfl) (by kernel_rfl) rfl (by kernel_rfl) (by kernel_rfl) (by kernel_rfl) (fun _ _ _ h => h) (Or.inl ⟨by first | rfl | simp [Region.wanted, yielded], ?y12⟩) hS ?r12
            case y12 => intro ww hSw; obtain ⟨hs1, hs2⟩ := hSw; (go_simp <;> with_reducible rfl)
            try simp only [Act.put, List.getElem_toArray, List.getElem_cons_zero, List.getElem_cons_succ, List.setIfInBounds_toArray, List.set_cons_zero, List.set_cons_succ]
            refine RegE.branch2 (i := 3) (j := 13) rfl rfl (by kernel_rfl) rfl rfl (fun K hK => ?_) (fun K hK => ?_)
            · skip
              go_simp
              obtain ⟨w3, hxw3⟩ : ∃ y, y = (wr.alloc (.cells #[] 9)).drew := ⟨_, rfl⟩
              have hbw3 : Below wr.heap.size wr w3 := by rw [hxw3]; exact ((Below.refl _ _).alloc (Nat.le_refl _) _).drew
              have hgE : w3.heap[wr.heap.size]? = some (.cells #[] 9 (0, 0)) := by rw [hxw3]; exact blkT (w := wr) rfl
              rw [← hxw3]
              obtain ⟨gE, hge⟩ : ∃ g, g = wr.heap.size := ⟨_, rfl⟩
              have hlE : wr.heap.size ≤ gE := by rw [hge]; exact Nat.le_refl _
              rw [← hge] at hgE ⊢
              clear hxw3 hge
              refine hK _ _ (HSS.out _ hbw3) ?_
              clear hK K
              try simp only [Act.put, List.getElem_toArray, List.getElem_cons_zero, List.getElem_cons_succ, List.setIfInBounds_toArray, List.set_cons_zero, List.set_cons_succ]
              refine RegE.branch2 (i := 8) (j := 13) rfl rfl (by kernel_rfl) rfl rfl (fun K hK => ?_) (fun K hK => ?_)
              · skip
                refine step_app_mt (by simp [Region.wanted, yielded]) _ _ rfl wr.heap.size gE rfl _ _ _ _ rfl hgE hlE cur (HSL2.out.below hbw3) (by omega) ?_
                intro A5 c5 w4 hA1
                have hbw4 := hA1.below (own_mt hgE hlE) hbw3 (Nat.le_refl _) hbw3.size
                refine hK _ _ (HSS.out _ hbw4) ?_
                clear hK K
                try simp only [Act.put, List.getElem_toArray, List.getElem_cons_zero, List.getElem_cons_succ, List.setIfInBounds_toArray, List.set_cons_zero, List.set_cons_succ]
                refine RegE.step (i := 13) rfl (by kernel_rfl) rfl (fun K hK => ?_)
                obtain ⟨hs1, hs2⟩ := HSS.out _ hbw4
                go_simp
                clear hs1 hs2
                obtain ⟨w5, hxw5⟩ : ∃ y, y = w4.alloc (.cells #[.string s] 9) := ⟨_, rfl⟩
                have hbw5 : Below wr.heap.size wr w5 := by rw [hxw5]; exact hbw4.alloc hbw4.size _
                have hgO : w5.heap[w4.heap.size]? = some (.cells #[.string s] 9 (0, 0)) := by rw [hxw5]; exact blkT rfl
                have ho5 : w5.ownsRow wr.heap.size 9 1 (.slice A5 nc c5) nc (strs cur) := by rw [hxw5]; exact own_below hA1.own ((Below.refl _ _).alloc (Nat.le_refl _) _)
                rw [← hxw5]
                obtain ⟨gO, hgo⟩ : ∃ g, g = w4.heap.size := ⟨_, rfl⟩
                rw [← hgo] at hgO ⊢
                clear hxw5 hgo
                refine hK _ _ (HSS.out _ hbw5) ?_
                clear hK K
                try simp only [Act.put, List.getElem_toArray, List.getElem_cons_zero, List.getElem_cons_succ, List.setIfInBounds_toArray, List.set_cons_zero, List.set_cons_succ]
                refine RegE.step (i := 14) rfl (by kernel_rfl) rfl (fun K hK => ?_)
                refine step_app_s1 (by simp [Region.wanted, yielded]) _ _ rfl gO _ _ rfl rfl s hgO wr.heap.size nc cur ho5 (by omega) hbw5.size ?_
                intro A6 c6 w6 hA2
                have hbw6 := hA2.below ho5 hbw5 (Nat.le_refl _) hbw5.size
                have ho6 := hA2.own
                refine hK _ _ (HSS.out _ hbw6) ?_
                clear hK K
                try simp only [Act.put, List.getElem_toArray, List.getElem_cons_zero, List.getElem_cons_succ, List.setIfInBounds_toArray, List.set_cons_zero, List.set_cons_succ]
                refine RegE.step (i := 15) rfl (by kernel_rfl) rfl (fun K hK => ?_)
                go_simp
                refine (HRF.out _ _ _ _ (Sl.of_own ho6)).mono ?_
                rintro q w9 ⟨rfl, rfl⟩
                refine hK _ _ (HSS.out _ hbw6) ?_
                clear hK K
                try simp only [Act.put, List.getElem_toArray, List.getElem_cons_zero, List.getElem_cons_succ, List.setIfInBounds_toArray, List.set_cons_zero, List.set_cons_succ]
                refine RegE.done rfl (by kernel_rfl) (fun K hK => ?_)
                go_simp
                refine hK _ _ ?_
                clear hK K
                refine NoPanic.normal ?_
                try simp only [Act.put, List.getElem_toArray, List.getElem_cons_zero, List.getElem_cons_succ, List.setIfInBounds_toArray, List.set_cons_zero, List.set_cons_succ]
                go_wp2_with fail
                go_meet
                exact ⟨rfl, hbw6⟩
              · skip
                have hlEE := (Array.getElem?_eq_some_iff.1 hgE).1
                obtain ⟨hs1, hs2⟩ := HSS.out _ hbw3
                go_simp
                clear hs1 hs2
                obtain ⟨w4, hxw4⟩ : ∃ y, y = w3.alloc (.cells #[.string s] 9) := ⟨_, rfl⟩
                have hbw4 : Below wr.heap.size wr w4 := by rw [hxw4]; exact hbw3.alloc hbw3.size _
                have hgO : w4.heap[w3.heap.size]? = some (.cells #[.string s] 9 (0, 0)) := by rw [hxw4]; exact blkT rfl
                have hgE : w4.heap[gE]? = some (.cells #[] 9 (0, 0)) := by rw [hxw4]; exact blkU hgE
                have hneO : gE ≠ w3.heap.size := by omega
                clear hlEE
                rw [← hxw4]
                obtain ⟨gO, hgo⟩ : ∃ g, g = w3.heap.size := ⟨_, rfl⟩
                rw [← hgo] at hgO ⊢ hneO
                clear hxw4 hgo
                refine hK _ _ (HSS.out _ hbw4) ?_
                clear hK K
                try simp only [Act.put, List.getElem_toArray, List.getElem_cons_zero, List.getElem_cons_succ, List.setIfInBounds_toArray, List.set_cons_zero, List.set_cons_succ]
                refine RegE.step (i := 8) rfl (by kernel_rfl) rfl (fun K hK => ?_)
                refine step_app_mt (by simp [Region.wanted, yielded]) _ _ rfl wr.heap.size gE rfl _ _ _ _ rfl hgE hlE cur (HSL2.out.below hbw4) (by omega) ?_
                intro A5 c5 w5 hA1
                have hbw5 := hA1.below (own_mt hgE hlE) hbw4 (Nat.le_refl _) hbw4.size
                have ho5 := hA1.own
                have hgO : w5.heap[gO]? = some (.cells #[.string s] 9 (0, 0)) := (hA1.farK (Array.getElem?_eq_some_iff.1 hgO).1 (by simp [Value.ownBlock]; omega)).trans hgO
                refine hK _ _ (HSS.out _ hbw5) ?_
                clear hK K
                try simp only [Act.put, List.getElem_toArray, List.getElem_cons_zero, List.getElem_cons_succ, List.setIfInBounds_toArray, List.set_cons_zero, List.set_cons_succ]
                refine RegE.step (i := 14) rfl (by kernel_rfl) rfl (fun K hK => ?_)
                refine step_app_s1 (by simp [Region.wanted, yielded]) _ _ rfl gO _ _ rfl rfl s hgO wr.heap.size nc cur ho5 (by omega) hbw5.size ?_
                intro A6 c6 w6 hA2
                have hbw6 := hA2.below ho5 hbw5 (Nat.le_refl _) hbw5.size
                have ho6 := hA2.own
                refine hK _ _ (HSS.out _ hbw6) ?_
                clear hK K
                try simp only [Act.put, List.getElem_toArray, List.getElem_cons_zero, List.getElem_cons_succ, List.setIfInBounds_toArray, List.set_cons_zero, List.set_cons_succ]
                refine RegE.step (i := 15) rfl (by kernel_rfl) rfl (fun K hK => ?_)
                go_simp
                refine (HRF.out _ _ _ _ (Sl.of_own ho6)).mono ?_
                rintro q w9 ⟨rfl, rfl⟩
                refine hK _ _ (HSS.out _ hbw6) ?_
                clear hK K
                try simp only [Act.put, List.getElem_toArray, List.getElem_cons_zero, List.getElem_cons_succ, List.setIfInBounds_toArray, List.set_cons_zero, List.set_cons_succ]
                refine RegE.done rfl (by kernel_rfl) (fun K hK => ?_)
                go_simp
                refine hK _ _ ?_
                clear hK K
                refine NoPanic.normal ?_
                try simp only [Act.put, List.getElem_toArray, List.getElem_cons_zero, List.getElem_cons_succ, List.setIfInBounds_toArray, List.set_cons_zero, List.set_cons_succ]
                go_wp2_with fail
                go_meet
                exact ⟨rfl, hbw6⟩
            · skip
              obtain ⟨hs1, hs2⟩ := HSS.out wr.drew hbx
              go_simp
              clear hs1 hs2
              obtain ⟨w3, hxw3⟩ : ∃ y, y = (wr.alloc (.cells #[.string s] 9)).drew := ⟨_, rfl⟩
              have hbw3 : Below wr.heap.size wr w3 := by rw [hxw3]; exact ((Below.refl _ _).alloc (Nat.le_refl _) _).drew
              have hgO : w3.heap[wr.heap.size]? = some (.cells #[.string s] 9 (0, 0)) := by rw [hxw3]; exact blkT (w := wr) rfl
              rw [← hxw3]
              obtain ⟨gO, hgo⟩ : ∃ g, g = wr.heap.size := ⟨_, rfl⟩
              rw [← hgo] at hgO ⊢
              clear hxw3 hgo
              refine hK _ _ (HSS.out _ hbw3) ?_
              clear hK K
              try simp only [Act.put, List.getElem_toArray, List.getElem_cons_zero, List.getElem_cons_succ, List.setIfInBounds_toArray, List.set_cons_zero, List.set_cons_succ]
              refine RegE.step (i := 3) rfl (by kernel_rfl) rfl (fun K hK => ?_)
              have hlO := (Array.getElem?_eq_some_iff.1 hgO).1
              go_simp
              obtain ⟨w4, hxw4⟩ : ∃ y, y = w3.alloc (.cells #[] 9) := ⟨_, rfl⟩
              have hbw4 : Below wr.heap.size wr w4 := by rw [hxw4]; exact hbw3.alloc hbw3.size _
              have hgE : w4.heap[w3.heap.size]? = some (.cells #[] 9 (0, 0)) := by rw [hxw4]; exact blkT rfl
              have hgO : w4.heap[gO]? = some (.cells #[.string s] 9 (0, 0)) := by rw [hxw4]; exact blkU hgO
              rw [← hxw4]
              obtain ⟨gE, hge⟩ : ∃ g, g = w3.heap.size := ⟨_, rfl⟩
              have hlE : wr.heap.size ≤ gE := by rw [hge]; exact hbw3.size
              rw [← hge] at hgE ⊢
              have hneO : gE ≠ gO := by omega
              clear hlO
              clear hxw4 hge
              refine hK _ _ (HSS.out _ hbw4) ?_
              clear hK K
              try simp only [Act.put, List.getElem_toArray, List.getElem_cons_zero, List.getElem_cons_succ, List.setIfInBounds_toArray, List.set_cons_zero, List.set_cons_succ]
              refine RegE.step (i := 8) rfl (by kernel_rfl) rfl (fun K hK => ?_)
              refine step_app_mt (by simp [Region.wanted, yielded]) _ _ rfl wr.heap.size gE rfl _ _ _ _ rfl hgE hlE cur (HSL2.out.below hbw4) (by omega) ?_
              intro A5 c5 w5 hA1
              have hbw5 := hA1.below (own_mt hgE hlE) hbw4 (Nat.le_refl _) hbw4.size
              have ho5 := hA1.own
              have hgO : w5.heap[gO]? = some (.cells #[.string s] 9 (0, 0)) := (hA1.farK (Array.getElem?_eq_some_iff.1 hgO).1 (by simp [Value.ownBlock]; omega)).trans hgO
              refine hK _ _ (HSS.out _ hbw5) ?_
              clear hK K
              try simp only [Act.put, List.getElem_toArray, List.getElem_cons_zero, List.getElem_cons_succ, List.setIfInBounds_toArray, List.set_cons_zero, List.set_cons_succ]
              refine RegE.step (i := 14) rfl (by kernel_rfl) rfl (fun K hK => ?_)
              refine step_app_s1 (by simp [Region.wanted, yielded]) _ _ rfl gO _ _ rfl rfl s hgO wr.heap.size nc cur ho5 (by omega) hbw5.size ?_
              intro A6 c6 w6 hA2
              have hbw6 := hA2.below ho5 hbw5 (Nat.le_refl _) hbw5.size
              have ho6 := hA2.own
              refine hK _ _ (HSS.out _ hbw6) ?_
              clear hK K
              try simp only [Act.put, List.getElem_toArray, List.getElem_cons_zero, List.getElem_cons_succ, List.setIfInBounds_toArray, List.set_cons_zero, List.set_cons_succ]
              refine RegE.step (i := 15) rfl (by kernel_rfl) rfl (fun K hK => ?_)
              go_simp
              refine (HRF.out _ _ _ _ (Sl.of_own ho6)).mono ?_
              rintro q w9 ⟨rfl, rfl⟩
              refine hK _ _ (HSS.out _ hbw6) ?_
              clear hK K
              try simp only [Act.put, List.getElem_toArray, List.getElem_cons_zero, List.getElem_cons_succ, List.setIfInBounds_toArray, List.set_cons_zero, List.set_cons_succ]
              refine RegE.done rfl (by kernel_rfl) (fun K hK => ?_)
              go_simp
              refine hK _ _ ?_
              clear hK K
              refine NoPanic.normal ?_
              try simp only [Act.put, List.getElem_toArray, List.getElem_cons_zero, List.getElem_cons_succ, List.setIfInBounds_toArray, List.set_cons_zero, List.set_cons_succ]
              go_wp2_with fail
              go_meet
              exact ⟨rfl, hbw6⟩
          case rest =>
            revert wc
            intro wL hcut
            obtain ⟨rfl, hbL⟩ := hcut
            have hownL := own_below HOWN.out hbL
            have hrwL := HRW.out.keep (V' := fun b => w.heap.size ≤ b ∧ some b ≠ (Value.slice (some ⟨g, 0, none⟩) (jl + 1) xc).ownBlock) hbL.size fun b hb hl => ⟨hbL.block b hl, hb⟩
            have hbwL := HB.out.trans (hbL.mono HB.out.size)
            have hcuL := cell_nextK hcu hbL
            have hcL := cell_nextK hc hbL
            have HSLL := hide (HSL2.out.below hbL)
            have HOWNL := hide hownL
            have HRWL := hide hrwL
            have HBL := hide hbwL
            clear hcu hc HOWN HRW HB HSL2 hownL hrwL hbwL hbL hbx
            cases fit with
            | true =>
              have HFN : Hid (Fills ss (k + 1) ll (cur ++ [s])) := fills_snoc HFL.out HSK.out HFIT.out.symm
              go_upto_region 7 with (fail)
              skip
              obtain ⟨wr, hwr⟩ : ∃ y, y = wL := ⟨_, rfl⟩
              rw [← hwr] at hcuL hcL HSLL HOWNL HRWL HBL ⊢
              have hcu := hcuL
              have hc := hcL
              have HSL2 := HSLL
              clear hwr hcuL hcL HSLL
              have hbx : Below wr.heap.size wr wr.drew := (Below.refl _ _).drew
              have HSS : Hid (∀ ww, Below wr.heap.size wr ww → ww.cell? ⟨g, jl, none⟩ = some (.slice A2 nc c2) ∧ ww.cell? (a.add k) = some (.string s)) := fun ww hb => ⟨cell_nextK hcu hb, cell_nextK hc hb⟩
              have hS := HSS.out wr.drew hbx
              clear hcu hc
              refine wp_region_noPanic ?_
              refine RegE.begin_ (n := 15) (S := fun ww => ww.cell? ⟨g, jl, none⟩ = some (.slice A2 nc c2) ∧ ww.cell? (a.add k) = some (.string s)) (by kernel_rfl) (by kernel_rfl) (by kernel_rfl) ?_
              refine RegE.take (i := 0) (v := ?vq0) rfl (by kernel_rfl) (by kernel_rfl) rfl (by kernel_rfl) (by kernel_rfl) (by kernel_rfl) (fun _ _ _ h => h) (Or.inl ⟨by first | rfl | simp [Region.wanted, yielded], ?yq0⟩) hS ?rq0
              case yq0 => intro ww hSw; obtain ⟨hs1, hs2⟩ := hSw; (go_simp <;> with_reducible rfl)
              try simp only [Act.put, List.getElem_toArray, List.getElem_cons_zero, List.setIfInBounds_toArray, List.set_cons_zero, List.set_cons_succ]
              refine RegE.take (i := 1) (v := ?vq1) rfl (by kernel_rfl) (by kernel_rfl) rfl (by kernel_rfl) (by kernel_rfl) (by kernel_rfl) (fun _ _ _ h => h) (Or.inl ⟨by first | rfl | simp [Region.wanted, yielded], ?yq1⟩) hS ?rq1
              case yq1 => intro ww hSw; obtain ⟨hs1, hs2⟩ := hSw; (go_simp <;> with_reducible rfl)
              try simp only [Act.put, List.getElem_toArray, List.getElem_cons_zero, List.getElem_cons_succ, List.setIfInBounds_toArray, List.set_cons_zero, List.set_cons_succ]
              refine RegE.take (i := 3) (v := ?vq3) rfl (by kernel_rfl) (by kernel_rfl) rfl (by kernel_rfl) (by kernel_rfl) (by kernel_rfl) (fun _ _ _ h => h) (Or.inl ⟨by first | rfl | simp [Region.wanted, yielded], ?yq3⟩) hS ?rq3
              case yq3 => intro ww hSw; obtain ⟨hs1, hs2⟩ := hSw; (go_simp <;> with_reducible rfl)
              try simp only [Act.put, List.getElem_toArray, List.getElem_cons_zero, List.getElem_cons_succ, List.setIfInBounds_toArray, List.set_cons_zero, List.set_cons_succ]
              refine RegE.take (i := 4) (v := ?vq4) rfl (by kernel_rfl) (by kernel_rfl) rfl (by kernel_rfl) (by kernel_rfl) (by kernel_rfl) (fun _ _ _ h => h) (Or.inl ⟨by first | rfl | simp [Region.wanted, yielded], ?yq4⟩) hS ?rq4
              case yq4 => intro ww hSw; obtain ⟨hs1, hs2⟩ := hSw; (go_simp <;> with_reducible rfl)
              try simp only [Act.put, List.getElem_toArray, List.getElem_cons_zero, List.getElem_cons_succ, List.setIfInBounds_toArray, List.set_cons_zero, List.set_cons_succ]
              refine RegE.take (i := 5) (v := ?vq5) rfl (by kernel_rfl) (by kernel_rfl) rfl (by kernel_rfl) (by kernel_rfl) (by kernel_rfl) (fun _ _ _ h => h) (Or.inl ⟨by first | rfl | simp [Region.wanted, yielded], ?yq5⟩) hS ?rq5
              case yq5 => intro ww hSw; obtain ⟨hs1, hs2⟩ := hSw; (go_simp <;> with_reducible rfl)
              try simp only [Act.put, List.getElem_toArray, List.getElem_cons_zero, List.getElem_cons_succ, List.setIfInBounds_toArray, List.set_cons_zero, List.set_cons_succ]
              refine RegE.take (i := 6) (v := ?vq6) rfl (by kernel_rfl) (by kernel_rfl) rfl (by kernel_rfl) (by kernel_rfl) (by kernel_rfl) (fun _ _ _ h => h) (Or.inl ⟨by first | rfl | simp [Region.wanted, yielded], ?yq6⟩) hS ?rq6
              case yq6 => intro ww hSw; obtain ⟨hs1, hs2⟩ := hSw; (go_simp <;> with_reducible rfl)
              try simp only [Act.put, List.getElem_toArray, List.getElem_cons_zero, List.getElem_cons_succ, List.setIfInBounds_toArray, List.set_cons_zero, List.set_cons_succ]
              refine RegE.take (i := 8) (v := ?vq8) rfl (by kernel_rfl) (by kernel_rfl) rfl (by kernel_rfl) (by kernel_rfl) (by kernel_rfl) (fun _ _ _ h => h) (Or.inl ⟨by first | rfl | simp [Region.wanted, yielded], ?yq8⟩) hS ?rq8
              case yq8 => intro ww hSw; obtain ⟨hs1, hs2⟩ := hSw; (go_simp <;> with_reducible rfl)
              try simp only [Act.put, List.getElem_toArray, List.getElem_cons_zero, List.getElem_cons_succ, List.setIfInBounds_toArray, List.set_cons_zero, List.set_cons_succ]
              refine RegE.take (i := 9) (v := ?vq9) rfl (by kernel_rfl) (by kernel_rfl) rfl (by kernel_rfl) (by kernel_rfl) (by kernel_rfl) (fun _ _ _ h => h) (Or.inl ⟨by first | rfl | simp [Region.wanted, yielded], ?yq9⟩) hS ?rq9
              case yq9 => intro ww hSw; obtain ⟨hs1, hs2⟩ := hSw; (go_simp <;> with_reducible rfl)
              try simp only [Act.put, List.getElem_toArray, List.getElem_cons_zero, List.getElem_cons_succ, List.setIfInBounds_toArray, List.set_cons_zero, List.set_cons_succ]
              refine RegE.take (i := 10) (v := ?vq10) rfl (by kernel_rfl) (by kernel_rfl) rfl (by kernel_rfl) (by kernel_rfl) (by kernel_rfl) (fun _ _ _ h => h) (Or.inl ⟨by first | rfl | simp [Region.wanted, yielded], ?yq10⟩) hS ?rq10
              case yq10 => intro ww hSw; obtain ⟨hs1, hs2⟩ := hSw; (go_simp <;> with_reducible rfl)
              try simp only [Act.put, List.getElem_toArray, List.getElem_cons_zero, List.getElem_cons_succ, List.setIfInBounds_toArray, List.set_cons_zero, List.set_cons_succ]
              refine RegE.take (i := 11) (v := ?vq11) rfl (by kernel_rfl) (by kernel_rfl) rfl (by kernel_rfl) (by kernel_rfl) (by kernel_rfl) (fun _ _ _ h => h) (Or.inl ⟨by first | rfl | simp [Region.wanted, yielded], ?yq11⟩) hS ?rq11
              case yq11 => intro ww hSw; obtain ⟨hs1, hs2⟩ := hSw; (go_simp <;> with_reducible rfl)
              try simp only [Act.put, List.getElem_toArray, List.getElem_cons_zero, List.getElem_cons_succ, List.setIfInBounds_toArray, List.set_cons_zero, List.set_cons_succ]
              refine RegE.branch2 (i := 2) (j := 12) rfl rfl (by kernel_rfl) rfl rfl (fun K hK => ?_) (fun K hK => ?_)
              · skip
                go_simp
                obtain ⟨w3, hxw3⟩ : ∃ y, y = (wr.alloc (.cells #[] 9)).drew := ⟨_, rfl⟩
                have hbw3 : Below wr.heap.size wr w3 := by rw [hxw3]; exact ((Below.refl _ _).alloc (Nat.le_refl _) _).drew
                have hgE : w3.heap[wr.heap.size]? = some (.cells #[] 9 (0, 0)) := by rw [hxw3]; exact blkT (w := wr) rfl
                rw [← hxw3]
                obtain ⟨gE, hge⟩ : ∃ g, g = wr.heap.size := ⟨_, rfl⟩
                have hlE : wr.heap.size ≤ gE := by rw [hge]; exact Nat.le_refl _
                rw [← hge] at hgE ⊢
                clear hxw3 hge
                refine hK _ _ (HSS.out _ hbw3) ?_
                clear hK K
                try simp only [Act.put, List.getElem_toArray, List.getElem_cons_zero, List.getElem_cons_succ, List.setIfInBounds_toArray, List.set_cons_zero, List.set_cons_succ]
                refine RegE.branch2 (i := 7) (j := 12) rfl rfl (by kernel_rfl) rfl rfl (fun K hK => ?_) (fun K hK => ?_)
                · skip
                  refine step_app_mt (by simp [Region.wanted]) _ _ rfl wr.heap.size gE rfl _ _ _ _ rfl hgE hlE cur (HSL2.out.below hbw3) (by omega) ?_
                  intro A5 c5 w4 hA1
                  have hbw4 := hA1.below (own_mt hgE hlE) hbw3 (Nat.le_refl _) hbw3.size
                  refine hK _ _ (HSS.out _ hbw4) ?_
                  clear hK K
                  try simp only [Act.put, List.getElem_toArray, List.getElem_cons_zero, List.getElem_cons_succ, List.setIfInBounds_toArray, List.set_cons_zero, List.set_cons_succ]
                  refine RegE.step (i := 12) rfl (by kernel_rfl) rfl (fun K hK => ?_)
                  obtain ⟨hs1, hs2⟩ := HSS.out _ hbw4
                  go_simp
                  clear hs1 hs2
                  obtain ⟨w5, hxw5⟩ : ∃ y, y = w4.alloc (.cells #[.string s] 9) := ⟨_, rfl⟩
                  have hbw5 : Below wr.heap.size wr w5 := by rw [hxw5]; exact hbw4.alloc hbw4.size _
                  have hgO : w5.heap[w4.heap.size]? = some (.cells #[.string s] 9 (0, 0)) := by rw [hxw5]; exact blkT rfl
                  have ho5 : w5.ownsRow wr.heap.size 9 1 (.slice A5 nc c5) nc (strs cur) := by rw [hxw5]; exact own_below hA1.own ((Below.refl _ _).alloc (Nat.le_refl _) _)
                  rw [← hxw5]
                  obtain ⟨gO, hgo⟩ : ∃ g, g = w4.heap.size := ⟨_, rfl⟩
                  rw [← hgo] at hgO ⊢
                  clear hxw5 hgo
                  refine hK _ _ (HSS.out _ hbw5) ?_
                  clear hK K
                  try simp only [Act.put, List.getElem_toArray, List.getElem_cons_zero, List.getElem_cons_succ, List.setIfInBounds_toArray, List.set_cons_zero, List.set_cons_succ]
                  refine RegE.step (i := 13) rfl (by kernel_rfl) rfl (fun K hK => ?_)
                  refine step_app_s1 (by simp [Region.wanted]) _ _ rfl gO _ _ rfl rfl s hgO wr.heap.size nc cur ho5 (by omega) hbw5.size ?_
                  intro A6 c6 w6 hA2
                  have hbw6 := hA2.below ho5 hbw5 (Nat.le_refl _) hbw5.size
                  have ho6 := hA2.own
                  refine hK _ _ (HSS.out _ hbw6) ?_
                  clear hK K
                  try simp only [Act.put, List.getElem_toArray, List.getElem_cons_zero, List.getElem_cons_succ, List.setIfInBounds_toArray, List.set_cons_zero, List.set_cons_succ]
                  have hS6 := HSS.out _ hbw6
                  refine RegE.take (i := 14) (v := ?vz114) rfl (by kernel_rfl) (by kernel_rfl) rfl (by kernel_rfl) (by kernel_rfl) (by kernel_rfl) (fun _ _ _ h => h) (Or.inl ⟨by first | rfl | simp [Region.wanted, yielded], ?yz114⟩) hS6 ?rz114
                  case yz114 => intro ww hSw; obtain ⟨hs1, hs2⟩ := hSw; (go_simp <;> with_reducible rfl)
                  try simp only [Act.put, List.getElem_toArray, List.getElem_cons_zero, List.getElem_cons_succ, List.setIfInBounds_toArray, List.set_cons_zero, List.set_cons_succ]
                  obtain ⟨hs1, hs2⟩ := HSS.out _ hbw6
                  have hfz := (own_below HOWNL.out hbw6).frozenAt jl
                  have hrp := rf_put HOWNL.out HRWL.out hbw6 HJL.out (nw := cur ++ [s]) (by rw [HNC.out]; simp) ho6 HBL.out.size
                  have HF : Hid (RF w ss (k + 1) (.slice (some ⟨g, 0, none⟩) (jl + 1) xc) (w6.setCell ⟨g, jl, none⟩ (.slice A6 (nc + 1) c6))) := ⟨_, _, hrp.1, hrp.2, (show Below w.heap.size w (w6.setCell ⟨g, jl, none⟩ (.slice A6 (nc + 1) c6)) from Below.setCell (HBL.out.trans (hbw6.mono HBL.out.size)) (HOWNL.out.lt g rfl).1 _), .inr ⟨ll, cur ++ [s], rfl, by simp, HFN.out⟩⟩
                  clear hrp
                  refine RegE.done rfl (by kernel_rfl) (fun K hK => ?_)
                  go_simp
                  refine hK _ _ ?_
                  clear hK K hs1 hs2 hfz
                  refine NoPanic.normal ?_
                  try simp only [Act.put, List.getElem_toArray, List.getElem_cons_zero, List.getElem_cons_succ, List.setIfInBounds_toArray, List.set_cons_zero, List.set_cons_succ]
                  go_wp2_with fail
                  go_roundw
                  case rel => exact ⟨k + 1, by omega, by go_num, HF.out⟩
                  case measure => simp [intOf]; omega
                · skip
                  have hlEE := (Array.getElem?_eq_some_iff.1 hgE).1
                  obtain ⟨hs1, hs2⟩ := HSS.out _ hbw3
                  go_simp
                  clear hs1 hs2
                  obtain ⟨w4, hxw4⟩ : ∃ y, y = w3.alloc (.cells #[.string s] 9) := ⟨_, rfl⟩
                  have hbw4 : Below wr.heap.size wr w4 := by rw [hxw4]; exact hbw3.alloc hbw3.size _
                  have hgO : w4.heap[w3.heap.size]? = some (.cells #[.string s] 9 (0, 0)) := by rw [hxw4]; exact blkT rfl
                  have hgE : w4.heap[gE]? = some (.cells #[] 9 (0, 0)) := by rw [hxw4]; exact blkU hgE
                  have hneO : gE ≠ w3.heap.size := by omega
                  clear hlEE
                  rw [← hxw4]
                  obtain ⟨gO, hgo⟩ : ∃ g, g = w3.heap.size := ⟨_, rfl⟩
                  rw [← hgo] at hgO ⊢ hneO
                  clear hxw4 hgo
                  refine hK _ _ (HSS.out _ hbw4) ?_
                  clear hK K
                  try simp only [Act.put, List.getElem_toArray, List.getElem_cons_zero, List.getElem_cons_succ, List.setIfInBounds_toArray, List.set_cons_zero, List.set_cons_succ]
                  refine RegE.step (i := 7) rfl (by kernel_rfl) rfl (fun K hK => ?_)
                  refine step_app_mt (by simp [Region.wanted]) _ _ rfl wr.heap.size gE rfl _ _ _ _ rfl hgE hlE cur (HSL2.out.below hbw4) (by omega) ?_
                  intro A5 c5 w5 hA1
                  have hbw5 := hA1.below (own_mt hgE hlE) hbw4 (Nat.le_refl _) hbw4.size
                  have ho5 := hA1.own
                  have hgO : w5.heap[gO]? = some (.cells #[.string s] 9 (0, 0)) := (hA1.farK (Array.getElem?_eq_some_iff.1 hgO).1 (by simp [Value.ownBlock]; omega)).trans hgO
                  refine hK _ _ (HSS.out _ hbw5) ?_
                  clear hK K
                  try simp only [Act.put, List.getElem_toArray, List.getElem_cons_zero, List.getElem_cons_succ, List.setIfInBounds_toArray, List.set_cons_zero, List.set_cons_succ]
                  refine RegE.step (i := 13) rfl (by kernel_rfl) rfl (fun K hK => ?_)
                  refine step_app_s1 (by simp [Region.wanted]) _ _ rfl gO _ _ rfl rfl s hgO wr.heap.size nc cur ho5 (by omega) hbw5.size ?_
                  intro A6 c6 w6 hA2
                  have hbw6 := hA2.below ho5 hbw5 (Nat.le_refl _) hbw5.size
                  have ho6 := hA2.own
                  refine hK _ _ (HSS.out _ hbw6) ?_
                  clear hK K
                  try simp only [Act.put, List.getElem_toArray, List.getElem_cons_zero, List.getElem_cons_succ, List.setIfInBounds_toArray, List.set_cons_zero, List.set_cons_succ]
                  have hS6 := HSS.out _ hbw6
                  refine RegE.take (i := 14) (v := ?vz214) rfl (by kernel_rfl) (by kernel_rfl) rfl (by kernel_rfl) (by kernel_rfl) (by kernel_rfl) (fun _ _ _ h => h) (Or.inl ⟨by first | rfl | simp [Region.wanted, yielded], ?yz214⟩) hS6 ?rz214
                  case yz214 => intro ww hSw; obtain ⟨hs1, hs2⟩ := hSw; (go_simp <;> with_reducible rfl)
                  try simp only [Act.put, List.getElem_toArray, List.getElem_cons_zero, List.getElem_cons_succ, List.setIfInBounds_toArray, List.set_cons_zero, List.set_cons_succ]
                  obtain ⟨hs1, hs2⟩ := HSS.out _ hbw6
                  have hfz := (own_below HOWNL.out hbw6).frozenAt jl
                  have hrp := rf_put HOWNL.out HRWL.out hbw6 HJL.out (nw := cur ++ [s]) (by rw [HNC.out]; simp) ho6 HBL.out.size
                  have HF : Hid (RF w ss (k + 1) (.slice (some ⟨g, 0, none⟩) (jl + 1) xc) (w6.setCell ⟨g, jl, none⟩ (.slice A6 (nc + 1) c6))) := ⟨_, _, hrp.1, hrp.2, (show Below w.heap.size w (w6.setCell ⟨g, jl, none⟩ (.slice A6 (nc + 1) c6)) from Below.setCell (HBL.out.trans (hbw6.mono HBL.out.size)) (HOWNL.out.lt g rfl).1 _), .inr ⟨ll, cur ++ [s], rfl, by simp, HFN.out⟩⟩
                  clear hrp
                  refine RegE.done rfl (by kernel_rfl) (fun K hK => ?_)
                  go_simp
                  refine hK _ _ ?_
                  clear hK K hs1 hs2 hfz
                  refine NoPanic.normal ?_
                  try simp only [Act.put, List.getElem_toArray, List.getElem_cons_zero, List.getElem_cons_succ, List.setIfInBounds_toArray, List.set_cons_zero, List.set_cons_succ]
                  go_wp2_with fail
                  go_roundw
                  case rel => exact ⟨k + 1, by omega, by go_num, HF.out⟩
                  case measure => simp [intOf]; omega
              · skip
                obtain ⟨hs1, hs2⟩ := HSS.out wr.drew hbx
                go_simp
                clear hs1 hs2
                obtain ⟨w3, hxw3⟩ : ∃ y, y = (wr.alloc (.cells #[.string s] 9)).drew := ⟨_, rfl⟩
                have hbw3 : Below wr.heap.size wr w3 := by rw [hxw3]; exact ((Below.refl _ _).alloc (Nat.le_refl _) _).drew
                have hgO : w3.heap[wr.heap.size]? = some (.cells #[.string s] 9 (0, 0)) := by rw [hxw3]; exact blkT (w := wr) rfl
                rw [← hxw3]
                obtain ⟨gO, hgo⟩ : ∃ g, g = wr.heap.size := ⟨_, rfl⟩
                rw [← hgo] at hgO ⊢
                clear hxw3 hgo
                refine hK _ _ (HSS.out _ hbw3) ?_
                clear hK K
                try simp only [Act.put, List.getElem_toArray, List.getElem_cons_zero, List.getElem_cons_succ, List.setIfInBounds_toArray, List.set_cons_zero, List.set_cons_succ]
                refine RegE.step (i := 2) rfl (by kernel_rfl) rfl (fun K hK => ?_)
                have hlO := (Array.getElem?_eq_some_iff.1 hgO).1
                go_simp
                obtain ⟨w4, hxw4⟩ : ∃ y, y = w3.alloc (.cells #[] 9) := ⟨_, rfl⟩
                have hbw4 : Below wr.heap.size wr w4 := by rw [hxw4]; exact hbw3.alloc hbw3.size _
                have hgE : w4.heap[w3.heap.size]? = some (.cells #[] 9 (0, 0)) := by rw [hxw4]; exact blkT rfl
                have hgO : w4.heap[gO]? = some (.cells #[.string s] 9 (0, 0)) := by rw [hxw4]; exact blkU hgO
                rw [← hxw4]
                obtain ⟨gE, hge⟩ : ∃ g, g = w3.heap.size := ⟨_, rfl⟩
                have hlE : wr.heap.size ≤ gE := by rw [hge]; exact hbw3.size
                rw [← hge] at hgE ⊢
                have hneO : gE ≠ gO := by omega
                clear hlO
                clear hxw4 hge
                refine hK _ _ (HSS.out _ hbw4) ?_
                clear hK K
                try simp only [Act.put, List.getElem_toArray, List.getElem_cons_zero, List.getElem_cons_succ, List.setIfInBounds_toArray, List.set_cons_zero, List.set_cons_succ]
                refine RegE.step (i := 7) rfl (by kernel_rfl) rfl (fun K hK => ?_)
                refine step_app_mt (by simp [Region.wanted]) _ _ rfl wr.heap.size gE rfl _ _ _ _ rfl hgE hlE cur (HSL2.out.below hbw4) (by omega) ?_
                intro A5 c5 w5 hA1
                have hbw5 := hA1.below (own_mt hgE hlE) hbw4 (Nat.le_refl _) hbw4.size
                have ho5 := hA1.own
                have hgO : w5.heap[gO]? = some (.cells #[.string s] 9 (0, 0)) := (hA1.farK (Array.getElem?_eq_some_iff.1 hgO).1 (by simp [Value.ownBlock]; omega)).trans hgO
                refine hK _ _ (HSS.out _ hbw5) ?_
                clear hK K
                try simp only [Act.put, List.getElem_toArray, List.getElem_cons_zero, List.getElem_cons_succ, List.setIfInBounds_toArray, List.set_cons_zero, List.set_cons_succ]
                refine RegE.step (i := 13) rfl (by kernel_rfl) rfl (fun K hK => ?_)
                refine step_app_s1 (by simp [Region.wanted]) _ _ rfl gO _ _ rfl rfl s hgO wr.heap.size nc cur ho5 (by omega) hbw5.size ?_
                intro A6 c6 w6 hA2
                have hbw6 := hA2.below ho5 hbw5 (Nat.le_refl _) hbw5.size
                have ho6 := hA2.own
                refine hK _ _ (HSS.out _ hbw6) ?_
                clear hK K
                try simp only [Act.put, List.getElem_toArray, List.getElem_cons_zero, List.getElem_cons_succ, List.setIfInBounds_toArray, List.set_cons_zero, List.set_cons_succ]
                have hS6 := HSS.out _ hbw6
                refine RegE.take (i := 14) (v := ?vz314) rfl (by kernel_rfl) (by kernel_rfl) rfl (by kernel_rfl) (by kernel_rfl) (by kernel_rfl) (fun _ _ _ h => h) (Or.inl ⟨by first | rfl | simp [Region.wanted, yielded], ?yz314⟩) hS6 ?rz314
                case yz314 => intro ww hSw; obtain ⟨hs1, hs2⟩ := hSw; (go_simp <;> with_reducible rfl)
                try simp only [Act.put, List.getElem_toArray, List.getElem_cons_zero, List.getElem_cons_succ, List.setIfInBounds_toArray, List.set_cons_zero, List.set_cons_succ]
                obtain ⟨hs1, hs2⟩ := HSS.out _ hbw6
                have hfz := (own_below HOWNL.out hbw6).frozenAt jl
                have hrp := rf_put HOWNL.out HRWL.out hbw6 HJL.out (nw := cur ++ [s]) (by rw [HNC.out]; simp) ho6 HBL.out.size
                have HF : Hid (RF w ss (k + 1) (.slice (some ⟨g, 0, none⟩) (jl + 1) xc) (w6.setCell ⟨g, jl, none⟩ (.slice A6 (nc + 1) c6))) := ⟨_, _, hrp.1, hrp.2, (show Below w.heap.size w (w6.setCell ⟨g, jl, none⟩ (.slice A6 (nc + 1) c6)) from Below.setCell (HBL.out.trans (hbw6.mono HBL.out.size)) (HOWNL.out.lt g rfl).1 _), .inr ⟨ll, cur ++ [s], rfl, by simp, HFN.out⟩⟩
                clear hrp
                refine RegE.done rfl (by kernel_rfl) (fun K hK => ?_)
                go_simp
                refine hK _ _ ?_
                clear hK K hs1 hs2 hfz
                refine NoPanic.normal ?_
                try simp only [Act.put, List.getElem_toArray, List.getElem_cons_zero, List.getElem_cons_succ, List.setIfInBounds_toArray, List.set_cons_zero, List.set_cons_succ]
                go_wp2_with fail
                go_roundw
                case rel => exact ⟨k + 1, by omega, by go_num, HF.out⟩
                case measure => simp [intOf]; omega
            | false =>
              obtain ⟨hfl', hcne'⟩ := fills_new HFL.out HSK.out HFIT.out.symm hsz
              have HFN := hide hfl'
              clear hfl' hcne'
              go_upto_region 8 with (fail)
              have hos1 := own_below HOWNL.out ((Below.refl _ _).alloc (Nat.le_refl _) (.cells #[.string s] 9))
              have hbw1 := HBL.out.alloc HBL.out.size (.cells #[.string s] 9)
              go_wp2_with (at_builtin; go_loud (refine wp_app_list rfl _ _ rfl w.heap.size _ _ _ hos1 rfl _ _ _ ?_ (by have := HNL.out; omega) hbw1.size ?_); (show Value.slice (some ⟨wL.heap.size + 1, 0, none⟩) 1 1 = _; rw [World.size_alloc]); intro v2 w2 hA2)
              have hb2 := hA2.below hos1 hbw1 (Nat.le_refl _) hbw1.size
              have hlen2 : (ll ++ [cur] ++ [[s]]).length = jl + 1 + 1 := by rw [List.length_append, ← HNL.out]; rfl
              have hlg := (hos1.lt _ rfl).2
              have hr1 : Rows2 w2 (fun b => w.heap.size ≤ b ∧ some b ≠ v2.ownBlock) (vals ++ [.slice (some ⟨wL.heap.size, 0, none⟩) 1 1]) (ll ++ [cur] ++ [[s]]) := by
                have h1 : Sl (wL.alloc (.cells #[.string s] 9)) (fun b => w.heap.size ≤ b ∧ some b ≠ some g) 1 (some ⟨wL.heap.size, 0, none⟩) 1 (strs [s]) := (sl_1b (blkT rfl)).mono fun b hb => ⟨by rw [hb]; exact HBL.out.size, fun e => by injection e with e; have hg9 : g < wL.heap.size := (HOWNL.out.lt _ rfl).2; omega⟩
                have h2 : Rows2 (wL.alloc (.cells #[.string s] 9)) (fun b => w.heap.size ≤ b ∧ some b ≠ some g) vals (ll ++ [cur]) := HRWL.out.keep (((Below.refl _ _).alloc (Nat.le_refl _) (.cells #[.string s] 9)).size) fun b hb hl => ⟨((Below.refl wL.heap.size wL).alloc (Nat.le_refl _) (.cells #[.string s] 9)).block b hl, hb⟩
                refine (Rows2.snoc h2 h1).keep hA2.grown.size ?_
                rintro b ⟨hb1, hb2⟩ hlt
                refine ⟨hA2.farK hlt (fun e => hb2 e.symm), hb1, fun e => ?_⟩
                rcases hA2.at_ with h | ⟨g', h, hg'⟩
                · rw [h] at e; exact hb2 e
                · rw [h] at e; injection e with e; omega
              have HF : Hid (RF w ss (k + 1) v2 w2) := ⟨_, _, by rw [hlen2]; exact hA2.own, hr1, hb2, .inr ⟨ll ++ [cur], [s], rfl, by simp, HFN.out⟩⟩
              clear hr1 hA2 hb2 hlen2
              go_roundw
              case rel => exact ⟨k + 1, by omega, by go_num, HF.out⟩
              case measure => simp [intOf]; omega
      · obtain rfl : k = n := by omega
        have HE : Hid (RF w ss k (.slice X nL xc) wr) := ⟨vals, L, by rw [← hnL]; exact hown, hrw, hb, hst⟩
        have d1 : decide (k < k) = false := by simp
        clear hst hown hrw hb hlt hk hnL
        go_wp2_with fail
        go_meet
        exact HE.out
  case rest =>
    clear HR0
    revert wc
    intro wL hcut
    obtain ⟨vals, L, hown, hrw, hb, hst⟩ := hcut
    obtain ⟨X, xc, rfl⟩ := own_shape hown
    have hlen : L.length = (SlotP.fill (octs ss)).length := by
      rcases hst with ⟨h0, rfl⟩ | ⟨ll, cur, rfl, hcne, hfl⟩
      · have hs0 : ss = [] := List.eq_nil_of_length_eq_zero (by rw [HL.out, h0])
        rw [hs0]; rfl
      · rw [← fills_end hfl HL.out hcne, List.length_map]
    rw [hlen] at hown ⊢
    have HB := hide hb
    clear hst hown hrw hb hlen
    go_wp2_with fail
    go_ret
    exact ⟨X, xc, rfl, HB.out⟩

theorem extract_full (r : ByteArray) : r.extract 0 r.size = r := by
  have h : oct (r.extract 0 r.size) = oct r := by rw [oct_extract, List.drop_zero, Nat.sub_zero, List.take_of_length_le (by rw [oct_length]; omega)]
  rw [← mkB_oct (r.extract 0 r.size), h, mkB_oct]
theorem extract_none (r : ByteArray) : r.extract r.size r.size = ByteArray.empty := by
  have h : oct (r.extract r.size r.size) = [] := by rw [oct_extract, Nat.sub_self, List.take_zero]
  rw [← mkB_oct (r.extract r.size r.size), h]; rfl
set_option maxRecDepth 100000 in
set_option maxHeartbeats 3200000 in
theorem rpages_any (s : ByteArray) (w : World) (hs : s.size ≤ 1000000) :
    Calls Try.prog 53 #[.string s] w fun q w' => q = .returned (.int .i64 ((pagesP (oct s)).length : Nat)) ∧ Below w.heap.size w w' := by
  obtain ⟨t, ht⟩ : ∃ t, t = oct s := ⟨_, rfl⟩
  have htl : t.length ≤ 1000000 := by rw [ht, oct_length]; exact hs
  have HP0 : Hid (PgR w t 0 (.string s) (.slice none 0 0) w) := ⟨s, rfl, by rw [ht]; rfl, Nat.zero_le _, ⟨rfl, .inl ⟨rfl, rfl⟩⟩, Below.refl _ _⟩
  rw [← ht]
  clear ht hs
  go_enter Try.func53, Try.ntmps53
  go_upto_block 0 with (fail)
  go_cut [0, 3] from 4 to 22 (fun tv cv wc => PgR w t (KeepP.cells t.length) tv cv wc)
  case first =>
    go_wp2_with fail
    go_loopw [0, 3] (fun tv cv wr => ∃ j, PgR w t j tv cv wr) (fun tv _ _ => (match tv with | .string r => r.size | _ => 0))
    case atStart => exact ⟨0, HP0.out⟩
    case round =>
      clear HP0
      obtain ⟨j, r, rfl, hr, hj, hown, hb⟩ := hrel
      have hz : (t.drop (300 * j)).length = r.size := by rw [← hr, oct_length]
      rw [List.length_drop] at hz
      by_cases h0 : r.size = 0
      · have hjc : j = KeepP.cells t.length := by unfold KeepP.cells at *; omega
        subst hjc
        have x1 : ¬ 0 < r.size := by omega
        have x2 : (r.size : Int) = 0 := by omega
        have HF : Hid (PgR w t (KeepP.cells t.length) (.string r) u3 wr) := ⟨r, rfl, hr, Nat.le_refl _, hown, hb⟩
        clear hr hown hb hz hj
        go_wp2_with fail
        go_meet
        exact HF.out
      · have hp : (0 : Int) < (r.size : Int) := by omega
        have hp2 : 0 < r.size := by omega
        by_cases h3 : r.size < 300
        · have l1 : (r.size : Int) < 300 := by omega
          have l2 : (r.size : Int) ≤ (r.size : Int) := by omega
          obtain ⟨e1, e2⟩ := piece_next t j r hr r.size (by omega)
          have hj1 : j + 1 ≤ KeepP.cells t.length := by unfold KeepP.cells; omega
          have hown' : wr.ownsRow w.heap.size 9 1 u3 j (strs ((KeepP.piecesK t j).map mkB)) := hown
          have hbs := hb.size
          have hrl : j ≤ 1000000000000 := by unfold KeepP.cells at hj; omega
          rw [extract_full] at e1
          rw [extract_none] at e2
          have HB := hide hb
          have E1 := hide e1
          have E2 := hide e2
          obtain ⟨r2, hr2⟩ : ∃ r2, r2 = ByteArray.empty := ⟨_, rfl⟩
          have hz2 : r2.size < r.size := by rw [hr2]; exact hp2
          clear hr hz hown hb e1 e2 h0 hj
          go_wp2_with (at_builtin; refine wp_app_str rfl _ _ rfl w.heap.size _ _ _ hown' rfl _ rfl hrl hbs ?_; intro v2 w5 hA)
          have ho2 := hA.own
          rw [secV_snocB, E1.out, ← KeepP.piecesK_snoc] at ho2
          have hb2 := hA.below hown' HB.out (Nat.le_refl _) hbs
          rw [← hr2]
          have HF : Hid (PgR w t (j + 1) (.string r2) v2 w5) := ⟨r2, rfl, by rw [hr2]; exact E2.out, hj1, ho2, hb2⟩
          clear ho2 hb2 hA
          go_roundw
          case rel => exact ⟨j + 1, HF.out⟩
          case measure => exact hz2
        · have l1 : ¬ (r.size : Int) < 300 := by omega
          have l2 : (300 : Int) ≤ (r.size : Int) := by omega
          obtain ⟨e1, e2⟩ := piece_next t j r hr 300 (by omega)
          have hj1 : j + 1 ≤ KeepP.cells t.length := by unfold KeepP.cells; omega
          have hown' : wr.ownsRow w.heap.size 9 1 u3 j (strs ((KeepP.piecesK t j).map mkB)) := hown
          have hbs := hb.size
          have hrl : j ≤ 1000000000000 := by unfold KeepP.cells at hj; omega
          have HB := hide hb
          have E1 := hide e1
          have E2 := hide e2
          obtain ⟨r2, hr2⟩ : ∃ r2, r2 = r.extract 300 r.size := ⟨_, rfl⟩
          have hz2 : r2.size < r.size := by rw [hr2, ← oct_length, oct_extract, List.length_take, List.length_drop, oct_length]; omega
          clear hr hz hown hb e1 e2 h0 hj
          go_wp2_with (at_builtin; refine wp_app_str rfl _ _ rfl w.heap.size _ _ _ hown' rfl _ rfl hrl hbs ?_; intro v2 w5 hA)
          have ho2 := hA.own
          rw [secV_snocB, E1.out, ← KeepP.piecesK_snoc] at ho2
          have hb2 := hA.below hown' HB.out (Nat.le_refl _) hbs
          rw [← hr2]
          have HF : Hid (PgR w t (j + 1) (.string r2) v2 w5) := ⟨r2, rfl, by rw [hr2]; exact E2.out, hj1, ho2, hb2⟩
          clear ho2 hb2 hA
          go_roundw
          case rel => exact ⟨j + 1, HF.out⟩
          case measure => exact hz2
  case rest =>
    clear HP0
    revert wc
    intro wL hcut
    obtain ⟨r, rfl, hr, _, hown, hb⟩ := hcut
    have hpk : KeepP.piecesK t (KeepP.cells t.length) = KeepP.pieces t := rfl
    rw [hpk] at hown
    have hpl : (KeepP.pieces t).length = KeepP.cells t.length := KeepP.piecesK_len t _
    obtain ⟨A3, c3, rfl⟩ := own_shape hown
    have hsl : Sl wL (fun b => w.heap.size ≤ b) 1 A3 (KeepP.cells t.length) (strs ((KeepP.pieces t).map mkB)) := Sl.of_own hown
    have hcl : KeepP.cells t.length ≤ 100000 := by unfold KeepP.cells; omega
    have hfill := rfill_any A3 (KeepP.cells t.length) c3 ((KeepP.pieces t).map mkB) _ wL hsl (by omega) (fun s hs => by
      simp only [List.mem_map] at hs
      obtain ⟨b, hb, rfl⟩ := hs
      rw [mkB_size]
      have := KeepP.piecesK_le t _ b hb
      omega)
    rw [octs_map_mkB] at hfill
    have hpgl : (SlotP.fill (KeepP.pieces t)).length = (pagesP t).length := by rw [pagesP, List.length_map]
    rw [hpgl] at hfill
    have HFI := hide hfill
    have HB := hide hb
    clear hfill hb hsl hown hpl hcl hpk hr hpgl
    go_wp2_with fail
    refine HFI.out.mono ?_
    rintro q w8 ⟨A', c', rfl, hb8⟩
    go_wp2_with fail
    go_ret
    exact ⟨rfl, HB.out.trans (hb8.mono HB.out.size)⟩

end Go.Proofs.Yteoiadfcchalfaa

