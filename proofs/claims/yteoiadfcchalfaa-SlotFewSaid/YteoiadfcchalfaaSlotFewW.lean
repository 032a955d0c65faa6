/- The walk of the law SlotFew. -/
import Derived.Test.YteoiadfcchalfaaSlotFreeW
import Derived.Test.YteoiadfcchalfaaSlotFill
namespace Go.Proofs.Yteoiadfcchalfaa
open Go.RowKit
set_option linter.unusedVariables false

set_option maxRecDepth 100000 in
theorem run_app_strs {w : World} (ty : TypeId) (base : Nat) (v : Value) (n : Nat) (ss : List ByteArray) (hown : w.ownsRow base 9 1 v n (strs ss))
    (V : Nat → Prop) (A : Option Addr) (m c : Nat) (ts : List ByteArray) (hr : Sl w V 1 A m (strs ts)) (hn : n + m ≤ 1000000000000) (hbase : base ≤ w.heap.size) :
    ∃ v' w', (Builtin.append_ #[22, 22] ty #[v, .slice A m c]).run Try.prog w = .ok v' w' ∧ Apd w w' base 9 1 v v' (n + m) (strs (ss ++ ts)) := by
  obtain ⟨i0, hi, hz0, hz1, hz2⟩ := info_parts Try.info9
  have ht := Try.underlying22
  rw [strs_append]
  rcases A with _ | ad
  · have hm : m = 0 := by
      rcases Nat.eq_zero_or_pos m with h0 | h0
      · exact h0
      · obtain ⟨a, e, _⟩ := hr.2 h0; cases e
    subst hm
    have hn0 : ts = [] := List.eq_nil_of_length_eq_zero hr.len
    subst hn0
    refine ⟨v, w, ?_, by simpa [strs] using hown, World.grownBy.refl w _, .inl rfl⟩
    rcases hown.2 with ⟨rfl, rfl⟩ | ⟨g, cap, cur, rfl, _, _, hnc, _⟩
    · simp [Builtin.append_, run_underlying ht, sizeOf, typeInfo, hi, Builtin.lenOf, Builtin.firstCells]
    · simp [Builtin.append_, run_underlying ht, sizeOf, typeInfo, hi, Builtin.lenOf, Builtin.firstCells, hnc, storeCells]
  · have hcells : ∀ j u, (strs ts)[j]? = some u → w.cell? (ad.add j) = some u := by
      intro j u hu
      have hp : 0 < m := by
        rcases Nat.eq_zero_or_pos m with h0 | h0
        · have h2 := (List.getElem?_eq_some_iff.1 hu).1
          rw [hr.1, h0] at h2; omega
        · exact h0
      obtain ⟨a', e', _, _, hc⟩ := hr.2 hp
      injection e' with e'; subst e'
      exact hc j u hu
    obtain ⟨v', w', hrun, q1, q2, _, q4⟩ := run_append_own_at (P := Try.prog) w base 22 ty 9 i0 (.string .empty) 1 16 ht hi hz0 hz1 hz2 rfl (by decide) v n (strs ss) hown ad m c (strs ts) hr.1 hcells (strs_one ts)
      (by simp only [maxLen]; omega) (by omega) hbase
    exact ⟨v', w', hrun, q1, q2, q4.imp id fun q => ⟨_, q, Nat.le_refl _⟩⟩

/-- 'append(s, x...)' of two lists of strings, as a step of a region that draws -/
theorem step_app_strs {w : World} {ops : Array Oper} {K : Act → World → Prop} {E : Prop} {o : Oper} {a : Act} {Q : Exit → Act → World → Prop} (hgd : o.guard = none) (s x : Operand)
    (ho : o.op = .call { callee := .builtin .append, args := #[s, x], argTypes := #[22, 22] })
    (base : Nat) (v : Value) (n : Nat) (ss : List ByteArray) (hown : w.ownsRow base 9 1 v n (strs ss)) (hs : a.eval s = v)
    (V : Nat → Prop) (A : Option Addr) (m c : Nat) (ts : List ByteArray) (hr : Sl w V 1 A m (strs ts)) (hx : a.eval x = .slice A m c) (hn : n + m ≤ 1000000000000) (hbase : base ≤ w.heap.size)
    (h : ∀ v' w', Apd w w' base 9 1 v v' (n + m) (strs (ss ++ ts)) → K (a.put o.dst v') w') : if Region.wanted o (yielded ops a.tmps) = true then Oper.wp Try.prog o a w K Q else E := by
  have hw : Region.wanted o (yielded ops a.tmps) = true := by simp [Region.wanted, hgd]
  rw [if_pos hw]
  obtain ⟨v', w', hr, hA⟩ := run_app_strs o.type base v n ss hown V A m c ts hr hn hbase
  unfold Oper.wp execOp
  simp only [ho, resolve, invoke, builtin, Sem.run_bind, Sem.run_pure, Result.andThen_ok, List.map_toArray, List.map_cons, List.map_nil, hs, hx, hr]
  exact h v' w' hA

/-- a guard: the step's result goes into slot n -/
theorem at_dst (n : Nat) {P : Program} {op : Op} {t : TypeId} {pos : String} {after : Array Edge} {gd : Option (Nat × Bool)} {y : Nat → Option Bool} {a : Act} {w : World} {K : Act → World → Prop} {Q : Exit → Act → World → Prop} {E : Prop}
    (h : if Region.wanted ⟨some n, op, t, pos, after, gd⟩ y = true then Oper.wp P ⟨some n, op, t, pos, after, gd⟩ a w K Q else E) :
    if Region.wanted ⟨some n, op, t, pos, after, gd⟩ y = true then Oper.wp P ⟨some n, op, t, pos, after, gd⟩ a w K Q else E := h
theorem strs_take (L : List ByteArray) (k : Nat) : strs (L.take k) = (strs L).take k := by simp [strs]
theorem strs_drop (L : List ByteArray) (k : Nat) : strs (L.drop k) = (strs L).drop k := by simp [strs]
theorem strs_len (L : List ByteArray) : (strs L).length = L.length := by simp [strs]

/-- what the loop has counted after k cells -/
def few2 (L : List ByteArray) (k : Nat) : Nat := 2 * SlotP.cost (octs (L.take k))
theorem few2_succ {L : List ByteArray} {k : Nat} {s : ByteArray} (h : L[k]? = some s) : few2 L (k + 1) = few2 L k + (2 * s.size + 4) := by
  have h1 : k < L.length := (List.getElem?_eq_some_iff.1 h).1
  have h2 : L[k] = s := (List.getElem?_eq_some_iff.1 h).2
  rw [few2, few2, List.take_succ_eq_append_getElem h1, octs_append, SlotP.cost_append, h2, octs_cons, octs_nil]
  simp [SlotP.cost, SlotP.sumLen]
  omega
theorem cost_le (L : List ByteArray) (h : ∀ s ∈ L, s.size ≤ 1001) : SlotP.cost (octs L) ≤ 1003 * L.length := by
  induction L with
  | nil => simp [octs, SlotP.cost, SlotP.sumLen]
  | cons s L ih =>
    have h1 := h s (by simp)
    have h2 := ih fun t ht => h t (by simp [ht])
    have := SlotP.cost_append [oct s] (octs L)
    have h3 : SlotP.cost [oct s] = 2 + s.size := by simp [SlotP.cost, SlotP.sumLen]
    rw [octs_cons, show oct s :: octs L = [oct s] ++ octs L from rfl, this, h3, List.length_cons]
    omega
theorem few2_take_le (L : List ByteArray) (k : Nat) (h : ∀ s ∈ L, s.size ≤ 1001) : few2 L k ≤ 2006 * L.length := by
  have := cost_le (L.take k) fun s hs => h s (List.mem_of_mem_take hs)
  have h2 := List.length_take_le k L
  have h3 : (L.take k).length ≤ L.length := by rw [List.length_take]; omega
  simp only [few2]
  omega

set_option maxRecDepth 100000 in
set_option maxHeartbeats 8000000 in
theorem slotFew_walk (A : Option Addr) (n c : Nat) (ss : List ByteArray) (z : Int) (w : World) (h : Sl w (fun _ => True) 1 A n (strs ss)) (hn : n ≤ 9223372036854775807) (hz0 : 0 ≤ z) (hz1 : z ≤ 255) :
    Calls Try.prog 4 #[.slice A n c, .int .u8 z] w fun e w' => e = .returned (.bool true) ∧ Below w.heap.size w w' := by
  go_enter Try.func4, Try.ntmps4
  go_wp2_with fail
  refine (few_any A n c ss _ _ h hn).mono ?_
  rintro e w1 ⟨v1, rfl, ho1, hb1⟩
  obtain ⟨A1, c1, hv1⟩ := own_shape ho1
  subst hv1
  have hL := fewP_length ss
  have hLs := fewP_size ss
  have hs1 := (Sl.of_own ho1).any
  have hcap1 := ho1.form
  clear h
  generalize fewP ss = L at *
  obtain ⟨nl, hnl⟩ : ∃ nl, nl = L.length := ⟨_, rfl⟩
  rw [← hnl] at hL hs1 ho1 hcap1 ⊢
  have HNL := hide hnl
  have HLS := hide hLs
  have HCAP := hide hcap1
  clear hnl hLs hcap1
  have hfitA := fits_any A1 nl c1 L _ w1 hs1 (by omega)
  cases hf1 : SlotP.fits (octs L) with
  | false =>
    rw [hf1] at hfitA
    have hln := lay_no A1 nl c1 L _ _ hs1 (by omega) hf1
    clear hf1
    go_wp2_with fail
    refine hfitA.mono ?_
    rintro e w4 ⟨rfl, rfl⟩
    go_wp2_with fail
    refine hln.mono ?_
    rintro e w4 ⟨rfl, rfl⟩
    go_wp2_with fail
    refine (awake_end hb1).mono ?_
    rintro e w6 ⟨rfl, hb6⟩
    go_wp2_with fail
    go_ret
    exact ⟨rfl, hb6⟩
  | true =>
    rw [hf1] at hfitA
    have hle : ∀ s ∈ L ++ L, s.size ≤ 1000 := by
      intro s hs
      have hm : oct s ∈ octs L := mem_octs.2 ⟨s, by rcases List.mem_append.1 hs with h | h <;> exact h, rfl⟩
      have := (SlotP.fits_iff _).1 hf1
      have := this.2.1 _ hm
      rwa [oct_length] at this
    have HLE := hide hle
    have HF1 := hide hf1
    clear hf1 hle
    go_wp2_with fail
    refine hfitA.mono ?_
    rintro e w4 ⟨rfl, rfl⟩
    clear hfitA
    have hs1a := hs1.below ((Below.refl _ w1).alloc (Nat.le_refl _) (.cells #[] 9))
    have hbba := hb1.alloc hb1.size (.cells #[] 9)
    have hbBa := (Below.refl w1.heap.size w1).alloc (Nat.le_refl _) (.cells #[] 9)
    go_wp2_with (at_builtin; refine wp_app_strs rfl _ _ rfl w1.heap.size _ _ [] (own_empty w1) rfl _ _ _ _ L hs1a rfl (by omega) (by simp) ?_; intro v6 w6 hA6; rw [Nat.zero_add, List.nil_append] at hA6; obtain ⟨A6, c6, hv6⟩ := own_shape hA6.own; subst hv6; have hb6 := hA6.below (own_empty w1) hbba hb1.size hbba.size; have hbB6 := hA6.below (own_empty w1) hbBa (Nat.le_refl _) hbBa.size; have hs6 := hs1.below hbB6; have ho6 := hA6.own; have hz6 := hbB6.size; clear hA6; go_wp2_with (at_builtin; refine wp_app_strs rfl _ _ rfl w1.heap.size _ _ _ ho6 rfl _ _ _ _ L hs6 rfl (by omega) (by omega) ?_; intro v7 w7 hA7; obtain ⟨A7, c7, hv7⟩ := own_shape hA7.own; subst hv7))
    have hb7 := hA7.below ho6 hb6 hb1.size hb6.size
    have hbB7 := hA7.below ho6 hbB6 (Nat.le_refl _) hbB6.size
    have hs7 := (Sl.of_own hA7.own).any
    clear hA7 ho6
    refine (fill_yes A7 (nl + nl) c7 (L ++ L) _ _ hs7 (by omega) HLE.out).mono ?_
    rintro e w8 ⟨v8, vals, ll, rfl, ho8, _, hll, hb8⟩
    obtain ⟨A8, c8, hv8⟩ := own_shape ho8
    subst hv8
    have hb8' := hb7.trans (hb8.mono hb7.size)
    have hbB8 := hbB7.trans (hb8.mono hbB7.size)
    have hs8 := hs1.below hbB8
    have hfo := SlotP.fill_ok (octs (L ++ L)) (fun c hc => by obtain ⟨s, hs, rfl⟩ := mem_octs.1 hc; rw [oct_length]; exact HLE.out s hs)
    rw [← hll] at hfo
    obtain ⟨hfo1, hfo2⟩ := hfo
    have hcost := SlotP.cost_flatten_le _ fun l hl => (hfo1 l hl).1
    have hflat := SlotP.length_le_flatten _ fun l hl => (hfo1 l hl).2
    rw [hfo2] at hcost hflat
    rw [octs_append, SlotP.cost_append, List.length_map] at hcost
    rw [octs_length, List.length_append, ← HNL.out, List.length_map] at hflat
    have hq : ∃ q, q = SlotP.cost (octs L) := ⟨_, rfl⟩
    obtain ⟨q, hq⟩ := hq
    rw [← hq] at hcost
    have HQ := hide hq
    clear hll hfo1 hfo2 hq ho8
    generalize ll.length = m8 at *
    go_wp2_with fail
    go_loopw [9, 10] (fun v i wr => ∃ k : Nat, k ≤ nl ∧ i = .int .i64 k ∧ v = .int .i64 (few2 L k : Nat) ∧ wr = w8) (fun _ i _ => nl - (intOf i).toNat)
    case atStart => exact ⟨0, Nat.zero_le _, rfl, by simp [few2, SlotP.cost, SlotP.sumLen, octs], rfl⟩
    case round =>
      obtain ⟨k, hk, rfl, rfl, rfl⟩ := hrel
      by_cases hend : k = nl
      · subst hend
        have hfin : few2 L k = 2 * q := by rw [few2, HNL.out, List.take_length, HQ.out]
        rw [hfin]
        by_cases h0 : k = 0
        · subst h0
          go_wp2_with fail
          refine (awake_end hb8').mono ?_
          rintro e w9 ⟨rfl, hb9⟩
          go_wp2_with fail
          go_ret
          exact ⟨rfl, hb9⟩
        · have hmod : z % k < k ∧ 0 ≤ z % k := ⟨Int.emod_lt_of_pos _ (by omega), Int.emod_nonneg _ (by omega)⟩
          go_wp2_with fail
          obtain ⟨d, hd, hdk⟩ : ∃ d : Nat, z % (k : Int) = (d : Int) ∧ d < k := ⟨(z % (k : Int)).toNat, by omega, by omega⟩
          rw [hd]
          clear hd hmod
          have HCOST := hide hcost
          have HFLAT := hide hflat
          clear hcost hflat
          have hcd := own_cap ho1
          have hsT : Sl (wr.alloc (.cells #[] 9)) (fun _ => True) 1 A1 d (strs (L.take d)) := by
            rw [strs_take]
            exact (hs8.below ((Below.refl _ wr).alloc (Nat.le_refl _) (.cells #[] 9))).take (Nat.le_of_lt hdk)
          have hbbx := hb8'.alloc hb8'.size (.cells #[] 9)
          have hbBx := (Below.refl wr.heap.size wr).alloc (Nat.le_refl _) (.cells #[] 9)
          have hsub : SlotP.fits (octs (L.take d ++ L.drop (d + 1))) = true := by
            have h1 := HF1.out
            have hd1 : d < L.length := by have := HNL.out; omega
            rw [← List.take_append_drop d L, List.drop_eq_getElem_cons hd1, octs_append, octs_cons] at h1
            rw [octs_append]
            exact SlotP.fits_sub _ [oct L[d]] _ (by simpa using h1)
          have HSUB := hide hsub
          clear hsub
          have hlenT : (L.take d).length = d := by have := HNL.out; rw [List.length_take]; omega
          have hlenD : (L.drop (d + 1)).length = k - (d + 1) := by have := HNL.out; rw [List.length_drop]; omega
          have hdc1 : d ≤ c1 := by omega
          have hdci : (d : Int) ≤ (c1 : Int) := by omega
          have hdk1 : d + 1 ≤ k := by omega
          have hdki : (d : Int) + 1 ≤ (k : Int) := by omega
          have hd0 : 0 + d ≤ 1000000000000 := by omega
          have hdD : d + (k - (d + 1)) ≤ 1000000000000 := by omega
          have hdF : d + (k - (d + 1)) ≤ 9223372036854775807 := by omega
          clear hfin
          have hsDx : ∀ w9, Below wr.heap.size wr w9 → Sl w9 (fun _ => True) 1 (if c1 = d + 1 then A1 else Option.map (fun x => x.add (d + 1)) A1) (k - (d + 1)) (strs (L.drop (d + 1))) := by
            intro w9 h9
            have h := (hs8.below h9).cut (k := d + 1) (m := k) (cap := c1) (by omega) (Nat.le_refl _) hcd
            simp only [Nat.mul_one] at h
            rw [strs_drop]
            have e : (((strs L).drop (d + 1)).take (k - (d + 1))) = (strs L).drop (d + 1) := by
              rw [List.take_of_length_le]
              rw [List.length_drop, strs_len, ← HNL.out]; exact Nat.le_refl _
            rw [e] at h
            exact h
          have hdt : ((d : Int) + 1).toNat = d + 1 := by omega
          have hdp : 0 ≤ (d : Int) + 1 := by omega
          have hdw : IntKind.i64.wrap ((d : Int) + 1) = (d : Int) + 1 := IntWalk.i64_in _ (by omega)
          go_region_law (first
            | ((with_reducible refine at_dst 81 ?_); refine step_app_strs rfl _ _ rfl wr.heap.size _ _ [] (own_empty wr).drew rfl _ _ _ _ (L.take d) hsT.drew rfl hd0 (Nat.le_of_lt (by simp)) ?_; intro v9 w9 hA9; rw [Nat.zero_add, List.nil_append] at hA9; obtain ⟨A9, c9, hv9⟩ := own_shape hA9.own; subst hv9; have hb9 := hA9.below (own_empty wr).drew hbbx.drew hb8'.size hbbx.drew.size; have hbB9 := hA9.below (own_empty wr).drew hbBx.drew (Nat.le_refl _) hbBx.drew.size; have hsD := hsDx w9 hbB9; have ho9 := hA9.own; have hz9 := hbB9.size; have hz99 := hb9.size; clear hA9 hsDx)
            | ((with_reducible refine at_dst 86 ?_); refine step_app_strs rfl _ _ rfl wr.heap.size _ _ _ ho9 rfl _ _ _ _ (L.drop (d + 1)) hsD rfl hdD hz9 ?_; intro v10 w10 hA10; obtain ⟨A10, c10, hv10⟩ := own_shape hA10.own; subst hv10; have hb10 := hA10.below ho9 hb9 hb8'.size hz99; have hs10 := (Sl.of_own hA10.own).any; clear hA10)
            | ((with_reducible refine at_dst 87 ?_); go_simp; go_at_call 25; refine (fits_any _ _ _ _ _ _ hs10 hdF).mono ?_; rw [HSUB.out]; rintro e w11 ⟨rfl, rfl⟩)
            | ((with_reducible refine at_dst 89 ?_); go_simp; go_at_call 23; refine (awake_end hb10).mono ?_; rintro e w12 ⟨rfl, hb12⟩))
          all_goals go_wp2_with fail
          all_goals go_ret
          all_goals exact ⟨rfl, hb12⟩
      · have hlt : k < nl := by omega
        obtain ⟨a, s, hA, hg, hc⟩ := Sl.str hs8 hlt
        have hn1 := few2_succ hg
        have hb1 := few2_take_le L (k + 1) HLS.out
        rw [← HNL.out] at hb1
        subst hA
        obtain ⟨x, hx⟩ : ∃ x, few2 L k = x := ⟨_, rfl⟩
        rw [hx] at hn1 ⊢
        rw [hn1] at hb1
        have hw2 : wrap64 (2 * (s.size : Int)) = 2 * (s.size : Int) := IntWalk.wrap64_in _ (by omega)
        have hw3 : wrap64 (2 * (s.size : Int) + 4) = 2 * (s.size : Int) + 4 := IntWalk.wrap64_in _ (by omega)
        have hw4 : wrap64 ((x : Int) + (2 * (s.size : Int) + 4)) = (x : Int) + (2 * (s.size : Int) + 4) := IntWalk.wrap64_in _ (by omega)
        have HN1 := hide hn1
        clear hn1 hx hb1 hg hcost hflat hs1 hs1a hbba hbBa hb6 hbB6 hs6 hb7 hbB7 hs7 hb8 hbB8 ho1 hs8
        go_wp2_with fail
        go_roundw
        case rel => exact ⟨k + 1, by omega, by go_num, by have h1 := HN1.out; rw [h1]; go_num, trivial⟩
        case measure => simp [intOf]; omega

end Go.Proofs.Yteoiadfcchalfaa
