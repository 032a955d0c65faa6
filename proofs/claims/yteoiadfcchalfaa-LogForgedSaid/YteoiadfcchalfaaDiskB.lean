/- The walks of layer 17: slices.Clone of sectors, done, Barrier, Budget. -/
import Derived.Test.YteoiadfcchalfaaDiskA
namespace Go.Proofs.Yteoiadfcchalfaa
open Go.RowKit
open DiskP (Bytes Disk Wr)
set_option linter.unusedVariables false

/-- an append of a slice of strings whose cells are known -/
theorem app_str {w : World} {ops : Array Oper} {rest : List Oper} {o : Oper} {a : Act} {Q : Exit → Act → World → Prop} (hgd : o.guard = none) (s x : Operand)
    (ho : o.op = .call { callee := .builtin .append, args := #[s, x], argTypes := #[22, 22] })
    (base : Nat) (v : Value) (n : Nat) (xs : List Value) (hown : w.ownsRow base 9 1 v n xs) (hs : a.eval s = v)
    (V : Nat → Prop) (A : Option Addr) (m c : Nat) (news : List Value) (hx : a.eval x = .slice A m c) (hr : Sl w V 1 A m news) (h1 : ∀ u ∈ news, u.oneCell' = true) (hn : n + m ≤ 1000000000000) (hbase : base ≤ w.heap.size)
    (h : ∀ v' w', Apd w w' base 9 1 v v' (n + m) (xs ++ news) → wpList Try.prog ops Q rest (a.put o.dst v') w') : wpList Try.prog ops Q (o :: rest) a w := by
  obtain ⟨i0, hi, hz0, hz1, hz2⟩ := info_parts Try.info9
  exact wp_app (P := Try.prog) hgd s x 22 ho base 9 i0 (.string .empty) 1 16 Try.underlying22 hi hz0 hz1 hz2 rfl (by decide) v n xs hown hs V A m c news hx hr h1 (by simp only [maxLen]; omega) (by omega) hbase h

theorem own_form {w : World} {base : Nat} {e : TypeId} {size n : Nat} {v : Value} {xs : List Value} (h : w.ownsRow base e size v n xs) (hn : 0 < n) : ∃ g cap, v = .slice (some ⟨g, 0, none⟩) n cap ∧ base ≤ g ∧ g < w.heap.size ∧ n ≤ cap := by
  rcases h.2 with ⟨rfl, rfl⟩ | ⟨g, cap, cur, rfl, hb, hg, hnc, _⟩
  · omega
  · exact ⟨g, cap, rfl, hb, (Array.getElem?_eq_some_iff.1 hg).1, hnc⟩

set_option maxRecDepth 100000 in
set_option maxHeartbeats 800000 in
theorem clone_str (A : Option Addr) (n c : Nat) (xs : List Value) (V : Nat → Prop) (w : World) (h : Sl w V 1 A n xs) (hn : n ≤ 1000000000) (h1 : ∀ u ∈ xs, u.oneCell' = true) :
    Calls Try.prog 75 #[.slice A n c] w fun e w' => ∃ v, e = .returned v ∧ w'.ownsRow w.heap.size 9 1 v n xs ∧ Below w.heap.size w w' := by
  have heq : ∀ w, (binOp .eql 22 (.slice A n c) (.slice none 0 0)).run Try.prog w = .ok (.bool A.isNone) w := fun w => by
    have := Lib.run_eql_slice_nil (P := Try.prog) w 22 9 A n c 0 0 Try.underlying22
    simpa using this
  have hone := h1
  have HO := hide hone
  clear h1 hone
  rcases A with _ | a
  · have hz : n = 0 := by
      rcases Nat.eq_zero_or_pos n with h0 | h0
      · exact h0
      · obtain ⟨a, e, _⟩ := h.2 h0; cases e
    subst hz
    have hx : xs = [] := List.eq_nil_of_length_eq_zero (by simpa using h.1)
    subst hx
    clear h
    go_enter Try.func75, Try.ntmps75
    go_wp2_with fail
    go_ret
    exact ⟨_, rfl, World.ownsRow_nil w _ _ _, Below.refl _ _⟩
  · have hb : Below w.heap.size w (w.alloc (.cells #[] 9)) := (Below.refl _ _).alloc (Nat.le_refl _) _
    have ho : (w.alloc (.cells #[] 9)).ownsRow w.heap.size 9 1 (.slice (some ⟨w.heap.size, 0, none⟩) 0 0) 0 [] := World.ownsRow_made w #[] 0 (Nat.le_refl _) (Nat.zero_le _) (by simp)
    have hs := h.below hb
    clear h
    go_enter Try.func75, Try.ntmps75
    go_wp2_with (at_builtin; refine app_str rfl _ _ rfl w.heap.size _ _ _ ho rfl _ _ _ _ xs rfl hs HO.out (by omega) (by simp) ?_; intro v' w2 hA)
    have hb2 := hA.below ho hb (Nat.le_refl _) (by simp)
    have ho2 := hA.own
    rw [Nat.zero_add, List.nil_append] at ho2
    go_ret
    exact ⟨_, rfl, ho2, hb2⟩

/-! ### done -/

theorem own_mono {w : World} {base base' : Nat} {e : TypeId} {size n : Nat} {v : Value} {xs : List Value} (h : w.ownsRow base e size v n xs) (hb : base' ≤ base) : w.ownsRow base' e size v n xs :=
  ⟨h.1, h.2.imp id fun ⟨g, cap, cur, a, b, c⟩ => ⟨g, cap, cur, a, Nat.le_trans hb b, c⟩⟩

theorem doneGo_take {S : List Bytes} {W : List Wr} {k : Nat} {x : Wr} (h : W[k]? = some x) : DiskP.doneGo S (W.take (k + 1)) = (DiskP.doneGo S (W.take k)).set x.at_.toNat x.s := by
  have h1 : k < W.length := (List.getElem?_eq_some_iff.1 h).1
  have h2 : W[k] = x := (List.getElem?_eq_some_iff.1 h).2
  rw [List.take_succ_eq_append_getElem h1, h2]
  simp [DiskP.doneGo, List.foldl_append]
theorem secV_set (S : List Bytes) (k : Nat) (s : Bytes) : (secV S).set k (.string (mkB s)) = secV (S.set k s) := by
  simp only [secV, strs, List.map_set]

set_option maxRecDepth 100000 in
set_option maxHeartbeats 1600000 in
theorem done_any (A : Option Addr) (n c : Nat) (B : Option Addr) (m e : Nat) (d : Disk) (V : Nat → Prop) (w : World) (h : Dk w V A n c B m e d) (hm : DiskP.may d = true) :
    Calls Try.prog 73 #[dkv A n c B m e d.left d.dead] w fun q w' => ∃ v, q = .returned v ∧ w'.ownsRow w.heap.size 9 1 v n (secV (DiskP.done d)) ∧ Below w.heap.size w w' := by
  have hlen := h.len
  have hwlen := h.wlen
  have hn := h.nle
  have hmle := h.mle
  have hmw := ((DiskP.may_iff d).1 hm).2.2.2.2
  have hn1 := ((DiskP.may_iff d).1 hm).1
  rw [hlen] at hmw hn1
  clear hm
  obtain ⟨lf, hlf⟩ : ∃ lf, lf = d.left := ⟨_, rfl⟩
  obtain ⟨dd, hdd⟩ : ∃ dd, dd = d.dead := ⟨_, rfl⟩
  rw [← hlf, ← hdd]
  clear hlf hdd
  have hb : Below w.heap.size w (w.alloc (.cells #[.slice A n c, .slice B m e, .int .i64 lf, .bool dd] 50)) := (Below.refl _ _).alloc (Nat.le_refl _) _
  have hL := h.lt.below hb
  have HMW := hide hmw
  have HLEN := hide hlen
  have HWLEN := hide hwlen
  clear hmw hlen hwlen h
  go_enter Try.func73, Try.ntmps73
  go_wp2_with fail
  refine (clone_str A n c _ _ _ hL.sS hn (secV_one _)).mono ?_
  rintro q w1 ⟨v1, rfl, ho1, hb1⟩
  obtain ⟨g, cap, hv1, hg1, hg2⟩ := ho1.form (by omega)
  subst hv1
  have hc1 : w1.cell? ⟨w.heap.size, 1, none⟩ = some (.slice B m e) := bcell hb1 (by simp) (by simp [go_sem])
  have hbw1 := hb.trans (hb1.mono hb.size)
  have hL1 := hL.below hb1
  rw [World.size_alloc] at ho1 hb1 hg1
  go_wp2_with fail
  go_loopw [12] (fun i wr => ∃ j : Nat, j ≤ m ∧ i = .int .i64 j ∧ wr.ownsRow (w.heap.size + 1) 9 1 (.slice (some ⟨g, 0, none⟩) n cap) n (secV (DiskP.doneGo d.S (d.W.take j))) ∧ Below (w.heap.size + 1) w1 wr) (fun i _ => m - (intOf i).toNat)
  case atStart => exact ⟨0, Nat.zero_le _, rfl, ho1, Below.refl _ _⟩
  case round =>
    obtain ⟨j, hj, rfl, hown, hbr⟩ := hrel
    by_cases hlt : j < m
    · have hz : w1.heap.size ≤ wr.heap.size := hbr.size
      have hgr : g < wr.heap.size := by omega
      obtain ⟨a, x, hA, hx, hcx1, hcx2⟩ := (hL1.keep hbr.size fun b hv _ => hbr.block b (by omega)).wr hlt
      subst hA
      obtain ⟨y1, y2, y3⟩ := HMW.out x (List.mem_of_getElem? hx)
      obtain ⟨p, hp⟩ : ∃ p : Nat, x.at_ = p := ⟨x.at_.toNat, by omega⟩
      have hpn : p < n := by omega
      rw [hp] at hcx1
      obtain ⟨bs, hbs⟩ : ∃ bs, bs = mkB x.s := ⟨_, rfl⟩
      rw [← hbs] at hcx2
      have hc : ∃ u, wr.cell? ⟨g, p, none⟩ = some u := by
        rw [hown.cellAt p (by omega)]
        exact ⟨_, List.getElem?_eq_getElem (by have := hown.1; omega)⟩
      obtain ⟨u, hc⟩ := hc
      have hf := hown.frozenAt p
      have hst := (hown.stored p (.string bs)).1.alloc (.cells #[.int .i64 p, .string bs] 55)
      have e : (secV (DiskP.doneGo d.S (d.W.take j))).set p (.string bs) = secV (DiskP.doneGo d.S (d.W.take (j + 1))) := by
        rw [doneGo_take hx, hbs, secV_set, hp, Int.toNat_natCast]
      rw [e] at hst
      have HST := hide hst
      have HBR := hide ((hbr.setCell (p := ⟨g, p, none⟩) (by show w.heap.size + 1 ≤ g; exact hg1) (.string bs)).alloc (by simp; omega) (.cells #[.int .i64 p, .string bs] 55))
      clear hst e hown hx y1 y2 y3 hp hbs hbr
      go_wp2_with fail
      go_roundw
      case rel => exact ⟨j + 1, by omega, by go_num, HST.out, HBR.out⟩
      case measure => simp [intOf]; omega
    · have hjm : j = m := by omega
      subst hjm
      rw [List.take_of_length_le (by have := HWLEN.out; omega)] at hown
      go_wp2_with fail
      go_ret
      exact ⟨_, rfl, own_mono hown (Nat.le_succ _), hbw1.trans (hbr.mono (Nat.le_succ _))⟩

/-! ### Barrier -/

theorem spent_S (d : Disk) : (DiskP.spent d).S = d.S := by
  unfold DiskP.spent
  repeat (first | rfl | split)
theorem spent_W (d : Disk) : (DiskP.spent d).W = d.W := by
  unfold DiskP.spent
  repeat (first | rfl | split)
theorem spent_hi (d : Disk) (h : d.left ≤ 9223372036854775807) : (DiskP.spent d).left ≤ 9223372036854775807 := by
  unfold DiskP.spent
  split
  · exact h
  · split
    · show d.left - 1 ≤ _; omega
    · exact h
theorem may_left {d : Disk} (h : DiskP.may d = true) : -1 ≤ d.left := ((DiskP.may_iff d).1 h).2.2.1

set_option maxRecDepth 100000 in
set_option maxHeartbeats 1600000 in
theorem barrier_any (A : Option Addr) (n c : Nat) (B : Option Addr) (m e : Nat) (d : Disk) (V : Nat → Prop) (w : World) (h : Dk w V A n c B m e d) (hm : DiskP.may d = true) :
    Calls Try.prog 35 #[dkv A n c B m e d.left d.dead] w fun q w' => ∃ v, q = .returned (.tuple #[v, .int .i64 ((DiskP.barrier d).2 : Nat)]) ∧ DkV w' (fun b => V b ∨ w.heap.size ≤ b) v (DiskP.barrier d).1 ∧ Below w.heap.size w w' := by
  have hl := may_left hm
  have hhi := h.hi
  have hB1 := Box.new w 50 #[.slice A n c, .slice B m e, .int .i64 d.left, .bool d.dead]
  have hB2 := hB1.up (.cells #[.slice none 0 0, .slice none 0 0, .int .i64 0, .bool false] 50)
  have hB3 := Box.new (w.alloc (.cells #[.slice A n c, .slice B m e, .int .i64 d.left, .bool d.dead] 50)) 50 #[.slice none 0 0, .slice none 0 0, .int .i64 0, .bool false]
  rw [World.size_alloc] at hB3
  have hb : Below w.heap.size w ((w.alloc (.cells #[.slice A n c, .slice B m e, .int .i64 d.left, .bool d.dead] 50)).alloc (.cells #[.slice none 0 0, .slice none 0 0, .int .i64 0, .bool false] 50)) := ((Below.refl _ _).alloc (Nat.le_refl _) _).alloc (by simp) _
  obtain ⟨lf, hlf⟩ : ∃ lf, lf = d.left := ⟨_, rfl⟩
  obtain ⟨dd, hdd⟩ : ∃ dd, dd = d.dead := ⟨_, rfl⟩
  have hma := fun w1 hD => may_any A n c B m e d V w1 hD
  have hsp := fun w1 => spend_any A n c B m e d w1 hl hhi
  have hdo := fun w1 hD => done_any A n c B m e d V w1 hD hm
  rw [hm] at hma
  rw [← hlf, ← hdd] at hB1 hB2 hB3 hb hma hsp hdo ⊢
  have hD := h.below hb
  cases ha : DiskP.alive d with
  | false =>
    have hR : DiskP.barrier d = (DiskP.spent d, 14) := by rw [DiskP.barrier, hm, ha]; rfl
    rw [hR]
    have hfin : ∀ w', Below w.heap.size w w' → DkV w' (fun b => V b ∨ w.heap.size ≤ b) (dkv A n c B m e (DiskP.spent d).left (DiskP.spent d).dead) (DiskP.spent d) := fun w' hb' =>
      ⟨A, n, c, B, m, e, rfl, ((h.below hb').mono fun _ hv => .inl hv).other (spent_S d) (spent_W d) (spent_hi d hhi)⟩
    rw [ha] at hsp
    obtain ⟨lf', hlf'⟩ : ∃ lf, lf = (DiskP.spent d).left := ⟨_, rfl⟩
    obtain ⟨dd', hdd'⟩ : ∃ dd, dd = (DiskP.spent d).dead := ⟨_, rfl⟩
    rw [← hlf', ← hdd'] at hsp hfin
    have HF := hide hfin
    have HMA := hide hma
    have HSP := hide hsp
    clear hfin hma hsp hdo hlf hdd hlf' hdd' hR ha
    go_enter Try.func35, Try.ntmps35
    go_wp2_with fail
    refine (HMA.out _ hD).mono ?_
    rintro q w1 ⟨rfl, hb1⟩
    have kB1 := hB2.belowS hb1
    have kB2 := hB3.belowS hb1
    have hbw1 := hb.trans (hb1.mono hb.size)
    obtain ⟨p0, p1, p2, p3⟩ := kB1.cell4
    go_wp2_with fail
    refine (HSP.out _).mono ?_
    rintro q w2 ⟨rfl, hb2⟩
    clear p0 p1 p2 p3
    have kB3 := kB2.belowS hb2
    have hbw2 := hbw1.trans (hb2.mono hbw1.size)
    obtain ⟨p0, p1, p2, p3⟩ := kB3.cell4
    have f0 := kB3.frozen 0
    have f1 := kB3.frozen 1
    have f2 := kB3.frozen 2
    have f3 := kB3.frozen 3
    have hlt := kB3.lt
    go_wp2_with fail
    have kB4 := (kB3.set4 (u0 := .slice A n c) (u1 := .slice B m e) (u2 := .int .i64 lf') (u3 := .bool dd')).up (.cells #[.slice A n c, .slice B m e, .int .i64 lf', .bool dd'] 50)
    have hbF := (below_set4 (u0 := .slice A n c) (u1 := .slice B m e) (u2 := .int .i64 lf') (u3 := .bool dd') hbw2 (Nat.le_succ w.heap.size)).alloc (by simp; exact hbw2.size) (.cells #[.slice A n c, .slice B m e, .int .i64 lf', .bool dd'] 50)
    obtain ⟨s0, s1, s2, s3⟩ := kB4.cell4
    exact bodyPost_ret (v := .tuple #[dkv A n c B m e lf' dd', .int .i64 14]) (by simp [results, Try.results35, go_sem, s0, s1, s2, s3]) rfl ⟨_, rfl, HF.out _ hbF, hbF⟩
  | true =>
    have hR : DiskP.barrier d = (⟨DiskP.done d, [], (DiskP.spent d).left, (DiskP.spent d).dead⟩, 0) := by rw [DiskP.barrier, hm, ha]; rfl
    rw [hR]
    have hdl : (DiskP.done d).length = n := by rw [DiskP.done, DiskP.doneGo_len]; exact h.len
    have hn1 : 0 < n := by have := ((DiskP.may_iff d).1 hm).1; rw [h.len] at this; omega
    have hnle := h.nle
    have hhi2 := spent_hi d hhi
    rw [ha] at hsp
    obtain ⟨lf', hlf'⟩ : ∃ lf, lf = (DiskP.spent d).left := ⟨_, rfl⟩
    obtain ⟨dd', hdd'⟩ : ∃ dd, dd = (DiskP.spent d).dead := ⟨_, rfl⟩
    rw [← hlf'] at hhi2
    rw [← hlf', ← hdd'] at hsp ⊢
    show Calls Try.prog 35 #[dkv A n c B m e lf dd] w fun q w' => ∃ v, q = .returned (.tuple #[v, .int .i64 0]) ∧ DkV w' (fun b => V b ∨ w.heap.size ≤ b) v ⟨DiskP.done d, [], lf', dd'⟩ ∧ Below w.heap.size w w'
    have HMA := hide hma
    have HSP := hide hsp
    have HDO := hide hdo
    have HDL := hide hdl
    clear hma hsp hdo hlf hdd hlf' hdd' hR ha hdl
    go_enter Try.func35, Try.ntmps35
    go_wp2_with fail
    refine (HMA.out _ hD).mono ?_
    rintro q w1 ⟨rfl, hb1⟩
    have kA1 := hB2.belowS hb1
    have kB1 := hB3.belowS hb1
    have hbw1 := hb.trans (hb1.mono hb.size)
    obtain ⟨p0, p1, p2, p3⟩ := kA1.cell4
    go_wp2_with fail
    refine (HSP.out _).mono ?_
    rintro q w2 ⟨rfl, hb2⟩
    clear p0 p1 p2 p3
    have kA2 := (kA1.belowS hb2).up (.cells #[.slice A n c, .slice B m e, .int .i64 lf', .bool dd'] 50)
    have kB2 := (kB1.belowS hb2).up (.cells #[.slice A n c, .slice B m e, .int .i64 lf', .bool dd'] 50)
    have kC2 := Box.new w2 50 #[.slice A n c, .slice B m e, .int .i64 lf', .bool dd']
    have hbw2 := (hbw1.trans (hb2.mono hbw1.size)).alloc (hbw1.trans (hb2.mono hbw1.size)).size (.cells #[.slice A n c, .slice B m e, .int .i64 lf', .bool dd'] 50)
    have hlt2 : w.heap.size + 1 < w2.heap.size := by have h1 := (kB1.belowS hb2).lt; exact h1
    obtain ⟨p0, p1, p2, p3⟩ := kA2.cell4
    go_wp2_with fail
    refine (HDO.out _ (h.below hbw2)).mono ?_
    rintro q w3 ⟨v3, rfl, ho3, hb3⟩
    obtain ⟨g, cap, hv3, hg1, hg2, hgc⟩ := own_form ho3 hn1
    subst hv3
    clear p0 p1 p2 p3
    have kB3 := kB2.belowS hb3
    have kC3 := kC2.belowS hb3
    have hbw3 := hbw2.trans (hb3.mono hbw2.size)
    obtain ⟨p0, p1, p2, p3⟩ := kC3.cell4
    obtain ⟨q0, q1, q2, q3⟩ := kB3.cell4
    have f0 := kC3.frozen 0
    have f1 := kC3.frozen 1
    have f2 := kC3.frozen 2
    have f3 := kC3.frozen 3
    have g0 := kB3.frozen 0
    have g1 := kB3.frozen 1
    have g2 := kB3.frozen 2
    have g3 := kB3.frozen 3
    have hlt3 : w2.heap.size < w3.heap.size := kC3.lt
    go_wp2_with fail
    have kC4 := (((kB3.other (a := ⟨w2.heap.size, 0, none⟩) (by simp; omega) (.slice (some ⟨g, 0, none⟩) n cap)).other (a := ⟨w2.heap.size, 1, none⟩) (by simp; omega) (.slice none 0 0)).set4 (u0 := .slice (some ⟨g, 0, none⟩) n cap) (u1 := .slice none 0 0) (u2 := .int .i64 lf') (u3 := .bool dd'))
    have hbF := below_set4 (b := w.heap.size + 1) (u0 := .slice (some ⟨g, 0, none⟩) n cap) (u1 := .slice none 0 0) (u2 := .int .i64 lf') (u3 := .bool dd') ((hbw3.setCell (p := ⟨w2.heap.size, 0, none⟩) (by simp; omega) (.slice (some ⟨g, 0, none⟩) n cap)).setCell (p := ⟨w2.heap.size, 1, none⟩) (by simp; omega) (.slice none 0 0)) (by omega)
    rw [World.size_alloc] at ho3 hg1
    have ho4 := ownsRow_setCell_below (ownsRow_setCell_below (ownsRow_setCell_below (ownsRow_setCell_below (ownsRow_setCell_below (ownsRow_setCell_below ho3 (a := ⟨w2.heap.size, 0, none⟩) (by simp) (.slice (some ⟨g, 0, none⟩) n cap)) (a := ⟨w2.heap.size, 1, none⟩) (by simp) (.slice none 0 0))
      (a := ⟨w.heap.size + 1, 0, none⟩) (by simp; omega) (.slice (some ⟨g, 0, none⟩) n cap)) (a := ⟨w.heap.size + 1, 1, none⟩) (by simp; omega) (.slice none 0 0)) (a := ⟨w.heap.size + 1, 2, none⟩) (by simp; omega) (.int .i64 lf')) (a := ⟨w.heap.size + 1, 3, none⟩) (by simp; omega) (.bool dd')
    obtain ⟨s0, s1, s2, s3⟩ := kC4.cell4
    refine bodyPost_ret (v := .tuple #[dkv (some ⟨g, 0, none⟩) n cap none 0 0 lf' dd', .int .i64 0]) (by simp [results, Try.results35, go_sem, s0, s1, s2, s3]) rfl ⟨_, rfl, ⟨_, _, _, _, _, _, rfl, ⟨(Sl.of_own ho4).mono fun b hb => .inr (by omega), Sl.nil, hnle, by omega, hgc, Nat.le_refl _, hhi2⟩⟩, hbF⟩

/-! ### Budget -/

set_option maxRecDepth 100000 in
set_option maxHeartbeats 800000 in
theorem budget_any (A : Option Addr) (n c : Nat) (B : Option Addr) (m e : Nat) (d : Disk) (V : Nat → Prop) (k : Int) (w : World) (h : Dk w V A n c B m e d) (hm : DiskP.may d = true) (hk : -1 ≤ k) :
    Calls Try.prog 41 #[dkv A n c B m e d.left d.dead, .int .i64 k] w fun q w' => q = .returned (.tuple #[dkv A n c B m e k d.dead, .int .i64 0]) ∧ Below w.heap.size w w' := by
  have hB1 := Box.new w 50 #[.slice A n c, .slice B m e, .int .i64 d.left, .bool d.dead]
  have hB2 := hB1.up (.cells #[.slice none 0 0, .slice none 0 0, .int .i64 0, .bool false] 50)
  have hB3 := Box.new (w.alloc (.cells #[.slice A n c, .slice B m e, .int .i64 d.left, .bool d.dead] 50)) 50 #[.slice none 0 0, .slice none 0 0, .int .i64 0, .bool false]
  rw [World.size_alloc] at hB3
  have hb : Below w.heap.size w ((w.alloc (.cells #[.slice A n c, .slice B m e, .int .i64 d.left, .bool d.dead] 50)).alloc (.cells #[.slice none 0 0, .slice none 0 0, .int .i64 0, .bool false] 50)) := ((Below.refl _ _).alloc (Nat.le_refl _) _).alloc (by simp) _
  obtain ⟨lf, hlf⟩ : ∃ lf, lf = d.left := ⟨_, rfl⟩
  obtain ⟨dd, hdd⟩ : ∃ dd, dd = d.dead := ⟨_, rfl⟩
  have hma := fun w1 hD => may_any A n c B m e d V w1 hD
  rw [hm] at hma
  rw [← hlf, ← hdd] at hB1 hB2 hB3 hb hma ⊢
  have HMA := hide (hma _ (h.below hb))
  clear hma hlf hdd
  have hk' : ¬ k < -1 := by omega
  go_enter Try.func41, Try.ntmps41
  go_wp2_with fail
  refine HMA.out.mono ?_
  rintro q w1 ⟨rfl, hb1⟩
  have kA1 := hB2.belowS hb1
  have kB1 := hB3.belowS hb1
  have hbw1 := hb.trans (hb1.mono hb.size)
  obtain ⟨p0, p1, p2, p3⟩ := kA1.cell4
  obtain ⟨q0, q1, q2, q3⟩ := kB1.cell4
  have f0 := kA1.frozen 2
  have g0 := kB1.frozen 0
  have g1 := kB1.frozen 1
  have g2 := kB1.frozen 2
  have g3 := kB1.frozen 3
  go_wp2_with fail
  have kB4 := ((kB1.other (a := ⟨w.heap.size, 2, none⟩) (by simp) (.int .i64 k)).set4 (u0 := .slice A n c) (u1 := .slice B m e) (u2 := .int .i64 k) (u3 := .bool dd))
  have hbF := below_set4 (b := w.heap.size + 1) (u0 := .slice A n c) (u1 := .slice B m e) (u2 := .int .i64 k) (u3 := .bool dd) (hbw1.setCell (p := ⟨w.heap.size, 2, none⟩) (by simp) (.int .i64 k)) (by omega)
  obtain ⟨s0, s1, s2, s3⟩ := kB4.cell4
  exact bodyPost_ret (v := .tuple #[dkv A n c B m e k dd, .int .i64 0]) (by simp [results, Try.results41, go_sem, s0, s1, s2, s3]) rfl ⟨rfl, hbF⟩
end Go.Proofs.Yteoiadfcchalfaa
