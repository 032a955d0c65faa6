/- The parser of expressions: its memory, Is, take (seat c). -/
import Derived.Test.YtojincohnjophaaGreatDoorLexD
import Derived.Test.YtojincohnjophaaGreatDoorShelf
/-! May a token be: words, numbers, signs (seat c). -/
namespace Go.Proofs.YtojincohnjophaaGreatDoor
open Go.RowKit
set_option linter.unusedVariables false

set_option maxRecDepth 100000 in
theorem lmay_word (s : ByteArray) (c : UInt8) (r : List UInt8) (hs : s.data.toList = c :: r) (hz : s.size ≤ 16) (hn : runLen letterB partB s.data.toList = s.size) (w : World) :
    Calls Tryz.prog 108 #[.agg #[.int .i64 1, .string s]] w fun q w' => q = .returned (.bool true) ∧ Below w.heap.size w w' := by
  have hpos : 1 ≤ s.size := by rw [← size_list, hs]; simp
  have HL := hide (fun ww => wlen_any s c r hs (by omega) ww)
  rw [hn] at HL
  unfold wordRun at HL
  have HR := hide runs_any
  have hx0 := idx_run0
  have hx1 := idx_run1
  have hp1 : (1 : Int) ≤ (s.size : Int) := by omega
  have hp2 : (s.size : Int) ≤ 16 := by omega
  have hd1 : decide ((1 : Int) ≤ (s.size : Int)) = true := decide_eq_true hp1
  have hd2 : decide ((s.size : Int) ≤ 16) = true := decide_eq_true hp2
  clear hs hn
  have kT := Box.new w 202 #[.int .i64 1, .string s]
  go_enter Tryz.func108, Tryz.ntmps108
  go_wp2_with fail
  refine (HR.out _).mono ?_
  rintro q wA ⟨rfl, hbA⟩
  unfold bothRuns
  have kT := kT.belowS hbA
  have hlw := kT.lt
  have z0 := kT.cellAt (i := 0) rfl
  have z1 := kT.cellAt (i := 1) rfl
  have kR := Box.new wA 229 #[.int .i64 1, .int .i64 16, .func (Fn.func 177) #[] #[], .func (Fn.func 176) #[] #[]]
  have hb0 := ((Below.refl w.heap.size w).alloc (Nat.le_refl _) (.cells #[.int .i64 1, .string s] 202)).trans (hbA.mono (by simp))
  have HB := hide (hb0.alloc hb0.size (.cells #[.int .i64 1, .int .i64 16, .func (Fn.func 177) #[] #[], .func (Fn.func 176) #[] #[]] 229))
  clear hb0
  go_wp2_with fail
  refine wp_loop_rounds 2 ?_
  rw [rounds_succ]
  go_upto_region 10 with (fail)
  have kT := kT.up (.cells #[.int .i64 1, .int .i64 16, .func (Fn.func 177) #[] #[], .func (Fn.func 176) #[] #[]] 229)
  generalize hwB : wA.alloc _ = wB at *
  have hbx : Below wB.heap.size wB wB.drew := (Below.refl _ _).drew
  go_region_held3 (fun ww => (ww.cell? ⟨w.heap.size, 0, none⟩ = some (.int .i64 1) ∧ ww.cell? ⟨w.heap.size, 1, none⟩ = some (.string s)) ∧ ww.cell? ⟨wA.heap.size, 0, none⟩ = some (.int .i64 1) ∧ ww.cell? ⟨wA.heap.size, 1, none⟩ = some (.int .i64 16) ∧ ww.cell? ⟨wA.heap.size, 2, none⟩ = some (.func (Fn.func 177) #[] #[]) ∧ ww.cell? ⟨wA.heap.size, 3, none⟩ = some (.func (Fn.func 176) #[] #[]))
    (first | exact ⟨⟨(kT.belowS hbx).cellAt rfl, (kT.belowS hbx).cellAt rfl⟩, (kR.belowS hbx).cell4⟩)
    (((with_reducible refine (HL.out _).mono ?_); (rintro q wn ⟨rfl, hbn⟩; have hbx := hbx.trans (hbn.mono hbx.size))))
  have HF := hide (HB.out.trans (hbx.mono HB.out.size))
  clear hbx
  go_wp2_with fail
  go_ret
  exact ⟨rfl, HF.out⟩
set_option maxRecDepth 100000 in
theorem lmay_num (s : ByteArray) (c : UInt8) (r : List UInt8) (hs : s.data.toList = c :: r) (hz : s.size ≤ 19) (hn : runLen digitB digitB s.data.toList = s.size) (w : World) :
    Calls Tryz.prog 108 #[.agg #[.int .i64 2, .string s]] w fun q w' => q = .returned (.bool true) ∧ Below w.heap.size w w' := by
  have hpos : 1 ≤ s.size := by rw [← size_list, hs]; simp
  have HL := hide (fun ww => dlen_any s c r hs (by omega) ww)
  rw [hn] at HL
  unfold numRun at HL
  have HR := hide runs_any
  have hx0 := idx_run0
  have hx1 := idx_run1
  have hp1 : (1 : Int) ≤ (s.size : Int) := by omega
  have hp2 : (s.size : Int) ≤ 19 := by omega
  have hd1 : decide ((1 : Int) ≤ (s.size : Int)) = true := decide_eq_true hp1
  have hd2 : decide ((s.size : Int) ≤ 19) = true := decide_eq_true hp2
  clear hs hn
  have kT := Box.new w 202 #[.int .i64 2, .string s]
  go_enter Tryz.func108, Tryz.ntmps108
  go_wp2_with fail
  refine (HR.out _).mono ?_
  rintro q wA ⟨rfl, hbA⟩
  unfold bothRuns
  have kT := kT.belowS hbA
  have hlw := kT.lt
  have z0 := kT.cellAt (i := 0) rfl
  have z1 := kT.cellAt (i := 1) rfl
  have hb0 := ((Below.refl w.heap.size w).alloc (Nat.le_refl _) (.cells #[.int .i64 2, .string s] 202)).trans (hbA.mono (by simp))
  have HB := hide ((hb0.alloc hb0.size (.cells #[.int .i64 1, .int .i64 16, .func (Fn.func 177) #[] #[], .func (Fn.func 176) #[] #[]] 229)).alloc (by simp; omega) (.cells #[.int .i64 2, .int .i64 19, .func (Fn.func 178) #[] #[], .func (Fn.func 178) #[] #[]] 229))
  clear hb0
  have kT := kT.up (.cells #[.int .i64 1, .int .i64 16, .func (Fn.func 177) #[] #[], .func (Fn.func 176) #[] #[]] 229)
  have kR := Box.new (wA.alloc (.cells #[.int .i64 1, .int .i64 16, .func (Fn.func 177) #[] #[], .func (Fn.func 176) #[] #[]] 229)) 229 #[.int .i64 2, .int .i64 19, .func (Fn.func 178) #[] #[], .func (Fn.func 178) #[] #[]]
  have kT := kT.up (.cells #[.int .i64 2, .int .i64 19, .func (Fn.func 178) #[] #[], .func (Fn.func 178) #[] #[]] 229)
  have y0 := kT.cellAt (i := 0) rfl
  go_wp2_with fail
  refine wp_loop_rounds 2 ?_
  rw [rounds_succ]
  go_wp2_with fail
  rw [rounds_succ]
  go_upto_region 10 with (fail)
  simp only [World.size_alloc] at kR
  generalize hwB : (wA.alloc _).alloc _ = wB at *
  have hbx : Below wB.heap.size wB wB.drew := (Below.refl _ _).drew
  go_region_held3 (fun ww => (ww.cell? ⟨w.heap.size, 0, none⟩ = some (.int .i64 2) ∧ ww.cell? ⟨w.heap.size, 1, none⟩ = some (.string s)) ∧ ww.cell? ⟨wA.heap.size + 1, 0, none⟩ = some (.int .i64 2) ∧ ww.cell? ⟨wA.heap.size + 1, 1, none⟩ = some (.int .i64 19) ∧ ww.cell? ⟨wA.heap.size + 1, 2, none⟩ = some (.func (Fn.func 178) #[] #[]) ∧ ww.cell? ⟨wA.heap.size + 1, 3, none⟩ = some (.func (Fn.func 178) #[] #[]))
    (first | exact ⟨⟨(kT.belowS hbx).cellAt rfl, (kT.belowS hbx).cellAt rfl⟩, (kR.belowS hbx).cell4⟩)
    (((with_reducible refine (HL.out _).mono ?_); (rintro q wn ⟨rfl, hbn⟩; have hbx := hbx.trans (hbn.mono hbx.size))))
  have HF := hide (HB.out.trans (hbx.mono HB.out.size))
  clear hbx
  go_wp2_with fail
  go_ret
  exact ⟨rfl, HF.out⟩

set_option maxRecDepth 100000 in
theorem lmay_sign (c : UInt8) (hc : decide (0 ≤ Lib.indexByte [40, 41, 44, 61, 60, 43, 45, 42] c) = true) (w : World) :
    Calls Tryz.prog 108 #[.agg #[.int .i64 4, .string ⟨#[c]⟩]] w fun q w' => q = .returned (.bool true) ∧ Below w.heap.size w w' := by
  have HC := hide (fun ww => Tryz.strings_Contains_one ⟨#[40, 41, 44, 61, 60, 43, 45, 42]⟩ c ww)
  obtain ⟨s, hs⟩ : ∃ s : ByteArray, s = ⟨#[c]⟩ := ⟨_, rfl⟩
  have hz : s.size = 1 := by rw [hs]; rfl
  have hzi : (s.size : Int) = 1 := by omega
  rw [← hs] at HC ⊢
  have HC' : Hid (∀ ww, Calls Tryz.prog 139 #[.string ⟨#[40, 41, 44, 61, 60, 43, 45, 42]⟩, .string s] ww fun e w' => e = .returned (.bool true) ∧ w' = ww) := by
    intro ww
    have := HC.out ww
    rw [show (⟨#[40, 41, 44, 61, 60, 43, 45, 42]⟩ : ByteArray).data.toList = [40, 41, 44, 61, 60, 43, 45, 42] from rfl, hc] at this
    exact this
  have HB := hide ((Below.refl w.heap.size w).alloc (Nat.le_refl _) (.cells #[.int .i64 4, .string s] 202))
  clear HC hc hs
  go_enter Tryz.func108, Tryz.ntmps108
  go_wp2_with fail
  refine (HC'.out _).mono ?_
  rintro q wA ⟨rfl, rfl⟩
  go_wp2_with fail
  go_ret
  exact ⟨rfl, HB.out⟩
end Go.Proofs.YtojincohnjophaaGreatDoor

/-! Cut: a text's tokens (seat c). -/
namespace Go.Proofs.YtojincohnjophaaGreatDoor
open Go.RowKit
set_option linter.unusedVariables false

abbrev Tok := Nat × ByteArray
def cellsTk : List Tok → List Value
  | [] => []
  | c :: l => .int .i64 (c.1 : Nat) :: .string c.2 :: cellsTk l
theorem cellsTk_append (a b : List Tok) : cellsTk (a ++ b) = cellsTk a ++ cellsTk b := by
  induction a with
  | nil => rfl
  | cons c a ih => simp [cellsTk, ih]
theorem cellsTk_length (a : List Tok) : (cellsTk a).length = a.length * 2 := by
  induction a with
  | nil => rfl
  | cons c a ih => simp [cellsTk, ih]; omega
theorem Tryz.infoTk : (Tryz.prog.info? 202).map (fun i => (i.zero, i.size, i.bytes)) = some (some (.agg #[.int .i64 0, .string .empty]), 2, 24) := by kernel_rfl
/-- an append of what was just laid -/
theorem appn_T {w : World} {ops : Array Oper} {rest : List Oper} {o : Oper} {a : Act} {Q : Exit → Act → World → Prop} (hgd : o.guard = none) (s x : Operand)
    (ho : o.op = .call { callee := .builtin .append, args := #[s, x], argTypes := #[160, 160] })
    (base : Nat) (v : Value) (n : Nat) (xs : List Value) (hown : w.ownsRow base 202 2 v n xs) (hs : a.eval s = v)
    (news : List Value) (hx : a.eval x = .slice (some ⟨w.heap.size, 0, none⟩) 1 1) (hl : news.length = 2) (h1 : ∀ u ∈ news, u.oneCell' = true) (hn : n + 1 ≤ 1000000000000) (hbase : base ≤ w.heap.size)
    (h : ∀ v' w', Apd w w' base 202 2 v v' (n + 1) (xs ++ news) → wpList Tryz.prog ops Q rest (a.put o.dst v') w') : wpList Tryz.prog ops Q (o :: rest) a (w.alloc (.cells news.toArray 202)) := by
  obtain ⟨i0, hi, hz0, hz1, hz2⟩ := info_parts Tryz.infoTk
  exact wp_app_new (P := Tryz.prog) hgd s x 160 ho base 202 i0 (.agg #[.int .i64 0, .string .empty]) 2 24 Tryz.underlying160 hi hz0 hz1 hz2 rfl (by decide) v n xs hown hs 1 1 news hx (by omega) h1 (by simp only [maxLen]; omega) (by omega) hbase h
theorem oneTk (k : Int) (b : ByteArray) : ∀ u ∈ [Value.int .i64 k, Value.string b], u.oneCell' = true := by
  intro u hu
  simp only [List.mem_cons, List.not_mem_nil, or_false] at hu
  rcases hu with rfl | rfl <;> rfl
def OwnTk (w : World) (base : Nat) (v : Value) (l : List Tok) : Prop := w.ownsRow base 202 2 v l.length (cellsTk l)
theorem OwnTk.nil (w : World) (base : Nat) : OwnTk w base (.slice none 0 0) [] := World.ownsRow_nil w _ _ _
theorem OwnTk.of_app {w : World} {base : Nat} {v : Value} {l m : List Tok} {k : Nat} {s : ByteArray} {n : Nat} (h : w.ownsRow base 202 2 v (n + 1) (cellsTk l ++ [.int .i64 (k : Nat), .string s])) (hn : n = l.length) (e : l ++ [(k, s)] = m) : OwnTk w base v m := by
  subst e hn
  unfold OwnTk
  rw [cellsTk_append, List.length_append]
  exact h
theorem OwnTk.below {w w' : World} {base : Nat} {v : Value} {l : List Tok} (h : OwnTk w base v l) (hb : Below w.heap.size w w') : OwnTk w' base v l := own_below h hb

/-- The tokens of a text. -/
inductive Toks : List UInt8 → List Tok → Prop
  | nil : Toks [] []
  | blank (r : List UInt8) (ts : List Tok) : Toks r ts → Toks (32 :: r) ts
  | word (c : UInt8) (r : List UInt8) (n : Nat) (ts : List Tok) : c.toNat ≠ 32 → c.toNat ≠ 10 → runLen letterB partB (c :: r) = n → 1 ≤ n → n ≤ 16 → runLen letterB partB ((c :: r).take n) = n → Toks ((c :: r).drop n) ts → Toks (c :: r) ((1, mkB ((c :: r).take n)) :: ts)
  | num (c : UInt8) (r : List UInt8) (n : Nat) (ts : List Tok) : c.toNat ≠ 32 → c.toNat ≠ 10 → runLen letterB partB (c :: r) = 0 → runLen digitB digitB (c :: r) = n → 1 ≤ n → n ≤ 19 → runLen digitB digitB ((c :: r).take n) = n → Toks ((c :: r).drop n) ts → Toks (c :: r) ((2, mkB ((c :: r).take n)) :: ts)
  | sign (c : UInt8) (r : List UInt8) (ts : List Tok) : c.toNat ≠ 32 → c.toNat ≠ 10 → c.toNat ≠ 39 → runLen letterB partB (c :: r) = 0 → runLen digitB digitB (c :: r) = 0 → decide (0 ≤ Lib.indexByte [40, 41, 44, 61, 60, 43, 45, 42] c) = true → Toks r ts → Toks (c :: r) ((4, mkB [c]) :: ts)
/-- What first and May say of a text that begins with a token. -/
structure FirstIs (s : ByteArray) (k : Nat) (t : ByteArray) (n : Nat) : Prop where
  first : ∀ w, Calls Tryz.prog 107 #[.string s] w fun q w' => q = .returned (.tuple #[.agg #[.int .i64 (k : Nat), .string t], .int .i64 (n : Nat)]) ∧ Below w.heap.size w w'
  may : ∀ w, Calls Tryz.prog 108 #[.agg #[.int .i64 (k : Nat), .string t]] w fun q w' => q = .returned (.bool true) ∧ Below w.heap.size w w'
/-- The next token of a text that is no blank. -/
theorem Toks.next {l : List UInt8} {ts : List Tok} (h : Toks l ts) (hz : l.length ≤ 1000) : (l = [] ∧ ts = []) ∨ (∃ r, l = 32 :: r ∧ Toks r ts) ∨
    ∃ c r k t n ts', l = c :: r ∧ c.toNat ≠ 32 ∧ c.toNat ≠ 10 ∧ ts = (k, t) :: ts' ∧ 1 ≤ n ∧ n ≤ l.length ∧ FirstIs (mkB l) k t n ∧ Toks (l.drop n) ts' := by
  have take_ext : ∀ (l : List UInt8) (n : Nat), (mkB l).extract 0 n = mkB (l.take n) := fun l n => by
    apply oct_inj
    rw [oct_extract, oct_mkB, oct_mkB]; simp
  have sz : ∀ l : List UInt8, (mkB l).size = l.length := fun l => by rw [← size_list]; rfl
  cases h with
  | nil => exact .inl ⟨rfl, rfl⟩
  | blank r ts h => exact .inr (.inl ⟨r, rfl, h⟩)
  | word c r n ts h1 h2 h3 h4 h5 h6 h7 =>
    have hle : n ≤ (c :: r).length := by rw [← h3]; exact runLen_le _ _ _
    refine .inr (.inr ⟨c, r, 1, _, n, ts, rfl, h1, h2, rfl, h4, hle, ⟨fun w => ?_, fun w => ?_⟩, h7⟩)
    · have := first_word (mkB (c :: r)) c r rfl (by rw [sz]; exact hz) n h3 h4 w
      rw [take_ext] at this
      exact this
    · obtain ⟨m, rfl⟩ : ∃ m, n = m + 1 := ⟨n - 1, by omega⟩
      exact lmay_word (mkB ((c :: r).take (m + 1))) c (r.take m) rfl (by rw [sz, List.length_take]; omega) (by rw [sz, List.length_take, Nat.min_eq_left hle]; exact h6) w
  | num c r n ts h1 h2 h0 h3 h4 h5 h6 h7 =>
    have hle : n ≤ (c :: r).length := by rw [← h3]; exact runLen_le _ _ _
    refine .inr (.inr ⟨c, r, 2, _, n, ts, rfl, h1, h2, rfl, h4, hle, ⟨fun w => ?_, fun w => ?_⟩, h7⟩)
    · have := first_num (mkB (c :: r)) c r rfl (by rw [sz]; exact hz) h0 n h3 h4 w
      rw [take_ext] at this
      exact this
    · obtain ⟨m, rfl⟩ : ∃ m, n = m + 1 := ⟨n - 1, by omega⟩
      exact lmay_num (mkB ((c :: r).take (m + 1))) c (r.take m) rfl (by rw [sz, List.length_take]; omega) (by rw [sz, List.length_take, Nat.min_eq_left hle]; exact h6) w
  | sign c r ts h1 h2 h3 h4 h5 h6 h7 =>
    refine .inr (.inr ⟨c, r, 4, _, 1, ts, rfl, h1, h2, rfl, Nat.le_refl _, by simp, ⟨fun w => ?_, fun w => lmay_sign c h6 w⟩, h7⟩)
    have := first_sign (mkB (c :: r)) c r rfl (by rw [sz]; exact hz) h4 h5 h3 w
    rw [take_ext] at this
    exact this
end Go.Proofs.YtojincohnjophaaGreatDoor

/-! Cut: a text's tokens, the walk (seat c). -/
namespace Go.Proofs.YtojincohnjophaaGreatDoor
open Go.RowKit
set_option linter.unusedVariables false

theorem at_rest {s : ByteArray} {k : Nat} (hk : k ≤ s.size) : s.extract k s.size = mkB ((oct s).drop k) := by
  apply oct_inj
  rw [oct_extract, oct_mkB]
  apply List.take_of_length_le
  have h : (oct s).length = s.size := size_list s
  simp [h]
theorem at_cell {s : ByteArray} {k : Nat} {c : UInt8} {r : List UInt8} (h : (oct s).drop k = c :: r) : ∃ hk : k < s.size, s[k]'hk = c := by
  have h0 : (oct s)[k]? = some c := by
    have := congrArg (fun l => l[0]?) h
    simpa [List.getElem?_drop] using this
  obtain ⟨h1, h2⟩ := List.getElem?_eq_some_iff.1 h0
  have hl : (oct s).length = s.size := size_list s
  refine ⟨by omega, ?_⟩
  have h3 : s.data.toList[k]? = some (s.data[k]'(by have : s.data.size = s.size := rfl; omega)) := by simp
  have h4 : s.data.toList[k]? = some c := h0
  exact Option.some.inj (h3.symm.trans h4)

set_option maxRecDepth 100000 in
set_option maxHeartbeats 800000 in
theorem cut_any (s : ByteArray) (ts : List Tok) (hz : s.size ≤ 1000) (ht : Toks (oct s) ts) (hn : ts.length ≤ 400) (w : World) :
    Calls Tryz.prog 75 #[.string s] w fun q w' => ∃ v, q = .returned (.tuple #[v, .int .i64 0]) ∧ OwnTk w' w.heap.size v ts ∧ Below w.heap.size w w' := by
  have HT := hide ht
  clear ht
  go_enter Tryz.func75, Tryz.ntmps75
  go_wp2_with fail
  go_loopw [4, 5] (fun v iv wr => ∃ (k : Nat) (dn rs : List Tok), iv = .int .i64 k ∧ k ≤ s.size ∧ Toks ((oct s).drop k) rs ∧ dn ++ rs = ts ∧ wr.ownsRow w.heap.size 202 2 v dn.length (cellsTk dn) ∧ Below w.heap.size w wr) (fun _ iv _ => s.size - (intOf iv).toNat)
  case atStart => exact ⟨0, [], ts, rfl, Nat.zero_le _, HT.out, rfl, OwnTk.nil _ _, Below.refl _ _⟩
  case round =>
    obtain ⟨k, dn, rs, rfl, hk, hts, hcat, hown, hb⟩ := hrel
    have hlen : (oct s).length = s.size := size_list s
    have HCAT := hide hcat
    rcases hts.next (by simp [hlen]; omega) with ⟨h1, h2⟩ | ⟨r, h1, h2⟩ | ⟨c, r, kd, t, n, ts', h1, h2, h3, h4, h5, h6, h7, h8⟩
    · have hkk : k = s.size := by
        have := congrArg List.length h1
        simp [hlen] at this; omega
      subst hkk
      subst h2
      rw [List.append_nil] at hcat
      subst hcat
      clear h1 hts hlen HT HCAT
      go_wp2_with fail
      go_ret2
      exact ⟨_, rfl, hown, hb⟩
    · obtain ⟨hlt, hc⟩ := at_cell h1
      have h8 : Toks ((oct s).drop (k + 1)) rs := by rw [← List.drop_drop, h1]; exact h2
      have H8 := hide h8
      have e1 : (((s[k]'hlt).toNat : Nat) : Int) = 32 := by rw [hc]; rfl
      clear h1 h2 h8 hts hlen HT hcat hc
      go_wp2_with fail
      exact ⟨⟨k + 1, dn, rs, by rw [Int.natCast_add]; rfl, by omega, H8.out, HCAT.out, hown, hb⟩, by simp [intOf]; omega⟩
    · obtain ⟨hlt, hc⟩ := at_cell h1
      rw [← at_rest hk] at h7
      have HF := hide h7.first
      have HM := hide h7.may
      have h8' : Toks ((oct s).drop (k + n)) ts' := by rw [← List.drop_drop]; exact h8
      have H8 := hide h8'
      have hkn : k + n ≤ s.size := by simp [hlen] at h6; omega
      have HK := hide hkn
      have e1 : ¬ (((s[k]'hlt).toNat : Nat) : Int) = 32 := by rw [hc]; omega
      have e2 : ¬ (((s[k]'hlt).toNat : Nat) : Int) = 10 := by rw [hc]; omega
      have e3 : ¬ (s[k]'hlt).toNat = 32 := by rw [hc]; omega
      have e4 : ¬ (s[k]'hlt).toNat = 10 := by rw [hc]; omega
      have b1 : ((((s[k]'hlt).toNat : Nat) : Int) == 32) = false := by simpa using e1
      have b2 : ((((s[k]'hlt).toNat : Nat) : Int) == 10) = false := by simpa using e2
      have hi1 : (0 : Int) ≤ (k : Int) := by omega
      have hi2 : (k : Int) < (s.size : Int) := by omega
      have hi3 : (k : Int) ≤ (s.size : Int) := by omega
      subst h4
      have hdn : dn.length + 1 ≤ 400 := by
        have := congrArg List.length hcat
        simp at this; omega
      have hdi : ¬ ((dn.length : Nat) : Int) = 400 := by omega
      have hd3 : ¬ dn.length = 400 := by omega
      have HN1 := hide h5
      obtain ⟨va, vc, hve, _, _⟩ := SlV.own (V := fun _ => True) hown (fun _ _ => trivial)
      subst hve
      clear h1 h2 h3 h5 h6 h7 h8 h8' hts hlen HT hcat hc hkn
      go_wp2_with fail
      refine (HF.out _).mono ?_
      rintro q wA ⟨rfl, hbA⟩
      have hb1 := hb.trans (hbA.mono hb.size)
      have hown1 : OwnTk wA w.heap.size (.slice va dn.length vc) dn := OwnTk.below hown hbA
      clear hown hb hbA
      go_wp2_with fail
      refine (HM.out _).mono ?_
      rintro q wB ⟨rfl, hbB⟩
      have kT := (Box.new wA 202 #[.int .i64 (kd : Nat), .string t]).belowS hbB
      have hb2 := (hb1.alloc hb1.size (.cells #[.int .i64 (kd : Nat), .string t] 202)).trans (hbB.mono (by have := hb1.size; simp; omega))
      have hown2 : OwnTk wB w.heap.size (.slice va dn.length vc) dn := OwnTk.below (OwnTk.below hown1 ((Below.refl _ _).alloc (Nat.le_refl _) (.cells #[.int .i64 (kd : Nat), .string t] 202))) hbB
      have z0 := kT.cellAt (i := 0) rfl
      have z1 := kT.cellAt (i := 1) rfl
      clear hown1 hb1 hbB kT
      go_wp2_with (at_builtin; refine appn_T rfl _ _ rfl w.heap.size _ _ _ hown2 rfl [.int .i64 (kd : Nat), .string t] rfl rfl (oneTk _ _) (by omega) hb2.size ?_; intro v' w2 hA)
      have hb3 := hA.below hown2 hb2 (Nat.le_refl _) hb2.size
      have hkn := HK.out
      have h1n := HN1.out
      have hw : wrap64 ((k : Int) + (n : Int)) = ((k + n : Nat) : Int) := by unfold wrap64; omega
      rw [hw]
      exact ⟨⟨k + n, dn ++ [(kd, t)], ts', rfl, hkn, H8.out, by rw [List.append_assoc]; exact HCAT.out, OwnTk.of_app hA.own rfl rfl, hb3⟩, by simp [intOf]; omega⟩
end Go.Proofs.YtojincohnjophaaGreatDoor

/-! The parser of expressions: its memory, Is, take (seat c). -/
namespace Go.Proofs.YtojincohnjophaaGreatDoor
open Go.RowKit
set_option linter.unusedVariables false

/-- Of the old blocks none has turned but b. -/
structure Exc (b : Nat) (w w' : World) : Prop where
  os : w'.os = w.os
  tape : w'.tape = w.tape
  output : w'.output = w.output
  size : w.heap.size ≤ w'.heap.size
  block : ∀ k, k < w.heap.size → k ≠ b → w'.heap[k]? = w.heap[k]?
theorem Exc.refl (b : Nat) (w : World) : Exc b w w := ⟨rfl, rfl, rfl, Nat.le_refl _, fun _ _ _ => rfl⟩
theorem Exc.of {b : Nat} {w w' : World} (h : Below w.heap.size w w') : Exc b w w' := ⟨h.os, h.tape, h.output, h.size, fun x hx _ => h.block x hx⟩
theorem Exc.trans {b : Nat} {a w w' : World} (h : Exc b a w) (k : Exc b w w') : Exc b a w' :=
  ⟨k.os.trans h.os, k.tape.trans h.tape, k.output.trans h.output, Nat.le_trans h.size k.size, fun i hi hb => (k.block i (Nat.lt_of_lt_of_le hi h.size) hb).trans (h.block i hi hb)⟩
theorem Exc.drew {b : Nat} {a w : World} (h : Exc b a w) : Exc b a w.drew := ⟨h.os, h.tape, h.output, h.size, h.block⟩
theorem Exc.below {b : Nat} {a w w' : World} (h : Exc b a w) (k : Below w.heap.size w w') : Exc b a w' := h.trans (.of k)
theorem Exc.set {b : Nat} {a w : World} (h : Exc b a w) (i : Nat) (u : Value) : Exc b a (w.setCell ⟨b, i, none⟩ u) :=
  h.trans ⟨rfl, rfl, rfl, by simp [World.setCell], fun k _ hb => Below.heap_setCell _ _ _ _ hb⟩
theorem Exc.alloc {b : Nat} {a w : World} (h : Exc b a w) (o : Obj) : Exc b a (w.alloc o) := h.below ((Below.refl _ _).alloc (Nat.le_refl _) o)
theorem Box.exc {w w' : World} {k b : Nat} {T : TypeId} {vs : Array Value} (h : Box w k T vs) (hx : Exc b w w') (hne : k ≠ b) : Box w' k T vs := h.at (hx.block k h.lt hne)
/-- What a call leaves below a bound that lies not above b. -/
theorem Exc.bel {b B : Nat} {w w' : World} (h : Exc b w w') (hB : B ≤ b) (hs : B ≤ w.heap.size) : Below B w w' :=
  ⟨h.os, h.tape, h.output, h.size, fun k hk => h.block k (by omega) (by omega)⟩

def isB (k : Nat) (s word : ByteArray) : Bool := (decide (k = 1) || decide (k = 4)) && decide (s = word)
set_option maxRecDepth 100000 in
theorem is_any (k : Nat) (s word : ByteArray) (w : World) :
    Calls Tryz.prog 184 #[.agg #[.int .i64 (k : Nat), .string s], .string word] w fun q w' => q = .returned (.bool (isB k s word)) ∧ Below w.heap.size w w' := by
  have HB := hide ((Below.refl w.heap.size w).alloc (Nat.le_refl _) (.cells #[.int .i64 (k : Nat), .string s] 202))
  obtain ⟨r, hr⟩ : ∃ r, r = isB k s word := ⟨_, rfl⟩
  rw [← hr]
  have HR := hide hr
  clear hr
  by_cases e : s = word
  · have e1 : (s.toList == word.toList) = true := by rw [TreeP.toList_beq]; simp [e]
    have E := hide e
    clear e
    by_cases h1 : k = 1
    · subst h1
      have hr : r = true := by rw [HR.out, E.out]; simp [isB]
      subst hr
      go_enter Tryz.func184, Tryz.ntmps184
      go_wp2_with fail
      go_ret
      exact ⟨rfl, HB.out⟩
    · by_cases h4 : k = 4
      · subst h4
        have hr : r = true := by rw [HR.out, E.out]; simp [isB]
        subst hr
        go_enter Tryz.func184, Tryz.ntmps184
        go_wp2_with fail
        go_ret
        exact ⟨rfl, HB.out⟩
      · have hr : r = false := by rw [HR.out]; simp [isB, h1, h4]
        subst hr
        have i1 : ((k : Int) == 1) = false := by simp; omega
        have i4 : ((k : Int) == 4) = false := by simp; omega
        have d1 : ¬ (k : Int) = 1 := by omega
        have d4 : ¬ (k : Int) = 4 := by omega
        clear h1 h4
        go_enter Tryz.func184, Tryz.ntmps184
        go_wp2_with fail
        go_ret
        exact ⟨rfl, HB.out⟩
  · have e1 : (s.toList == word.toList) = false := by rw [TreeP.toList_beq]; simp [e]
    have hr : r = false := by rw [HR.out]; simp [isB, e]
    subst hr
    clear e HR
    by_cases h1 : k = 1
    · subst h1
      go_enter Tryz.func184, Tryz.ntmps184
      go_wp2_with fail
      go_ret
      exact ⟨rfl, HB.out⟩
    · by_cases h4 : k = 4
      · subst h4
        go_enter Tryz.func184, Tryz.ntmps184
        go_wp2_with fail
        go_ret
        exact ⟨rfl, HB.out⟩
      · have i1 : ((k : Int) == 1) = false := by simp; omega
        have i4 : ((k : Int) == 4) = false := by simp; omega
        have d1 : ¬ (k : Int) = 1 := by omega
        have d4 : ¬ (k : Int) = 4 := by omega
        clear h1 h4
        go_enter Tryz.func184, Tryz.ntmps184
        go_wp2_with fail
        go_ret
        exact ⟨rfl, HB.out⟩
end Go.Proofs.YtojincohnjophaaGreatDoor
