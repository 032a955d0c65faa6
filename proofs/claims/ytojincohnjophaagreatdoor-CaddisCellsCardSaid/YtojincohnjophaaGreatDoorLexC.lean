/- The walk of layer 3's run of digits, the first token, and whether a token may be (seat c). -/
import Derived.Deep.RegionHeld3
import Derived.Deep.RegionLaw
import Derived.KernelRfl
import Derived.Test.YtojincohnjophaaGreatDoorRows
import Derived.Test.YtojincohnjophaaGreatDoorLexA
import Derived.Laws.EntriesVeiled
import Derived.Laws.Rows
import Derived.Test.YtojincohnjophaaGreatDoorDiskB
import Derived.Test.YtojincohnjophaaGreatDoorTreeRefA
/-! A law for a region that draws its order, and whose last operation (one that all others are waited for by) may end what the region's loads lean on. -/
namespace Go.Proofs.YtojincohnjophaaGreatDoor.RegE
open Go
set_option linter.unusedVariables false

section
variable {P : Program} {ops : Array Oper} {Q : Exit → Act → World → Prop} {md : Region.Mode} {S : World → Prop} {n : Nat}

/-- operation j waits for operation i -/
def waits (md : Region.Mode) (ops : Array Oper) (j i : Nat) : Bool := match ops[j]? with
  | some oj => oj.after.toList.any fun e => Region.binds md e && decide (e.on = i)
  | none => false
/-- each operation ahead of n is waited for by a later one (n at the latest); whatever is waited for stands ahead -/
def lastB (md : Region.Mode) (ops : Array Oper) (n : Nat) : Bool :=
  decide (n + 1 = ops.size) && (List.range n).all (fun i => (List.range (n + 1)).any fun j => decide (i < j) && waits md ops j i) &&
    (List.range (n + 1)).all fun i => match ops[i]? with
      | some oi => oi.after.toList.all fun e => !Region.binds md e || decide (e.on < i)
      | none => true
/-- what has come up is closed, and n has not -/
def invB (md : Region.Mode) (ops : Array Oper) (n : Nat) (listed : Array Bool) : Bool :=
  decide (listed.size = ops.size) && !listed.getD n true && (List.range ops.size).all fun j => !listed.getD j false || (match ops[j]? with
    | some oj => oj.after.toList.all fun e => !Region.binds md e || listed.getD e.on false
    | none => true)

structure Last (md : Region.Mode) (ops : Array Oper) (n : Nat) : Prop where
  size : n + 1 = ops.size
  sink : ∀ i, i < n → ∃ j oj, i < j ∧ j ≤ n ∧ ops[j]? = some oj ∧ ∃ e ∈ oj.after, Region.binds md e = true ∧ e.on = i
  back : ∀ i oi, ops[i]? = some oi → ∀ e ∈ oi.after, Region.binds md e = true → e.on < i
structure Inv (md : Region.Mode) (ops : Array Oper) (n : Nat) (listed : Array Bool) : Prop where
  size : listed.size = ops.size
  last : listed.getD n true = false
  closed : ∀ j oj, ops[j]? = some oj → listed.getD j false = true → ∀ e ∈ oj.after, Region.binds md e = true → listed.getD e.on false = true

theorem last_of (h : lastB md ops n = true) : Last md ops n := by
  unfold lastB at h
  simp only [Bool.and_eq_true, decide_eq_true_eq, List.all_eq_true, List.any_eq_true, List.mem_range] at h
  obtain ⟨⟨h1, h2⟩, h3⟩ := h
  refine ⟨h1, fun i hi => ?_, fun i oi ho e he hb => ?_⟩
  · obtain ⟨j, hj, hij, hw⟩ := h2 i hi
    unfold waits at hw
    split at hw
    · rename_i oj hoj
      simp only [List.any_eq_true, Bool.and_eq_true, decide_eq_true_eq, Array.mem_toList_iff] at hw
      obtain ⟨e, he, hb, hon⟩ := hw
      exact ⟨j, oj, hij, by omega, hoj, e, he, hb, hon⟩
    · cases hw
  · have hlt := (Array.getElem?_eq_some_iff.1 ho).1
    have := h3 i (by omega)
    rw [ho] at this
    simp only [List.all_eq_true, Bool.or_eq_true, Bool.not_eq_true', decide_eq_true_eq, Array.mem_toList_iff] at this
    exact (this e he).resolve_left (by simp [hb])
theorem inv_of {listed : Array Bool} (h : invB md ops n listed = true) : Inv md ops n listed := by
  unfold invB at h
  simp only [Bool.and_eq_true, decide_eq_true_eq, List.all_eq_true, List.mem_range, Bool.not_eq_true', Bool.or_eq_true] at h
  obtain ⟨⟨h1, h2⟩, h3⟩ := h
  refine ⟨h1, h2, fun j oj ho hl e he hb => ?_⟩
  have hlt := (Array.getElem?_eq_some_iff.1 ho).1
  have := (h3 j hlt).resolve_left (by simp [hl])
  rw [ho] at this
  simp only [List.all_eq_true, Bool.or_eq_true, Bool.not_eq_true', Array.mem_toList_iff] at this
  exact (this e he).resolve_left (by simp [hb])
theorem getD_tf {listed : Array Bool} {i : Nat} (h : listed.getD i true = false) : listed.getD i false = false := by
  rcases Nat.lt_or_ge i listed.size with h' | h'
  · simp [h'] at h ⊢; exact h
  · simp [Array.getElem?_eq_none h'] at h
theorem getD_ft {listed : Array Bool} {i : Nat} (hi : i < listed.size) (h : listed.getD i false = false) : listed.getD i true = false := by
  simp [hi] at h ⊢; exact h
theorem Inv.set {listed : Array Bool} {j : Nat} (inv : Inv md ops n listed) (hj : j ∈ Region.ready md ops listed) (hne : j ≠ n) : Inv md ops n (listed.setIfInBounds j true) := by
  obtain ⟨_, oj, hoj, hall⟩ := mem_ready.1 hj
  refine ⟨by simp [inv.size], by rw [getD_set_ne true hne]; exact inv.last, fun k ok hk hl e he hb => ?_⟩
  by_cases hjk : j = k
  · subst hjk
    have : ok = oj := Option.some.inj (hk.symm.trans hoj)
    subst this
    exact getD_set_true (hall e he hb)
  · rw [getD_set_ne false hjk] at hl
    exact getD_set_true (inv.closed k ok hk hl e he hb)
/-- where n may come up all others have -/
theorem all_up (L : Last md ops n) {listed : Array Bool} (inv : Inv md ops n listed) (hn : n ∈ Region.ready md ops listed) : ∀ d i, n - i = d → i < n → listed.getD i false = true := by
  intro d
  induction d using Nat.strongRecOn with
  | _ d ih =>
    intro i hd hi
    obtain ⟨j, oj, hij, hjn, hoj, e, he, hb, hon⟩ := L.sink i hi
    subst hon
    by_cases hj : j = n
    · subst hj
      obtain ⟨_, on, hon, hall⟩ := mem_ready.1 hn
      have : on = oj := Option.some.inj (hon.symm.trans hoj)
      subst this
      exact hall e he hb
    · exact inv.closed j oj hoj (ih (n - j) (by omega) j rfl (by omega)) e he hb
/-- something may come up -/
theorem some_up (L : Last md ops n) {listed : Array Bool} (inv : Inv md ops n listed) : Region.ready md ops listed ≠ [] := by
  intro h0
  have hall : ∀ i, i < n → listed.getD i false = true := by
    intro i
    induction i using Nat.strongRecOn with
    | _ i ih =>
      intro hi
      cases hl : listed.getD i false with
      | true => rfl
      | false =>
        have hlt : i < ops.size := by have := L.size; omega
        have hm : i ∈ Region.ready md ops listed := mem_ready.2 ⟨getD_ft (by rw [inv.size]; exact hlt) hl, ops[i], Array.getElem?_eq_getElem hlt, fun e he hb => by
          have := L.back i _ (Array.getElem?_eq_getElem hlt) e he hb
          exact ih e.on this (by omega)⟩
        rw [h0] at hm; cases hm
  have hlt : n < ops.size := by have := L.size; omega
  have hm : n ∈ Region.ready md ops listed := mem_ready.2 ⟨inv.last, ops[n], Array.getElem?_eq_getElem hlt, fun e he hb => hall e.on (L.back n _ (Array.getElem?_eq_getElem hlt) e he hb)⟩
  rw [h0] at hm; cases hm

/-- Whatever order is picked: S holds behind every operation but the last one. -/
def wpE (P : Program) (md : Region.Mode) (ops : Array Oper) (Q : Exit → Act → World → Prop) (S : World → Prop) (n : Nat) : Nat → Array Bool → Act → World → Prop
  | 0, _, _, _ => False
  | fuel + 1, listed, a, w => ∀ i ∈ Region.ready md ops listed, (i = n → wpOp P ops Q n (fun a' w' => Q .normal a' w') a w) ∧
      (i ≠ n → wpOp P ops Q i (fun a' w' => S w' ∧ wpE P md ops Q S n fuel (listed.setIfInBounds i true) a' w') a w)

theorem wpAny_of_E (L : Last md ops n) : ∀ (fuel : Nat) (listed : Array Bool) (a : Act) (w : World), Inv md ops n listed → wpE P md ops Q S n fuel listed a w → wpAny P md ops Q fuel listed a w := by
  intro fuel
  induction fuel with
  | zero => intro listed a w _ h; exact h.elim
  | succ fuel ih =>
    intro listed a w inv h
    refine ⟨fun h0 => absurd h0 (some_up L inv), fun i hi => ?_⟩
    by_cases hin : i = n
    · subst hin
      have hall := all_up L inv hi
      have hr : Region.ready md ops (listed.setIfInBounds i true) = [] := by
        refine List.eq_nil_iff_forall_not_mem.2 fun k hk => ?_
        obtain ⟨h1, o, ho, _⟩ := mem_ready.1 hk
        have hlt := (Array.getElem?_eq_some_iff.1 ho).1
        have hs := L.size
        by_cases hki : i = k
        · subst hki
          have : i < listed.size := by rw [inv.size]; exact hlt
          simp [this] at h1
        · rw [getD_set_ne true hki] at h1
          have := getD_tf h1
          rw [hall (i - k) k rfl (by omega)] at this; cases this
      refine wpOp_mono (fun a' w' h' => ?_) ((h i hi).1 rfl)
      cases fuel with
      | zero => exact ⟨hr, h'⟩
      | succ f => exact ⟨fun _ => h', by rw [hr]; simp⟩
    · exact wpOp_mono (fun a' w' h' => ih _ a' w' (inv.set hi hin) h'.2) ((h i hi).2 hin)

theorem wpE_first (L : Last md ops n) {i : Nat} {oi : Oper} {v : Value} (hi : ops[i]? = some oi) (hin : i ≠ n) (hsel : ∀ (j : Nat) (o : Oper) cs b, ops[j]? = some o → o.op ≠ .select cs b)
    (hQ : ∀ c a w, Q (.panic c) (a.put oi.dst v) w → Q (.panic c) a w) :
    ∀ (fuel : Nat) (listed : Array Bool) (a : Act) (w : World), Inv md ops n listed →
      (∀ j oj, ops[j]? = some oj → j ≠ i → listed.getD j true = false → (∀ e ∈ oj.after, Region.binds md e = true → e.on ≠ i) → oi.apart ops oj = true) →
      i ∈ Region.ready md ops listed → YieldsIf P ops S oi v a → S w →
      wpE P md ops Q S n fuel (listed.setIfInBounds i true) (a.put oi.dst v) w → wpE P md ops Q S n (fuel + 1) listed a w := by
  intro fuel
  induction fuel with
  | zero => intro listed a w _ _ _ _ _ H; exact H.elim
  | succ fuel ih =>
    intro listed a w inv hfree hr hy hS H j hj
    refine ⟨fun hjn => ?_, fun hjn => ?_⟩
    · subst hjn
      have hlt : i < ops.size := (Array.getElem?_eq_some_iff.1 hi).1
      have hs := L.size
      have h1 := getD_tf (mem_ready.1 hr).1
      rw [all_up L inv hj (j - i) i rfl (by omega)] at h1; cases h1
    · by_cases hji : j = i
      · subst hji; exact hy.wpOp hi hS ⟨hS, H⟩
      · have h1 := (H j (ready_mono hj hji)).2 hjn
        obtain ⟨hjun, oj, hoj, hall⟩ := mem_ready.1 hj
        have hnot : ∀ e ∈ oj.after, Region.binds md e = true → e.on ≠ i := fun e he hb heq => by
          have h2 := hall e he hb
          rw [heq, getD_tf (mem_ready.1 hr).1] at h2; cases h2
        have h2 := wpOp_putIf hoj (hfree j oj hoj hji hjun hnot) (fun cs b => hsel i oi cs b hi) (fun cs b => hsel j oj cs b hoj) hQ hy h1
        have hfree' : ∀ k ok, ops[k]? = some ok → k ≠ i → (listed.setIfInBounds j true).getD k true = false →
            (∀ e ∈ ok.after, Region.binds md e = true → e.on ≠ i) → oi.apart ops ok = true := fun k ok hk hki hun hno => by
          refine hfree k ok hk hki ?_ hno
          by_cases hjk : j = k
          · subst hjk; exact hjun
          · rw [getD_set_ne true hjk] at hun; exact hun
        refine wpOp_mono (fun a' w' h3 => ⟨h3.2.1, ih (listed.setIfInBounds j true) a' w' (inv.set hj hjn) hfree' (ready_mono hr (Ne.symm hji)) h3.1 h3.2.1 ?_⟩) h2
        rw [Array.setIfInBounds_comm _ _ hji]
        exact h3.2.2

/-- Take number i first. -/
theorem take {i : Nat} {oi : Oper} {v : Value} {fuel : Nat} {listed : Array Bool} {a : Act} {w : World} (hi : ops[i]? = some oi) (hL : lastB md ops n = true) (hI : invB md ops n listed = true) (hin : (i != n) = true)
    (hs : Region.noSelect ops = true) (hf : Region.free md ops listed i = true) (hr : (Region.ready md ops listed).contains i = true)
    (hQ : ∀ c a w, Q (.panic c) (a.put oi.dst v) w → Q (.panic c) a w) (hy : YieldsIf P ops S oi v a) (hS : S w)
    (h : wpE P md ops Q S n fuel (listed.setIfInBounds i true) (a.put oi.dst v) w) : wpE P md ops Q S n (fuel + 1) listed a w :=
  wpE_first (last_of hL) hi (by simpa using hin) (Region.noSelect_spec hs) hQ fuel listed a w (inv_of hI) (Region.free_spec hi hf) (by simpa using hr) hy hS h
/-- The only one that may come up; what follows is a letter. -/
theorem step {i : Nat} {oi : Oper} {fuel : Nat} {listed : Array Bool} {a : Act} {w : World} (hi : ops[i]? = some oi) (hr : Region.ready md ops listed = [i]) (hin : (i != n) = true)
    (h : ∀ K : Act → World → Prop, (∀ a' w', S w' → wpE P md ops Q S n fuel (listed.setIfInBounds i true) a' w' → K a' w') → if Region.wanted oi (yielded ops a.tmps) = true then oi.wp P a w K Q else K (a.put oi.dst undef) w) : wpE P md ops Q S n (fuel + 1) listed a w := by
  intro j hj
  rw [hr] at hj
  obtain rfl := List.mem_singleton.1 hj
  refine ⟨fun e => absurd e (by simpa using hin), fun _ => ?_⟩
  have h' := h (fun a' w' => S w' ∧ wpE P md ops Q S n fuel (listed.setIfInBounds j true) a' w') (fun a' w' h1 h2 => ⟨h1, h2⟩)
  unfold wpOp
  simp only [hi]
  split
  · rename_i hw; rw [if_pos hw] at h'; exact .inl h'
  · rename_i hw; rw [if_neg hw] at h'; exact h'
/-- The last one. -/
theorem done {on : Oper} {fuel : Nat} {listed : Array Bool} {a : Act} {w : World} (hi : ops[n]? = some on) (hr : Region.ready md ops listed = [n])
    (h : ∀ K : Act → World → Prop, (∀ a' w', Q .normal a' w' → K a' w') → if Region.wanted on (yielded ops a.tmps) = true then on.wp P a w K Q else K (a.put on.dst undef) w) : wpE P md ops Q S n (fuel + 1) listed a w := by
  intro i hi'
  rw [hr] at hi'
  obtain rfl := List.mem_singleton.1 hi'
  refine ⟨fun _ => ?_, fun hne => absurd rfl hne⟩
  have h' := h (fun a' w' => Q .normal a' w') (fun a' w' h1 => h1)
  unfold wpOp
  simp only [hi]
  split
  · rename_i hw; rw [if_pos hw] at h'; exact .inl h'
  · rename_i hw; rw [if_neg hw] at h'; exact h'
/-- The beginning. -/
theorem begin_ {id : Nat} {a : Act} {w : World} (hm : P.follows .mixedOrders = true) (hL : lastB .any ops n = true) (hI : invB .any ops n (Array.replicate ops.size false) = true)
    (h : wpE P .any ops Q S n ops.size (Array.replicate ops.size false) a w.drew) : (Code.region id ops true).wp P Q a w :=
  wp_region_any hm (wpAny_of_E (last_of hL) _ _ _ _ (inv_of hI) h)
end
end Go.Proofs.YtojincohnjophaaGreatDoor.RegE

/-! The walks of layer 3's runs (seat c). -/
namespace Go.Proofs.YtojincohnjophaaGreatDoor
open Go.RowKit
set_option linter.unusedVariables false

def wordRun : Value := .agg #[.int .i64 1, .int .i64 16, .func (Fn.func 177) #[] #[], .func (Fn.func 176) #[] #[]]
def numRun : Value := .agg #[.int .i64 2, .int .i64 19, .func (Fn.func 178) #[] #[], .func (Fn.func 178) #[] #[]]
def bothRuns : Value := .agg #[.int .i64 1, .int .i64 16, .func (Fn.func 177) #[] #[], .func (Fn.func 176) #[] #[], .int .i64 2, .int .i64 19, .func (Fn.func 178) #[] #[], .func (Fn.func 178) #[] #[]]

set_option maxRecDepth 100000 in
theorem runs_any (w : World) : Calls Tryz.prog 136 #[] w fun q w' => q = .returned bothRuns ∧ Below w.heap.size w w' := by
  go_enter Tryz.func136, Tryz.ntmps136
  go_wp2_with fail
  exact bodyPost_ret (v := bothRuns) (results_cell_row rfl _ _ w.heap.size 230 _ _ _ (by rfl) (heap_alloc_new w _) Tryz.underlying230 rfl (by kernel_rfl)) rfl ⟨rfl, (Below.refl _ _).alloc (Nat.le_refl _) _⟩

/-- How many octets are of a kind, from a place on. -/
def moreN (P : Nat → Bool) : List UInt8 → Nat
  | [] => 0
  | c :: r => if P c.toNat then moreN P r + 1 else 0
def runLen (P Q : Nat → Bool) : List UInt8 → Nat
  | [] => 0
  | c :: r => if P c.toNat then moreN Q r + 1 else 0
theorem moreN_le (P : Nat → Bool) : ∀ l : List UInt8, moreN P l ≤ l.length
  | [] => Nat.le_refl _
  | c :: r => by
    have := moreN_le P r
    unfold moreN; split <;> simp <;> omega
/-- What is known at the loop's head: behind n octets of a kind. -/
structure RunAt (P Q : Nat → Bool) (l : List UInt8) (n : Nat) : Prop where
  one : 1 ≤ n
  le : n ≤ l.length
  rest : runLen P Q l = n + moreN Q (l.drop n)
theorem RunAt.start {P Q : Nat → Bool} {c : UInt8} {r : List UInt8} (h : P c.toNat = true) : RunAt P Q (c :: r) 1 :=
  ⟨Nat.le_refl _, by simp, by simp [runLen, h]; omega⟩
theorem RunAt.next {P Q : Nat → Bool} {l : List UInt8} {n : Nat} {c : UInt8} (h : RunAt P Q l n) (hc : l[n]? = some c) (hq : Q c.toNat = true) : RunAt P Q l (n + 1) := by
  obtain ⟨h1, h2, h3⟩ := h
  obtain ⟨hlt, hce⟩ := List.getElem?_eq_some_iff.1 hc
  refine ⟨by omega, by omega, ?_⟩
  rw [h3, List.drop_eq_getElem_cons hlt, hce]
  simp [moreN, hq]; omega
theorem RunAt.stop {P Q : Nat → Bool} {l : List UInt8} {n : Nat} {c : UInt8} (h : RunAt P Q l n) (hc : l[n]? = some c) (hq : Q c.toNat = false) : runLen P Q l = n := by
  obtain ⟨h1, h2, h3⟩ := h
  obtain ⟨hlt, hce⟩ := List.getElem?_eq_some_iff.1 hc
  rw [h3, List.drop_eq_getElem_cons hlt, hce]
  simp [moreN, hq]
theorem RunAt.end_ {P Q : Nat → Bool} {l : List UInt8} {n : Nat} (h : RunAt P Q l n) (hn : n = l.length) : runLen P Q l = n := by
  rw [h.rest, hn]; simp [moreN]

set_option maxRecDepth 100000 in
theorem wlen_any (s : ByteArray) (c : UInt8) (r : List UInt8) (hs : s.data.toList = c :: r) (hz : s.size ≤ 1000) (w : World) : Calls Tryz.prog 137 #[wordRun, .string s] w fun q w' => q = .returned (.int .i64 (runLen letterB partB s.data.toList)) ∧ Below w.heap.size w w' := by
  have hne : s ≠ ⟨#[]⟩ := by intro e; rw [e] at hs; cases hs
  have hne2 : s.toList.isEmpty = false := by rw [empty_list]; exact decide_eq_false hne
  have hpos : 0 < s.size := by
    have : s.data.toList.length = r.length + 1 := by rw [hs]; rfl
    have h2 : s.data.size = s.data.toList.length := (Array.length_toList).symm
    show 0 < s.data.size
    omega
  have kR := Box.new w 229 #[.int .i64 1, .int .i64 16, .func (Fn.func 177) #[] #[], .func (Fn.func 176) #[] #[]]
  have hb : Below w.heap.size w (w.alloc (.cells #[.int .i64 1, .int .i64 16, .func (Fn.func 177) #[] #[], .func (Fn.func 176) #[] #[]] 229)) := (Below.refl _ _).alloc (Nat.le_refl _) _
  have h0 : s[0]'hpos = c := by
    have h1 : s.data.toList[0]? = some c := by rw [hs]; rfl
    have h2 : s.data.toList[0]? = some (s.data[0]'hpos) := by simp
    exact Option.some.inj (h2.symm.trans h1)
  obtain ⟨bl, hbl⟩ : ∃ b, b = letterB c.toNat := ⟨_, rfl⟩
  have HC : Hid (∀ ww, Calls Tryz.prog 177 #[.int .u8 ((s[0]'hpos).toNat : Nat)] ww fun q w' => q = .returned (.bool bl) ∧ ww = w') := by
    rw [h0, hbl]; exact letter_any c.toNat
  have HBL := hide hbl
  clear h0 hbl
  unfold wordRun
  go_enter Tryz.func137, Tryz.ntmps137
  go_upto_region 1 with (fail)
  generalize hwA : w.alloc _ = wA at *
  have hbx : Below wA.heap.size wA wA.drew := (Below.refl _ _).drew
  go_region_held3 (fun ww => ww.cell? ⟨w.heap.size, 2, none⟩ = some (.func (Fn.func 177) #[] #[])) (first | (exact (kR.belowS hbx).cellAt rfl)) (((with_reducible refine (HC.out _).mono ?_); (rintro q wx ⟨rfl, rfl⟩)))
  cases bl with
  | false =>
    have hv : runLen letterB partB s.data.toList = 0 := by rw [hs]; simp [runLen, ← HBL.out]
    have HV := hide hv
    clear hv hs
    go_wp2_with fail
    go_ret
    exact ⟨by rw [HV.out]; rfl, hb.trans (hbx.mono hb.size)⟩
  | true =>
    have hst : RunAt letterB partB s.data.toList 1 := by rw [hs]; exact RunAt.start HBL.out.symm
    have HST := hide hst
    have HB := hide hb
    clear hst hs HC hb
    go_wp2_with fail
    go_loopw [5] (fun nv wr => ∃ n : Nat, nv = .int .i64 n ∧ RunAt letterB partB s.data.toList n ∧ Below wA.heap.size wA wr) (fun nv _ => s.size - (intOf nv).toNat)
    case atStart => exact ⟨1, rfl, HST.out, hbx⟩
    case round =>
      obtain ⟨n, rfl, hat, hbr⟩ := hrel
      clear hbx
      have hnle : n ≤ s.size := by
        have h2 : s.data.size = s.data.toList.length := (Array.length_toList).symm
        have := hat.le
        show n ≤ s.data.size
        omega
      by_cases hlt : n < s.size
      · have hi1 : (0 : Int) ≤ (n : Int) := by omega
        have hi2 : (n : Int) < (s.size : Int) := by omega
        have hlt2 : decide ((n : Int) < (s.size : Int)) = true := decide_eq_true hi2
        have hbx : Below wA.heap.size wA wr.drew := hbr.drew
        have hc : s.data.toList[n]? = some (s[n]'hlt) := by
          have h2 : s.data.toList[n]? = some (s.data[n]'hlt) := by simp
          exact h2
        obtain ⟨bm, hbm⟩ : ∃ b, b = partB (s[n]'hlt).toNat := ⟨_, rfl⟩
        have HP : Hid (∀ ww, Calls Tryz.prog 176 #[.int .u8 ((s[n]'hlt).toNat : Nat)] ww fun q w' => q = .returned (.bool bm) ∧ ww = w') := by
          rw [hbm]; exact part_any _
        have HAT := hide hat
        have HC := hide hc
        have HBM := hide hbm
        have HBR := hide hbr
        clear hat hc hbm hbr
        go_upto_region 4 with (fail)
        go_region_held3 (fun ww => ww.cell? ⟨w.heap.size, 3, none⟩ = some (.func (Fn.func 176) #[] #[])) (first | (exact (kR.belowS hbx).cellAt rfl)) (((with_reducible refine (HP.out _).mono ?_); (rintro q wx ⟨rfl, rfl⟩)))
        cases bm with
        | true =>
          have HN := hide (HAT.out.next HC.out HBM.out.symm)
          have hbr := HBR.out.drew
          clear hbx
          go_wp2_with fail
          go_round
          case rel => exact ⟨_, _, _, _, _, _, _, _, _, _, _, _, _, _, _, ⟨n + 1, by go_num, HN.out, hbr⟩, rfl⟩
          case measure => simp [intOf]; omega
        | false =>
          have HV := hide (HAT.out.stop HC.out HBM.out.symm)
          have hbr := HBR.out.drew
          clear hbx
          go_wp2_with fail
          go_ret
          exact ⟨by rw [HV.out]; rfl, HB.out.trans (hbr.mono HB.out.size)⟩
      · obtain rfl : n = s.size := by omega
        have HV := hide (hat.end_ (by have h2 : s.data.size = s.data.toList.length := (Array.length_toList).symm; exact h2))
        clear hat
        have hf1 : decide (((s.size : Nat) : Int) < (s.size : Int)) = false := by simp
        go_upto_region 4 with (fail)
        refine RegE.begin_ (n := 11) (S := fun _ => True) (by kernel_rfl) (by kernel_rfl) (by kernel_rfl) ?_
        refine RegE.take (i := 0) (v := ?k1vv) rfl (by kernel_rfl) (by kernel_rfl) rfl (by kernel_rfl) (by kernel_rfl) (by kernel_rfl) (fun _ _ _ h => h) (Or.inl ⟨by first | rfl | simp [Region.wanted, yielded], ?k1vy⟩) trivial ?k1vr
        case k1vy => intro ww hSw; obtain _hT := hSw; (go_simp <;> with_reducible rfl)
        try simp only [Act.put, List.getElem_toArray, List.getElem_cons_zero, List.setIfInBounds_toArray, List.set_cons_zero, List.set_cons_succ]
        refine RegE.take (i := 1) (v := ?k2vv) rfl (by kernel_rfl) (by kernel_rfl) rfl (by kernel_rfl) (by kernel_rfl) (by kernel_rfl) (fun _ _ _ h => h) (Or.inl ⟨by first | rfl | simp [Region.wanted, yielded], ?k2vy⟩) trivial ?k2vr
        case k2vy => intro ww hSw; obtain _hT := hSw; (go_simp <;> with_reducible rfl)
        try simp only [Act.put, List.getElem_toArray, List.getElem_cons_zero, List.getElem_cons_succ, List.setIfInBounds_toArray, List.set_cons_zero, List.set_cons_succ]
        refine RegE.take (i := 2) (v := ?k3vv) rfl (by kernel_rfl) (by kernel_rfl) rfl (by kernel_rfl) (by kernel_rfl) (by kernel_rfl) (fun _ _ _ h => h) (Or.inl ⟨by first | rfl | simp [Region.wanted, yielded], ?k3vy⟩) trivial ?k3vr
        case k3vy => intro ww hSw; obtain _hT := hSw; (go_simp <;> with_reducible rfl)
        try simp only [Act.put, List.getElem_toArray, List.getElem_cons_zero, List.getElem_cons_succ, List.setIfInBounds_toArray, List.set_cons_zero, List.set_cons_succ]
        refine RegE.take (i := 3) (v := ?k4vv) rfl (by kernel_rfl) (by kernel_rfl) rfl (by kernel_rfl) (by kernel_rfl) (by kernel_rfl) (fun _ _ _ h => h) (Or.inl ⟨by first | rfl | simp [Region.wanted, yielded], ?k4vy⟩) trivial ?k4vr
        case k4vy => intro ww hSw; obtain _hT := hSw; (go_simp <;> with_reducible rfl)
        try simp only [Act.put, List.getElem_toArray, List.getElem_cons_zero, List.getElem_cons_succ, List.setIfInBounds_toArray, List.set_cons_zero, List.set_cons_succ]
        refine RegE.take (i := 4) (v := ?k5vv) rfl (by kernel_rfl) (by kernel_rfl) rfl (by kernel_rfl) (by kernel_rfl) (by kernel_rfl) (fun _ _ _ h => h) (Or.inl ⟨by first | rfl | simp [Region.wanted, yielded], ?k5vy⟩) trivial ?k5vr
        case k5vy => intro ww hSw; obtain _hT := hSw; (go_simp <;> with_reducible rfl)
        try simp only [Act.put, List.getElem_toArray, List.getElem_cons_zero, List.getElem_cons_succ, List.setIfInBounds_toArray, List.set_cons_zero, List.set_cons_succ]
        refine RegE.take (i := 5) (v := undef) rfl (by kernel_rfl) (by kernel_rfl) rfl (by kernel_rfl) (by kernel_rfl) (by kernel_rfl) (fun _ _ _ h => h) (Or.inr ⟨by first | rfl | simp [Region.wanted, yielded], rfl⟩) trivial ?k6vr
        try simp only [Act.put, List.getElem_toArray, List.getElem_cons_zero, List.getElem_cons_succ, List.setIfInBounds_toArray, List.set_cons_zero, List.set_cons_succ]
        refine RegE.take (i := 6) (v := undef) rfl (by kernel_rfl) (by kernel_rfl) rfl (by kernel_rfl) (by kernel_rfl) (by kernel_rfl) (fun _ _ _ h => h) (Or.inr ⟨by first | rfl | simp [Region.wanted, yielded], rfl⟩) trivial ?k7vr
        try simp only [Act.put, List.getElem_toArray, List.getElem_cons_zero, List.getElem_cons_succ, List.setIfInBounds_toArray, List.set_cons_zero, List.set_cons_succ]
        refine RegE.take (i := 7) (v := undef) rfl (by kernel_rfl) (by kernel_rfl) rfl (by kernel_rfl) (by kernel_rfl) (by kernel_rfl) (fun _ _ _ h => h) (Or.inr ⟨by first | rfl | simp [Region.wanted, yielded], rfl⟩) trivial ?k8vr
        try simp only [Act.put, List.getElem_toArray, List.getElem_cons_zero, List.getElem_cons_succ, List.setIfInBounds_toArray, List.set_cons_zero, List.set_cons_succ]
        refine RegE.take (i := 8) (v := undef) rfl (by kernel_rfl) (by kernel_rfl) rfl (by kernel_rfl) (by kernel_rfl) (by kernel_rfl) (fun _ _ _ h => h) (Or.inr ⟨by first | rfl | simp [Region.wanted, yielded], rfl⟩) trivial ?k9vr
        try simp only [Act.put, List.getElem_toArray, List.getElem_cons_zero, List.getElem_cons_succ, List.setIfInBounds_toArray, List.set_cons_zero, List.set_cons_succ]
        refine RegE.take (i := 9) (v := undef) rfl (by kernel_rfl) (by kernel_rfl) rfl (by kernel_rfl) (by kernel_rfl) (by kernel_rfl) (fun _ _ _ h => h) (Or.inr ⟨by first | rfl | simp [Region.wanted, yielded], rfl⟩) trivial ?k10vr
        try simp only [Act.put, List.getElem_toArray, List.getElem_cons_zero, List.getElem_cons_succ, List.setIfInBounds_toArray, List.set_cons_zero, List.set_cons_succ]
        refine RegE.take (i := 10) (v := undef) rfl (by kernel_rfl) (by kernel_rfl) rfl (by kernel_rfl) (by kernel_rfl) (by kernel_rfl) (fun _ _ _ h => h) (Or.inr ⟨by first | rfl | simp [Region.wanted, yielded], rfl⟩) trivial ?k11vr
        try simp only [Act.put, List.getElem_toArray, List.getElem_cons_zero, List.getElem_cons_succ, List.setIfInBounds_toArray, List.set_cons_zero, List.set_cons_succ]
        refine RegE.done rfl (by kernel_rfl) (fun K hK => ?_)
        go_simp
        refine hK _ _ ?_
        clear hK K
        go_wp2_with fail
        go_ret
        exact ⟨by rw [HV.out]; rfl, HB.out.trans (hbr.drew.mono HB.out.size)⟩
end Go.Proofs.YtojincohnjophaaGreatDoor

/-! The walk of layer 3's run of digits, the first token, and whether a token may be (seat c). -/
namespace Go.Proofs.YtojincohnjophaaGreatDoor
open Go.RowKit
set_option linter.unusedVariables false

set_option maxRecDepth 100000 in
theorem dlen_any (s : ByteArray) (c : UInt8) (r : List UInt8) (hs : s.data.toList = c :: r) (hz : s.size ≤ 1000) (w : World) : Calls Tryz.prog 137 #[numRun, .string s] w fun q w' => q = .returned (.int .i64 (runLen digitB digitB s.data.toList)) ∧ Below w.heap.size w w' := by
  have hne : s ≠ ⟨#[]⟩ := by intro e; rw [e] at hs; cases hs
  have hne2 : s.toList.isEmpty = false := by rw [empty_list]; exact decide_eq_false hne
  have hpos : 0 < s.size := by
    have : s.data.toList.length = r.length + 1 := by rw [hs]; rfl
    have h2 : s.data.size = s.data.toList.length := (Array.length_toList).symm
    show 0 < s.data.size
    omega
  have kR := Box.new w 229 #[.int .i64 2, .int .i64 19, .func (Fn.func 178) #[] #[], .func (Fn.func 178) #[] #[]]
  have hb : Below w.heap.size w (w.alloc (.cells #[.int .i64 2, .int .i64 19, .func (Fn.func 178) #[] #[], .func (Fn.func 178) #[] #[]] 229)) := (Below.refl _ _).alloc (Nat.le_refl _) _
  have h0 : s[0]'hpos = c := by
    have h1 : s.data.toList[0]? = some c := by rw [hs]; rfl
    have h2 : s.data.toList[0]? = some (s.data[0]'hpos) := by simp
    exact Option.some.inj (h2.symm.trans h1)
  obtain ⟨bl, hbl⟩ : ∃ b, b = digitB c.toNat := ⟨_, rfl⟩
  have HC : Hid (∀ ww, Calls Tryz.prog 178 #[.int .u8 ((s[0]'hpos).toNat : Nat)] ww fun q w' => q = .returned (.bool bl) ∧ ww = w') := by
    rw [h0, hbl]; exact digit_any c.toNat
  have HBL := hide hbl
  clear h0 hbl
  unfold numRun
  go_enter Tryz.func137, Tryz.ntmps137
  go_upto_region 1 with (fail)
  generalize hwA : w.alloc _ = wA at *
  have hbx : Below wA.heap.size wA wA.drew := (Below.refl _ _).drew
  go_region_held3 (fun ww => ww.cell? ⟨w.heap.size, 2, none⟩ = some (.func (Fn.func 178) #[] #[])) (first | (exact (kR.belowS hbx).cellAt rfl)) (((with_reducible refine (HC.out _).mono ?_); (rintro q wx ⟨rfl, rfl⟩)))
  cases bl with
  | false =>
    have hv : runLen digitB digitB s.data.toList = 0 := by rw [hs]; simp [runLen, ← HBL.out]
    have HV := hide hv
    clear hv hs
    go_wp2_with fail
    go_ret
    exact ⟨by rw [HV.out]; rfl, hb.trans (hbx.mono hb.size)⟩
  | true =>
    have hst : RunAt digitB digitB s.data.toList 1 := by rw [hs]; exact RunAt.start HBL.out.symm
    have HST := hide hst
    have HB := hide hb
    clear hst hs HC hb
    go_wp2_with fail
    go_loopw [5] (fun nv wr => ∃ n : Nat, nv = .int .i64 n ∧ RunAt digitB digitB s.data.toList n ∧ Below wA.heap.size wA wr) (fun nv _ => s.size - (intOf nv).toNat)
    case atStart => exact ⟨1, rfl, HST.out, hbx⟩
    case round =>
      obtain ⟨n, rfl, hat, hbr⟩ := hrel
      clear hbx
      have hnle : n ≤ s.size := by
        have h2 : s.data.size = s.data.toList.length := (Array.length_toList).symm
        have := hat.le
        show n ≤ s.data.size
        omega
      by_cases hlt : n < s.size
      · have hi1 : (0 : Int) ≤ (n : Int) := by omega
        have hi2 : (n : Int) < (s.size : Int) := by omega
        have hlt2 : decide ((n : Int) < (s.size : Int)) = true := decide_eq_true hi2
        have hbx : Below wA.heap.size wA wr.drew := hbr.drew
        have hc : s.data.toList[n]? = some (s[n]'hlt) := by
          have h2 : s.data.toList[n]? = some (s.data[n]'hlt) := by simp
          exact h2
        obtain ⟨bm, hbm⟩ : ∃ b, b = digitB (s[n]'hlt).toNat := ⟨_, rfl⟩
        have HP : Hid (∀ ww, Calls Tryz.prog 178 #[.int .u8 ((s[n]'hlt).toNat : Nat)] ww fun q w' => q = .returned (.bool bm) ∧ ww = w') := by
          rw [hbm]; exact digit_any _
        have HAT := hide hat
        have HC := hide hc
        have HBM := hide hbm
        have HBR := hide hbr
        clear hat hc hbm hbr
        go_upto_region 4 with (fail)
        go_region_held3 (fun ww => ww.cell? ⟨w.heap.size, 3, none⟩ = some (.func (Fn.func 178) #[] #[])) (first | (exact (kR.belowS hbx).cellAt rfl)) (((with_reducible refine (HP.out _).mono ?_); (rintro q wx ⟨rfl, rfl⟩)))
        cases bm with
        | true =>
          have HN := hide (HAT.out.next HC.out HBM.out.symm)
          have hbr := HBR.out.drew
          clear hbx
          go_wp2_with fail
          go_round
          case rel => exact ⟨_, _, _, _, _, _, _, _, _, _, _, _, _, _, _, ⟨n + 1, by go_num, HN.out, hbr⟩, rfl⟩
          case measure => simp [intOf]; omega
        | false =>
          have HV := hide (HAT.out.stop HC.out HBM.out.symm)
          have hbr := HBR.out.drew
          clear hbx
          go_wp2_with fail
          go_ret
          exact ⟨by rw [HV.out]; rfl, HB.out.trans (hbr.mono HB.out.size)⟩
      · obtain rfl : n = s.size := by omega
        have HV := hide (hat.end_ (by have h2 : s.data.size = s.data.toList.length := (Array.length_toList).symm; exact h2))
        clear hat
        have hf1 : decide (((s.size : Nat) : Int) < (s.size : Int)) = false := by simp
        go_upto_region 4 with (fail)
        refine RegE.begin_ (n := 11) (S := fun _ => True) (by kernel_rfl) (by kernel_rfl) (by kernel_rfl) ?_
        refine RegE.take (i := 0) (v := ?k1vv) rfl (by kernel_rfl) (by kernel_rfl) rfl (by kernel_rfl) (by kernel_rfl) (by kernel_rfl) (fun _ _ _ h => h) (Or.inl ⟨by first | rfl | simp [Region.wanted, yielded], ?k1vy⟩) trivial ?k1vr
        case k1vy => intro ww hSw; obtain _hT := hSw; (go_simp <;> with_reducible rfl)
        try simp only [Act.put, List.getElem_toArray, List.getElem_cons_zero, List.setIfInBounds_toArray, List.set_cons_zero, List.set_cons_succ]
        refine RegE.take (i := 1) (v := ?k2vv) rfl (by kernel_rfl) (by kernel_rfl) rfl (by kernel_rfl) (by kernel_rfl) (by kernel_rfl) (fun _ _ _ h => h) (Or.inl ⟨by first | rfl | simp [Region.wanted, yielded], ?k2vy⟩) trivial ?k2vr
        case k2vy => intro ww hSw; obtain _hT := hSw; (go_simp <;> with_reducible rfl)
        try simp only [Act.put, List.getElem_toArray, List.getElem_cons_zero, List.getElem_cons_succ, List.setIfInBounds_toArray, List.set_cons_zero, List.set_cons_succ]
        refine RegE.take (i := 2) (v := ?k3vv) rfl (by kernel_rfl) (by kernel_rfl) rfl (by kernel_rfl) (by kernel_rfl) (by kernel_rfl) (fun _ _ _ h => h) (Or.inl ⟨by first | rfl | simp [Region.wanted, yielded], ?k3vy⟩) trivial ?k3vr
        case k3vy => intro ww hSw; obtain _hT := hSw; (go_simp <;> with_reducible rfl)
        try simp only [Act.put, List.getElem_toArray, List.getElem_cons_zero, List.getElem_cons_succ, List.setIfInBounds_toArray, List.set_cons_zero, List.set_cons_succ]
        refine RegE.take (i := 3) (v := ?k4vv) rfl (by kernel_rfl) (by kernel_rfl) rfl (by kernel_rfl) (by kernel_rfl) (by kernel_rfl) (fun _ _ _ h => h) (Or.inl ⟨by first | rfl | simp [Region.wanted, yielded], ?k4vy⟩) trivial ?k4vr
        case k4vy => intro ww hSw; obtain _hT := hSw; (go_simp <;> with_reducible rfl)
        try simp only [Act.put, List.getElem_toArray, List.getElem_cons_zero, List.getElem_cons_succ, List.setIfInBounds_toArray, List.set_cons_zero, List.set_cons_succ]
        refine RegE.take (i := 4) (v := ?k5vv) rfl (by kernel_rfl) (by kernel_rfl) rfl (by kernel_rfl) (by kernel_rfl) (by kernel_rfl) (fun _ _ _ h => h) (Or.inl ⟨by first | rfl | simp [Region.wanted, yielded], ?k5vy⟩) trivial ?k5vr
        case k5vy => intro ww hSw; obtain _hT := hSw; (go_simp <;> with_reducible rfl)
        try simp only [Act.put, List.getElem_toArray, List.getElem_cons_zero, List.getElem_cons_succ, List.setIfInBounds_toArray, List.set_cons_zero, List.set_cons_succ]
        refine RegE.take (i := 5) (v := undef) rfl (by kernel_rfl) (by kernel_rfl) rfl (by kernel_rfl) (by kernel_rfl) (by kernel_rfl) (fun _ _ _ h => h) (Or.inr ⟨by first | rfl | simp [Region.wanted, yielded], rfl⟩) trivial ?k6vr
        try simp only [Act.put, List.getElem_toArray, List.getElem_cons_zero, List.getElem_cons_succ, List.setIfInBounds_toArray, List.set_cons_zero, List.set_cons_succ]
        refine RegE.take (i := 6) (v := undef) rfl (by kernel_rfl) (by kernel_rfl) rfl (by kernel_rfl) (by kernel_rfl) (by kernel_rfl) (fun _ _ _ h => h) (Or.inr ⟨by first | rfl | simp [Region.wanted, yielded], rfl⟩) trivial ?k7vr
        try simp only [Act.put, List.getElem_toArray, List.getElem_cons_zero, List.getElem_cons_succ, List.setIfInBounds_toArray, List.set_cons_zero, List.set_cons_succ]
        refine RegE.take (i := 7) (v := undef) rfl (by kernel_rfl) (by kernel_rfl) rfl (by kernel_rfl) (by kernel_rfl) (by kernel_rfl) (fun _ _ _ h => h) (Or.inr ⟨by first | rfl | simp [Region.wanted, yielded], rfl⟩) trivial ?k8vr
        try simp only [Act.put, List.getElem_toArray, List.getElem_cons_zero, List.getElem_cons_succ, List.setIfInBounds_toArray, List.set_cons_zero, List.set_cons_succ]
        refine RegE.take (i := 8) (v := undef) rfl (by kernel_rfl) (by kernel_rfl) rfl (by kernel_rfl) (by kernel_rfl) (by kernel_rfl) (fun _ _ _ h => h) (Or.inr ⟨by first | rfl | simp [Region.wanted, yielded], rfl⟩) trivial ?k9vr
        try simp only [Act.put, List.getElem_toArray, List.getElem_cons_zero, List.getElem_cons_succ, List.setIfInBounds_toArray, List.set_cons_zero, List.set_cons_succ]
        refine RegE.take (i := 9) (v := undef) rfl (by kernel_rfl) (by kernel_rfl) rfl (by kernel_rfl) (by kernel_rfl) (by kernel_rfl) (fun _ _ _ h => h) (Or.inr ⟨by first | rfl | simp [Region.wanted, yielded], rfl⟩) trivial ?k10vr
        try simp only [Act.put, List.getElem_toArray, List.getElem_cons_zero, List.getElem_cons_succ, List.setIfInBounds_toArray, List.set_cons_zero, List.set_cons_succ]
        refine RegE.take (i := 10) (v := undef) rfl (by kernel_rfl) (by kernel_rfl) rfl (by kernel_rfl) (by kernel_rfl) (by kernel_rfl) (fun _ _ _ h => h) (Or.inr ⟨by first | rfl | simp [Region.wanted, yielded], rfl⟩) trivial ?k11vr
        try simp only [Act.put, List.getElem_toArray, List.getElem_cons_zero, List.getElem_cons_succ, List.setIfInBounds_toArray, List.set_cons_zero, List.set_cons_succ]
        refine RegE.done rfl (by kernel_rfl) (fun K hK => ?_)
        go_simp
        refine hK _ _ ?_
        clear hK K
        go_wp2_with fail
        go_ret
        exact ⟨by rw [HV.out]; rfl, HB.out.trans (hbr.drew.mono HB.out.size)⟩

end Go.Proofs.YtojincohnjophaaGreatDoor
