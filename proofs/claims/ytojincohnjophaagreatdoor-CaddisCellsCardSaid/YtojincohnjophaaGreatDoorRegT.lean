/- As RegS, where a store waits for an operation through others. A law for a region that draws its order: calls, loads and allocations in any order, each by what it leaves ('G', which later allocations do not end), and then the stores. (merged: RegS RegT) -/
import Derived.Deep.RegionHeld3
import Derived.Deep.RegionLaw
import Derived.KernelRfl
import Derived.Test.YtojincohnjophaaGreatDoorTreePure
/-! A law for a region that draws its order: calls, loads and allocations in any order, each by what it leaves ('G', which later allocations do not end), and then the stores. -/
namespace Go.Proofs.YtojincohnjophaaGreatDoor.RegS
open Go Go.RowKit
set_option linter.unusedVariables false

section
variable {P : Program} {ops : Array Oper} {Q : Exit → Act → World → Prop} {md : Region.Mode}

/-- what the operations' slots hold -/
def upd (u : Nat → Value) (i : Nat) (v : Value) : Nat → Value := fun j => if j = i then v else u j
theorem upd_ne {u : Nat → Value} {i j : Nat} {v : Value} (h : j ≠ i) : upd u i v j = u j := by simp [upd, h]
theorem upd_self {u : Nat → Value} {i : Nat} {v : Value} : upd u i v i = v := by simp [upd]
def putSome (ds : List Nat) (u : Nat → Value) (L : Array Bool) (a : Act) : Nat → Act
  | 0 => a
  | k + 1 => if L.getD k false = true then (putSome ds u L a k).put (some (ds.getD k 0)) (u k) else putSome ds u L a k
def putAll (ds : List Nat) (u : Nat → Value) (a : Act) : Nat → Act
  | 0 => a
  | k + 1 => (putAll ds u a k).put (some (ds.getD k 0)) (u k)
def calm : Op → Bool
  | .defer .. => false
  | .select .. => false
  | _ => true
def waits (md : Region.Mode) (oj : Oper) (i : Nat) : Bool := oj.after.toList.any fun e => Region.binds md e && decide (e.on = i)
def nodupB : List Nat → Bool
  | [] => true
  | d :: l => !l.contains d && nodupB l
/-- what the region's form has to be -/
def okB (md : Region.Mode) (ops : Array Oper) (ds : List Nat) (pure : List Nat) : Bool :=
  nodupB ds && Region.noSelect ops && decide (ds.length ≤ ops.size) &&
  ((List.range ds.length).all fun i => match ops[i]? with
    | some o => decide (o.dst = some (ds.getD i 0)) && o.guard.isNone && calm o.op && (o.after.toList.all fun e => !Region.binds md e || decide (e.on < i)) &&
        ((List.range ds.length).all fun j => !(o.looksAt ops).contains (ds.getD j 0) || waits md o j) &&
        (!pure.contains i || ((List.range ops.size).all fun j => match ops[j]? with
          | some oj => decide (j = i) || waits md oj i || waits md o j || o.apart ops oj
          | none => true))
    | none => false) &&
  ((List.range ops.size).all fun t => decide (t < ds.length) || match ops[t]? with
    | some o => (List.range ds.length).all fun j => waits md o j || (pure.contains j && match ops[j]? with
        | some oj => oj.after.toList.all fun e => !Region.binds md e || waits md o e.on
        | none => false)
    | none => true)

structure Ok (md : Region.Mode) (ops : Array Oper) (ds : List Nat) (pure : List Nat) : Prop where
  nodup : ∀ i j, i < ds.length → j < ds.length → ds.getD i 0 = ds.getD j 0 → i = j
  sel : Region.noSelect ops = true
  le : ds.length ≤ ops.size
  op : ∀ i, i < ds.length → ∃ o, ops[i]? = some o ∧ o.dst = some (ds.getD i 0) ∧ o.guard = none ∧ calm o.op = true ∧ (∀ e ∈ o.after, Region.binds md e = true → e.on < i) ∧
    (∀ j, j < ds.length → (o.looksAt ops).contains (ds.getD j 0) = true → waits md o j = true) ∧
    (pure.contains i = true → ∀ j oj, ops[j]? = some oj → j ≠ i → waits md oj i = false → waits md o j = false → o.apart ops oj = true)
  tail : ∀ t o, ops[t]? = some o → ds.length ≤ t → ∀ j, j < ds.length → waits md o j = true ∨ (pure.contains j = true ∧ ∃ oj, ops[j]? = some oj ∧ ∀ e ∈ oj.after, Region.binds md e = true → waits md o e.on = true)

theorem waits_iff {oj : Oper} {i : Nat} : waits md oj i = true ↔ ∃ e ∈ oj.after, Region.binds md e = true ∧ e.on = i := by
  unfold waits
  simp only [List.any_eq_true, Bool.and_eq_true, decide_eq_true_eq, Array.mem_toList_iff]
theorem nodup_of : ∀ {ds : List Nat}, nodupB ds = true → ∀ i j, i < ds.length → j < ds.length → ds.getD i 0 = ds.getD j 0 → i = j := by
  intro ds
  induction ds with
  | nil => intro _ i j hi; simp at hi
  | cons d l ih =>
    intro h i j hi hj he
    simp only [nodupB, Bool.and_eq_true, Bool.not_eq_true'] at h
    have hm : ∀ k, k < l.length → l.getD k 0 ∈ l := fun k hk => by
      rw [List.getD_eq_getElem?_getD, List.getElem?_eq_getElem hk]; exact List.getElem_mem hk
    have hd : d ∉ l := by simpa using h.1
    cases i with
    | zero =>
      cases j with
      | zero => rfl
      | succ j =>
        simp only [List.getD_cons_zero, List.getD_cons_succ] at he
        exact absurd (he ▸ hm j (by simpa using hj)) hd
    | succ i =>
      cases j with
      | zero =>
        simp only [List.getD_cons_zero, List.getD_cons_succ] at he
        exact absurd (he ▸ hm i (by simpa using hi)) hd
      | succ j =>
        simp only [List.getD_cons_succ] at he
        rw [ih h.2 i j (by simpa using hi) (by simpa using hj) he]
theorem ok_of {ds pure : List Nat} (h : okB md ops ds pure = true) : Ok md ops ds pure := by
  unfold okB at h
  simp only [Bool.and_eq_true, decide_eq_true_eq, List.all_eq_true, List.mem_range] at h
  obtain ⟨⟨⟨⟨h1, h2⟩, h3⟩, h4⟩, h5⟩ := h
  refine ⟨nodup_of h1, h2, h3, fun i hi => ?_, fun t o ho ht j hj => ?_⟩
  · have := h4 i hi
    have hlt : i < ops.size := by omega
    rw [Array.getElem?_eq_getElem hlt] at this
    simp only [Bool.and_eq_true, decide_eq_true_eq, List.all_eq_true, List.mem_range, Bool.or_eq_true, Bool.not_eq_true', Array.mem_toList_iff] at this
    obtain ⟨⟨⟨⟨⟨q1, q2⟩, q3⟩, q4⟩, q5⟩, q6⟩ := this
    refine ⟨ops[i], Array.getElem?_eq_getElem hlt, q1, by simpa using q2, q3, fun e he hb => (q4 e he).resolve_left (by simp [hb]), fun j hj hc => (q5 j hj).resolve_left (by rw [hc]; decide), fun hp j oj hoj hji hw1 hw2 => ?_⟩
    have q7 := q6.resolve_left (by rw [hp]; decide) j (Array.getElem?_eq_some_iff.1 hoj).1
    rw [hoj] at q7
    simp only [Bool.or_eq_true, decide_eq_true_eq, hw1, hw2] at q7
    simpa [hji] using q7
  · have := h5 t (Array.getElem?_eq_some_iff.1 ho).1
    rw [Bool.or_eq_true, decide_eq_true_eq] at this
    replace this := this.resolve_left (by omega)
    rw [ho] at this
    simp only [List.all_eq_true, List.mem_range, Bool.or_eq_true, Bool.and_eq_true] at this
    rcases this j hj with q | ⟨q1, q2⟩
    · exact .inl q
    · refine .inr ⟨q1, ?_⟩
      split at q2
      · rename_i oj hoj
        simp only [List.all_eq_true, Bool.or_eq_true, Bool.not_eq_true', Array.mem_toList_iff] at q2
        exact ⟨oj, hoj, fun e he hb => (q2 e he).resolve_left (by simp [hb])⟩
      · cases q2

/-- how many of the first m are not listed -/
def unl (L : Array Bool) : Nat → Nat
  | 0 => 0
  | m + 1 => unl L m + (if L.getD m false = true then 0 else 1)
theorem unl_other {L : Array Bool} {i : Nat} : ∀ m, m ≤ i → unl (L.setIfInBounds i true) m = unl L m := by
  intro m
  induction m with
  | zero => intro _; rfl
  | succ m ih => intro h; simp only [unl]; rw [ih (by omega), getD_set_ne false (by omega : i ≠ m)]
theorem unl_set {L : Array Bool} {i : Nat} (hi : i < L.size) (hl : L.getD i false = false) : ∀ m, i < m → unl (L.setIfInBounds i true) m + 1 = unl L m := by
  intro m
  induction m with
  | zero => intro h; omega
  | succ m ih =>
    intro h
    simp only [unl]
    by_cases hm : i = m
    · subst hm
      rw [unl_other _ (Nat.le_refl _), if_pos (by simp [hi]), if_neg (by simp [hl])]
    · rw [getD_set_ne false hm, ← ih (by omega)]; omega
theorem unl_zero {L : Array Bool} : ∀ m, unl L m = 0 → ∀ j, j < m → L.getD j false = true := by
  intro m
  induction m with
  | zero => intro _ j hj; omega
  | succ m ih =>
    intro h j hj
    simp only [unl] at h
    split at h
    · rename_i hm
      by_cases hjm : j = m
      · subst hjm; exact hm
      · exact ih (by omega) j (by omega)
    · omega
theorem unl_pos {L : Array Bool} : ∀ m, 0 < unl L m → ∃ j, j < m ∧ L.getD j false = false := by
  intro m
  induction m with
  | zero => intro h; simp [unl] at h
  | succ m ih =>
    intro h
    cases hl : L.getD m false with
    | false => exact ⟨m, by omega, hl⟩
    | true =>
      simp only [unl, hl, if_true] at h
      obtain ⟨j, h1, h2⟩ := ih (by omega)
      exact ⟨j, by omega, h2⟩

theorem putSome_size (ds : List Nat) (u : Nat → Value) (L : Array Bool) (a : Act) : ∀ k, (putSome ds u L a k).tmps.size = a.tmps.size := by
  intro k
  induction k with
  | zero => rfl
  | succ k ih => simp only [putSome]; split <;> simp [Act.put, ih]
theorem putAll_size (ds : List Nat) (u : Nat → Value) (a : Act) : ∀ k, (putAll ds u a k).tmps.size = a.tmps.size := by
  intro k
  induction k with
  | zero => rfl
  | succ k ih => simp [putAll, Act.put, ih]
theorem putSome_all {ds : List Nat} {u : Nat → Value} {L : Array Bool} {a : Act} : ∀ k, (∀ j, j < k → L.getD j false = true) → putSome ds u L a k = putAll ds u a k := by
  intro k
  induction k with
  | zero => intro _; rfl
  | succ k ih => intro h; rw [putSome, if_pos (h k (by omega)), ih fun j hj => h j (by omega)]; rfl
theorem putSome_none {ds : List Nat} {u : Nat → Value} {L : Array Bool} {a : Act} : ∀ k, (∀ j, j < k → L.getD j false = false) → putSome ds u L a k = a := by
  intro k
  induction k with
  | zero => intro _; rfl
  | succ k ih => intro h; rw [putSome, if_neg (by simp [h k (by omega)]), ih fun j hj => h j (by omega)]
/-- a slot reads the same where it is one of those that have come up, or none of the operations' -/
theorem putSome_tmp {ds : List Nat} {u : Nat → Value} {L : Array Bool} {a : Act} {t : Nat} : ∀ k, (∀ j, j < k → ds.getD j 0 = t → L.getD j false = true) → (putSome ds u L a k).tmps[t]? = (putAll ds u a k).tmps[t]? := by
  intro k
  induction k with
  | zero => intro _; rfl
  | succ k ih =>
    intro h
    have ih' := ih fun j hj => h j (by omega)
    simp only [putSome, putAll]
    split
    · simp only [Act.put, Array.getElem?_setIfInBounds, putSome_size, putAll_size, ih']
    · rename_i hl
      have hne : ds.getD k 0 ≠ t := fun e => hl (h k (by omega) e)
      simp only [Act.put, Array.getElem?_setIfInBounds_ne hne, ih']
theorem putSome_out {ds : List Nat} {u : Nat → Value} {L : Array Bool} {a : Act} {i : Nat} {v : Value} : ∀ k, k ≤ i → putSome ds (upd u i v) (L.setIfInBounds i true) a k = putSome ds u L a k := by
  intro k
  induction k with
  | zero => intro _; rfl
  | succ k ih =>
    intro h
    simp only [putSome]
    rw [ih (by omega), getD_set_ne false (by omega : i ≠ k), upd_ne (by omega)]
theorem putSome_set {ds : List Nat} {u : Nat → Value} {L : Array Bool} {a : Act} {i : Nat} {v : Value} (hi : i < L.size) (hl : L.getD i false = false) (hn : ∀ j, ds.getD i 0 = ds.getD j 0 → j < ds.length → i = j) :
    ∀ k, i < k → k ≤ ds.length → putSome ds (upd u i v) (L.setIfInBounds i true) a k = (putSome ds u L a k).put (some (ds.getD i 0)) v := by
  intro k
  induction k with
  | zero => intro h _; omega
  | succ k ih =>
    intro h hk
    by_cases hik : i = k
    · subst hik
      simp only [putSome]
      rw [putSome_out _ (Nat.le_refl _), if_pos (by simp [hi]), if_neg (by simp [hl]), upd_self]
    · have ih' := ih (by omega) (by omega)
      simp only [putSome]
      rw [getD_set_ne false hik]
      split
      · rw [ih', Act.put_comm _ _ _ (fun d hd => by
          simp only [Option.some.injEq] at hd ⊢
          intro e
          exact hik (hn k (hd.trans (Option.some.inj e).symm) (by omega))), upd_ne (by omega)]
      · exact ih'

/-- What the operations leave, and the law. -/
structure Spec (P : Program) (ops : Array Oper) (ds pure fresh : List Nat) (a0 : Act) (w0 : World) (G : Nat → Value → World → Prop) : Prop where
  inb : (ds.all fun d => decide (d < a0.tmps.size)) = true
  notboth : (pure.all fun i => !fresh.contains i) = true
  keep : ∀ i, i < ds.length → ∀ v w w', Below w.heap.size w w' → G i v w → G i v w'
  quiet : ∀ i o, i < ds.length → pure.contains i = true → ops[i]? = some o → ∀ (u : Nat → Value) (w : World),
    (∀ j, j < ds.length → (o.looksAt ops).contains (ds.getD j 0) = true → G j (u j) w) → ∃ v, (∀ w', (execOp (putAll ds u a0 ds.length).eval o).run P w' = .ok (.value v) w') ∧ G i v w
  step : ∀ i o, i < ds.length → pure.contains i = false → ops[i]? = some o → ∀ (u : Nat → Value) (w : World), Below w0.heap.size w0 w →
    (∀ j, j < ds.length → (o.looksAt ops).contains (ds.getD j 0) = true → G j (u j) w) →
    ∀ K : Act → World → Prop, (∀ a2 w2, a2.defers = (putAll ds u a0 ds.length).defers → Below w.heap.size w w2 → G i (a2.eval (.tmp (ds.getD i 0))) w2 → (fresh.contains i = true → a2.eval (.tmp (ds.getD i 0)) = .pointer (some ⟨w.heap.size, 0, none⟩) ∧ w.heap.size < w2.heap.size) → K a2 w2) →
    o.wp P (putAll ds u a0 ds.length) w K (fun _ _ _ => False)

/-- what holds between two operations -/
structure J (md : Region.Mode) (ops : Array Oper) (ds fresh : List Nat) (a0 : Act) (w0 : World) (G : Nat → Value → World → Prop) (L : Array Bool) (u : Nat → Value) (a : Act) (w : World) : Prop where
  act : a = putSome ds u L a0 ds.length
  below : Below w0.heap.size w0 w
  facts : ∀ j, j < ds.length → L.getD j false = true → G j (u j) w
  ptr : ∀ j, j < ds.length → L.getD j false = true → fresh.contains j = true → ∃ b, u j = .pointer (some ⟨b, 0, none⟩) ∧ w0.heap.size ≤ b ∧ b < w.heap.size
  apart : ∀ i j, i < ds.length → j < ds.length → i ≠ j → L.getD i false = true → L.getD j false = true → fresh.contains i = true → fresh.contains j = true → u i ≠ u j

theorem eval_put_self {a : Act} {d : Nat} (h : d < a.tmps.size) (v : Value) : (a.put (some d) v).eval (.tmp d) = v := by
  simp [Act.eval, Act.put, h]

theorem getD_tf' {L : Array Bool} {i : Nat} (h : L.getD i true = false) : L.getD i false = false ∧ i < L.size := by
  rcases Nat.lt_or_ge i L.size with h' | h'
  · simp [h'] at h ⊢; exact h
  · simp [Array.getElem?_eq_none h'] at h
theorem getD_ft' {L : Array Bool} {i : Nat} (hi : i < L.size) (h : L.getD i false = false) : L.getD i true = false := by
  simp [hi] at h ⊢; exact h

theorem J.set {ds pure fresh : List Nat} {a0 : Act} {w0 : World} {G : Nat → Value → World → Prop} {L : Array Bool} {u : Nat → Value} {a : Act} {w w2 : World} {i : Nat} {v : Value}
    (ok : Ok md ops ds pure) (sp : Spec P ops ds pure fresh a0 w0 G) (hJ : J md ops ds fresh a0 w0 G L u a w) (hi : i < ds.length) (hsz : L.size = ops.size) (hl : L.getD i false = false)
    (hb : Below w.heap.size w w2) (hG : G i v w2) (hf : fresh.contains i = true → v = .pointer (some ⟨w.heap.size, 0, none⟩) ∧ w.heap.size < w2.heap.size) :
    J md ops ds fresh a0 w0 G (L.setIfInBounds i true) (upd u i v) (a.put (some (ds.getD i 0)) v) w2 := by
  have hlt : i < L.size := by have := ok.le; omega
  have low := hJ.below.size
  have old : ∀ j, j ≠ i → upd u i v j = u j := fun j hj => by simp [upd, hj]
  have new : upd u i v i = v := by simp [upd]
  have oldL : ∀ j, j ≠ i → (L.setIfInBounds i true).getD j false = true → L.getD j false = true := fun j hj h => by rwa [getD_set_ne false (Ne.symm hj)] at h
  refine ⟨?_, hJ.below.trans (hb.mono low), fun j hj hL => ?_, fun j hj hL hfr => ?_, fun j k hj hk hjk hLj hLk fj fk => ?_⟩
  · rw [hJ.act, putSome_set hlt hl (fun j h hj => ok.nodup i j hi hj h) _ hi (Nat.le_refl _)]
  · by_cases hji : j = i
    · subst hji; rw [new]; exact hG
    · rw [old j hji]; exact sp.keep j hj _ _ _ hb (hJ.facts j hj (oldL j hji hL))
  · by_cases hji : j = i
    · subst hji
      obtain ⟨e, h2⟩ := hf hfr
      exact ⟨_, new.trans e, low, h2⟩
    · obtain ⟨b, e, h1, h2⟩ := hJ.ptr j hj (oldL j hji hL) hfr
      exact ⟨b, (old j hji).trans e, h1, by have := hb.size; omega⟩
  · by_cases hji : j = i
    · subst hji
      have hkj : k ≠ j := fun e => hjk e.symm
      obtain ⟨b, e, _, h2⟩ := hJ.ptr k hk (oldL k hkj hLk) fk
      rw [new, old k hkj, (hf fj).1, e]
      intro h; injection h with h; injection h with h; injection h with h; omega
    · by_cases hki : k = i
      · subst hki
        obtain ⟨b, e, _, h2⟩ := hJ.ptr j hj (oldL j hji hLj) fj
        rw [new, old j hji, (hf fk).1, e]
        intro h; injection h with h; injection h with h; injection h with h; omega
      · rw [old j hji, old k hki]
        exact hJ.apart j k hj hk hjk (oldL j hji hLj) (oldL k hki hLk) fj fk

/-- an operation's run hangs on what it looks at alone -/
theorem same_run {o : Oper} {a a' : Act} (hc : calm o.op = true) (h : ∀ t, (o.looksAt ops).contains t = true → a.tmps[t]? = a'.tmps[t]?) : execOp a.eval o = execOp a'.eval o := by
  refine execOp_congr o (fun cs b e => by rw [e] at hc; cases hc) fun x hx => ?_
  cases x with
  | tmp t =>
    have : t ∈ o.looksAt ops := List.mem_append_left _ (List.mem_filterMap.2 ⟨.tmp t, by simpa using hx, rfl⟩)
    have := h t (by simpa using this)
    simp [Act.eval, this]
  | _ => rfl

theorem wp_same {o : Oper} {a a' : Act} {w : World} {d : Nat} {R : Value → World → Prop} {K : Act → World → Prop} (hc : calm o.op = true) (he : execOp a.eval o = execOp a'.eval o) (hd : o.dst = some d) (hin : d < a'.tmps.size)
    (h : o.wp P a' w (fun a2 w2 => a2.defers = a'.defers ∧ R (a2.eval (.tmp d)) w2) (fun _ _ _ => False)) (hK : ∀ v w2, R v w2 → K (a.put (some d) v) w2) : o.wp P a w K Q := by
  have hself : ∀ v, (a'.put (some d) v).eval (.tmp d) = v := fun v => eval_put_self hin v
  unfold Oper.wp at *
  rw [he]
  generalize hr : (execOp a'.eval o).run P w = r at *
  cases r with
  | ok n w' =>
    cases n <;> simp only [Oper.upon, hd] at h ⊢
    case value u => rw [hself] at h; exact hK _ _ h.2
    case skip => rw [hself] at h; exact hK _ _ h.2
    case defer x =>
      have := congrArg List.length h.1
      simp [Act.put] at this
    case enter f args =>
      refine Calls.mono h fun e w'' he => ?_
      cases e with
      | returned u => simp only [hself] at he; exact hK _ _ he.2
      | panicked c => exact he.elim
      | outgrown => obtain ⟨_, _, hf⟩ := he; exact hf.elim
    case row row args => exact Rows.mono h fun u w'' he => by rw [hself] at he; exact hK _ _ he.2
  | halt x w' =>
    cases x <;> simp only [Oper.upon] at h ⊢

/-- some operation may come up where one has not -/
theorem some_ready {ds pure : List Nat} {L : Array Bool} (ok : Ok md ops ds pure) (hsz : L.size = ops.size) {j : Nat} (hj : j < ds.length) (hl : L.getD j false = false) : ∃ i, i < ds.length ∧ i ∈ Region.ready md ops L := by
  induction j using Nat.strongRecOn with
  | _ j ih =>
    obtain ⟨o, ho, _, _, _, hback, _⟩ := ok.op j hj
    by_cases h : ∀ e ∈ o.after, Region.binds md e = true → L.getD e.on false = true
    · exact ⟨j, hj, mem_ready.2 ⟨getD_ft' (by have := ok.le; omega) hl, o, ho, h⟩⟩
    · simp only [Classical.not_forall] at h
      obtain ⟨e, he, hb, hn⟩ := h
      exact ih e.on (hback e he hb) (by have := hback e he hb; omega) (by simpa using hn)

theorem go {ds pure fresh : List Nat} {a0 : Act} {w0 : World} {G : Nat → Value → World → Prop} {f : Nat} (ok : Ok md ops ds pure) (sp : Spec P ops ds pure fresh a0 w0 G)
    (hQ : ∀ c a d v w, Q (.panic c) (Act.put a d v) w → Q (.panic c) a w)
    (tail : ∀ (L : Array Bool) (u : Nat → Value) (w : World), L.size = ops.size → (∀ j, j < ops.size → L.getD j false = decide (j < ds.length)) → J md ops ds fresh a0 w0 G L u (putAll ds u a0 ds.length) w → wpAny P md ops Q f L (putAll ds u a0 ds.length) w) :
    ∀ (k : Nat) (L : Array Bool) (u : Nat → Value) (a : Act) (w : World), unl L ds.length = k → L.size = ops.size → (∀ t, ds.length ≤ t → L.getD t false = false) → J md ops ds fresh a0 w0 G L u a w → wpAny P md ops Q (k + f) L a w := by
  intro k
  induction k with
  | zero =>
    intro L u a w hk hsz ht hJ
    have hall := unl_zero _ hk
    have ha := hJ.act
    rw [putSome_all _ hall] at ha
    subst ha
    rw [Nat.zero_add]
    refine tail L u w hsz (fun j hj => ?_) hJ
    by_cases h : j < ds.length
    · rw [hall j h]; simp [h]
    · rw [ht j (by omega)]; simp [h]
  | succ k ih =>
    intro L u a w hk hsz ht hJ
    obtain ⟨j0, hj0, hl0⟩ := unl_pos ds.length (L := L) (by omega)
    -- one step
    have sized : ∀ i, i < ds.length → L.getD i false = false → unl (L.setIfInBounds i true) ds.length = k ∧ (L.setIfInBounds i true).size = ops.size ∧ ∀ t, ds.length ≤ t → (L.setIfInBounds i true).getD t false = false := fun i hi hl =>
      ⟨by have := unl_set (by have := ok.le; omega) hl _ hi; omega, by simp [hsz], fun t htl => by rw [getD_set_ne false (by omega)]; exact ht t htl⟩
    have seen : ∀ i o, i < ds.length → ops[i]? = some o → i ∈ Region.ready md ops L → (∀ j, j < ds.length → (o.looksAt ops).contains (ds.getD j 0) = true → L.getD j false = true) := fun i o hi ho hr j hj hc => by
      obtain ⟨_, o', ho', hall⟩ := mem_ready.1 hr
      obtain rfl : o' = o := Option.some.inj (ho'.symm.trans ho)
      obtain ⟨o2, ho2, _, _, _, _, hw, _⟩ := ok.op i hi
      obtain rfl : o2 = o' := Option.some.inj (ho2.symm.trans ho)
      obtain ⟨e, he, hb, hon⟩ := waits_iff.1 (hw j hj hc)
      rw [← hon]; exact hall e he hb
    have run : ∀ i o, i < ds.length → ops[i]? = some o → i ∈ Region.ready md ops L → execOp a.eval o = execOp (putAll ds u a0 ds.length).eval o := fun i o hi ho hr => by
      obtain ⟨o2, ho2, _, _, hc, _⟩ := ok.op i hi
      obtain rfl : o2 = o := Option.some.inj (ho2.symm.trans ho)
      refine same_run (ops := ops) hc fun t htl => ?_
      rw [hJ.act]
      exact putSome_tmp _ fun j hj e => seen i o2 hi ho hr j hj (by rw [e]; exact htl)
    by_cases hp : ∃ i, i < ds.length ∧ pure.contains i = true ∧ i ∈ Region.ready md ops L
    · obtain ⟨i, hi, hpi, hr⟩ := hp
      obtain ⟨o, ho, hd, hg, hc, _, _, hap⟩ := ok.op i hi
      have hl := (getD_tf' (mem_ready.1 hr).1).1
      obtain ⟨v, hv, hGv⟩ := sp.quiet i o hi hpi ho u w fun j hj hjc => hJ.facts j hj (seen i o hi ho hr j hj hjc)
      obtain ⟨q1, q2, q3⟩ := sized i hi hl
      have hfr : fresh.contains i = true → v = .pointer (some ⟨w.heap.size, 0, none⟩) ∧ w.heap.size < w.heap.size := fun h => by have := List.all_eq_true.1 sp.notboth i (by simpa using hpi); rw [h] at this; cases this
      rw [show k + 1 + f = (k + f) + 1 by omega]
      refine wpAny_first (v := v) ho (Region.noSelect_spec ok.sel) (fun c a w => hQ c a _ _ w) (k + f) L a w (fun j oj hoj hji hun hno => ?_) hr (.inl ⟨by simp [Region.wanted, hg], fun w' => by rw [run i o hi ho hr]; exact hv w'⟩) ?_
      · refine hap hpi j oj hoj hji ?_ ?_
        · cases hw : waits md oj i with
          | false => rfl
          | true => obtain ⟨e, he, hb, hon⟩ := waits_iff.1 hw; exact absurd hon (hno e he hb)
        · cases hw : waits md o j with
          | false => rfl
          | true =>
            obtain ⟨e, he, hb, hon⟩ := waits_iff.1 hw
            obtain ⟨_, o', ho', hall⟩ := mem_ready.1 hr
            obtain rfl : o' = o := Option.some.inj (ho'.symm.trans ho)
            have := hall e he hb
            rw [hon, (getD_tf' hun).1] at this; cases this
      · rw [hd]
        exact ih _ _ _ _ q1 q2 q3 (hJ.set ok sp hi hsz hl (Below.refl _ _) hGv hfr)
    · rw [show k + 1 + f = (k + f) + 1 by omega]
      obtain ⟨i0, hi0, hr0⟩ := some_ready ok hsz hj0 hl0
      refine ⟨fun h => absurd (h ▸ hr0) (by simp), fun i hr => ?_⟩
      have hl := (getD_tf' (mem_ready.1 hr).1).1
      by_cases hi : i < ds.length
      · obtain ⟨o, ho, hd, hg, hc, _⟩ := ok.op i hi
        have hpi : pure.contains i = false := by
          cases h : pure.contains i with
          | false => rfl
          | true => exact absurd ⟨i, hi, h, hr⟩ hp
        obtain ⟨q1, q2, q3⟩ := sized i hi hl
        have hst := sp.step i o hi hpi ho u w hJ.below fun j hj hjc => hJ.facts j hj (seen i o hi ho hr j hj hjc)
        replace hst := hst _ fun a2 w2 h1 h2 h3 h4 => And.intro h1 (And.intro h2 (And.intro h3 h4))
        unfold wpOp
        rw [ho]
        simp only
        rw [if_pos (by simp [Region.wanted, hg])]
        refine .inl (wp_same (R := fun v w2 => Below w.heap.size w w2 ∧ G i v w2 ∧ (fresh.contains i = true → v = .pointer (some ⟨w.heap.size, 0, none⟩) ∧ w.heap.size < w2.heap.size)) hc (run i o hi ho hr) hd (by rw [putAll_size]; exact of_decide_eq_true (List.all_eq_true.1 sp.inb _ (by rw [List.getD_eq_getElem?_getD, List.getElem?_eq_getElem hi]; exact List.getElem_mem hi))) hst fun v w2 hR => ?_)
        exact ih _ _ _ _ q1 q2 q3 (hJ.set ok sp hi hsz hl hR.1 hR.2.1 hR.2.2)
      · obtain ⟨hun, o, ho, hall⟩ := mem_ready.1 hr
        have come : ∀ j, waits md o j = true → L.getD j false = true := fun j hw => by
          obtain ⟨e, he, hb, hon⟩ := waits_iff.1 hw
          rw [← hon]; exact hall e he hb
        exfalso
        rcases ok.tail i o ho (by omega) j0 hj0 with h | ⟨hpj, oj, hoj, hw⟩
        · rw [come j0 h] at hl0; cases hl0
        · exact hp ⟨j0, hj0, hpj, mem_ready.2 ⟨getD_ft' (by have := ok.le; omega) hl0, oj, hoj, fun e he hb => come _ (hw e he hb)⟩⟩

theorem unl_replicate (n : Nat) : ∀ m, m ≤ n → unl (Array.replicate n false) m = m := by
  intro m
  induction m with
  | zero => intro _; rfl
  | succ m ih => intro h; simp only [unl]; rw [ih (by omega), if_neg (by simp [show m < n by omega])]

/-- each of the stores waits for the one ahead of it -/
def rowB (md : Region.Mode) (ops : Array Oper) (n : Nat) : Bool :=
  (List.range ops.size).all fun t => decide (t < n) || match ops[t]? with
    | some o => (decide (t = n) || waits md o (t - 1)) && o.after.toList.all fun e => !Region.binds md e || decide (e.on < t)
    | none => true
theorem row_of {n : Nat} (h : rowB md ops n = true) : ∀ t o, ops[t]? = some o → n ≤ t → (n < t → waits md o (t - 1) = true) ∧ ∀ e ∈ o.after, Region.binds md e = true → e.on < t := by
  intro t o ho ht
  unfold rowB at h
  simp only [List.all_eq_true, List.mem_range] at h
  have := h t (Array.getElem?_eq_some_iff.1 ho).1
  rw [ho, Bool.or_eq_true, decide_eq_true_eq] at this
  replace this := this.resolve_left (by omega)
  simp only [Bool.and_eq_true, Bool.or_eq_true, decide_eq_true_eq, List.all_eq_true, Bool.not_eq_true', Array.mem_toList_iff] at this
  exact ⟨fun hlt => this.1.resolve_left (by omega), fun e he hb => (this.2 e he).resolve_left (by simp [hb])⟩
theorem row_go {n : Nat} (hr : ∀ t o, ops[t]? = some o → n ≤ t → (n < t → waits md o (t - 1) = true) ∧ ∀ e ∈ o.after, Region.binds md e = true → e.on < t) :
    ∀ (f k : Nat) (L : Array Bool) (a : Act) (w : World), n ≤ k → ops.size = k + f → L.size = ops.size → (∀ j, j < ops.size → L.getD j false = decide (j < k)) → wpOps P ops Q (List.range' k f) a w → wpAny P md ops Q f L a w := by
  intro f
  induction f with
  | zero =>
    intro k L a w hk hs hL hl h
    refine ⟨List.eq_nil_iff_forall_not_mem.2 fun i hi => ?_, h⟩
    have h1 := (getD_tf' (mem_ready.1 hi).1)
    rw [hl i (by omega)] at h1
    have := h1.2
    simp at h1; omega
  | succ f ih =>
    intro k L a w hk hs hL hl h
    have hkl : k < ops.size := by omega
    have ho : ops[k]? = some ops[k] := Array.getElem?_eq_getElem hkl
    have hup : k ∈ Region.ready md ops L := mem_ready.2 ⟨getD_ft' (by omega) (by rw [hl k hkl]; simp), _, ho, fun e he hb => by
      have := (hr k _ ho hk).2 e he hb
      rw [hl _ (by omega)]; simp [this]⟩
    refine ⟨fun h0 => absurd (h0 ▸ hup) (by simp), fun i hi => ?_⟩
    obtain ⟨hun, o, hoi, hall⟩ := mem_ready.1 hi
    have h1 := getD_tf' hun
    have hik : i = k := by
      have hlt : i < ops.size := by have := h1.2; omega
      have hge : ¬ i < k := by
        intro hlt'
        have := h1.1
        rw [hl i hlt] at this
        simp at this; omega
      rcases Nat.lt_or_ge k i with hki | hki
      · obtain ⟨e, he, hb, hon⟩ := waits_iff.1 ((hr i o hoi (by omega)).1 (by omega))
        have := hall e he hb
        rw [hon, hl _ (by omega)] at this
        simp at this; omega
      · omega
    subst hik
    rw [List.range'_succ, wpOps_cons] at h
    refine wpOp_mono (fun a' w' h' => ih (i + 1) _ a' w' (by omega) (by omega) (by simp [hL]) (fun j hj => ?_) h') h
    by_cases hji : i = j
    · subst hji
      simp [h1.2]
    · rw [getD_set_ne false hji, hl j hj]
      simp; omega

/-- The law: what the operations have left, in whatever order, and then the stores. -/
theorem region {id : Nat} {ds pure fresh : List Nat} {a0 : Act} {w : World} {G : Nat → Value → World → Prop} (hm : P.follows .mixedOrders = true) (hok : okB .any ops ds pure = true) (hrow : rowB .any ops ds.length = true) (sp : Spec P ops ds pure fresh a0 w G)
    (hQ : ∀ c a d v w, Q (.panic c) (Act.put a d v) w → Q (.panic c) a w)
    (tail : ∀ (u : Nat → Value) (w' : World), Below w.heap.size w w' → (∀ j, j < ds.length → G j (u j) w') →
      (∀ j, j < ds.length → fresh.contains j = true → ∃ b, u j = .pointer (some ⟨b, 0, none⟩) ∧ w.heap.size ≤ b ∧ b < w'.heap.size) →
      (∀ i j, i < ds.length → j < ds.length → i ≠ j → fresh.contains i = true → fresh.contains j = true → u i ≠ u j) →
      wpList P ops Q (ops.toList.drop ds.length) (putAll ds u a0 ds.length) w') : (Code.region id ops true).wp P Q a0 w := by
  refine wp_region_any hm ?_
  have ok := ok_of hok
  obtain ⟨f, hf⟩ : ∃ f, ops.size = ds.length + f := ⟨ops.size - ds.length, by have := ok.le; omega⟩
  have hb0 : Below w.heap.size w w.drew := (Below.refl _ _).drew
  show wpAny P .any ops Q ops.size (Array.replicate ops.size false) a0 w.drew
  rw [show wpAny P .any ops Q ops.size = wpAny P .any ops Q (ds.length + f) by rw [hf]]
  refine go (f := f) (G := G) (fresh := fresh) (w0 := w) ok sp hQ (fun L u w' hs hl hJ => ?_) ds.length (Array.replicate ops.size false) (fun _ => undef) a0 w.drew (unl_replicate _ _ ok.le) (by simp) (fun t _ => ?_)
    ⟨(putSome_none _ fun j hj => by simp [show j < ops.size by have := ok.le; omega]).symm, hb0, fun j hj h => ?_, fun j hj h => ?_, fun i j hi hj _ h => ?_⟩
  · have hall : ∀ j, j < ds.length → L.getD j false = true := fun j hj => by rw [hl j (by have := ok.le; omega)]; simp [hj]
    refine row_go (row_of hrow) f ds.length L _ w' (Nat.le_refl _) hf hs hl ?_
    have hlen : (ops.toList.drop ds.length).length = f := by simp; omega
    rw [← hlen, wpOps_eq_wpList (P := P) (Q := Q) (ops.toList.drop ds.length) ds.length (fun j => by rw [List.getElem?_drop, Array.getElem?_toList])]
    exact tail u w' hJ.below (fun j hj => hJ.facts j hj (hall j hj)) (fun j hj hfr => hJ.ptr j hj (hall j hj) hfr) (fun i j hi hj hij hfi hfj => hJ.apart i j hi hj hij (hall i hi) (hall j hj) hfi hfj)
  · rw [Array.getD_eq_getD_getElem?, Array.getElem?_replicate]; split <;> rfl
  · simp [show j < ops.size by have := ok.le; omega] at h
  · simp [show j < ops.size by have := ok.le; omega] at h
  · simp [show i < ops.size by have := ok.le; omega] at h
end
end Go.Proofs.YtojincohnjophaaGreatDoor.RegS

/-! As RegS, where a store waits for an operation through others. A law for a region that draws its order: calls, loads and allocations in any order, each by what it leaves ('G', which later allocations do not end), and then the stores. -/
namespace Go.Proofs.YtojincohnjophaaGreatDoor.RegT
open Go Go.RowKit
set_option linter.unusedVariables false

section
variable {P : Program} {ops : Array Oper} {Q : Exit → Act → World → Prop} {md : Region.Mode}

/-- what the operations' slots hold -/
def upd (u : Nat → Value) (i : Nat) (v : Value) : Nat → Value := fun j => if j = i then v else u j
theorem upd_ne {u : Nat → Value} {i j : Nat} {v : Value} (h : j ≠ i) : upd u i v j = u j := by simp [upd, h]
theorem upd_self {u : Nat → Value} {i : Nat} {v : Value} : upd u i v i = v := by simp [upd]
def putSome (ds : List Nat) (u : Nat → Value) (L : Array Bool) (a : Act) : Nat → Act
  | 0 => a
  | k + 1 => if L.getD k false = true then (putSome ds u L a k).put (some (ds.getD k 0)) (u k) else putSome ds u L a k
def putAll (ds : List Nat) (u : Nat → Value) (a : Act) : Nat → Act
  | 0 => a
  | k + 1 => (putAll ds u a k).put (some (ds.getD k 0)) (u k)
def calm : Op → Bool
  | .defer .. => false
  | .select .. => false
  | _ => true
def waits (md : Region.Mode) (oj : Oper) (i : Nat) : Bool := oj.after.toList.any fun e => Region.binds md e && decide (e.on = i)
/-- it waits for operation j, or for one that does .. -/
def reach (md : Region.Mode) (ops : Array Oper) : Nat → Oper → Nat → Bool
  | 0, o, j => waits md o j
  | f + 1, o, j => waits md o j || (List.range ops.size).any fun i => waits md o i && match ops[i]? with
    | some oi => reach md ops f oi j
    | none => false
def nodupB : List Nat → Bool
  | [] => true
  | d :: l => !l.contains d && nodupB l
/-- what the region's form has to be -/
def okB (md : Region.Mode) (ops : Array Oper) (ds : List Nat) (pure : List Nat) : Bool :=
  nodupB ds && Region.noSelect ops && decide (ds.length ≤ ops.size) &&
  ((List.range ds.length).all fun i => match ops[i]? with
    | some o => decide (o.dst = some (ds.getD i 0)) && o.guard.isNone && calm o.op && (o.after.toList.all fun e => !Region.binds md e || decide (e.on < i)) &&
        ((List.range ds.length).all fun j => !(o.looksAt ops).contains (ds.getD j 0) || waits md o j) &&
        (!pure.contains i || ((List.range ops.size).all fun j => match ops[j]? with
          | some oj => decide (j = i) || waits md oj i || waits md o j || o.apart ops oj
          | none => true))
    | none => false) &&
  ((List.range ops.size).all fun t => decide (t < ds.length) || match ops[t]? with
    | some o => (List.range ds.length).all fun j => reach md ops 6 o j || (pure.contains j && match ops[j]? with
        | some oj => oj.after.toList.all fun e => !Region.binds md e || waits md o e.on
        | none => false)
    | none => true)

structure Ok (md : Region.Mode) (ops : Array Oper) (ds : List Nat) (pure : List Nat) : Prop where
  nodup : ∀ i j, i < ds.length → j < ds.length → ds.getD i 0 = ds.getD j 0 → i = j
  sel : Region.noSelect ops = true
  le : ds.length ≤ ops.size
  op : ∀ i, i < ds.length → ∃ o, ops[i]? = some o ∧ o.dst = some (ds.getD i 0) ∧ o.guard = none ∧ calm o.op = true ∧ (∀ e ∈ o.after, Region.binds md e = true → e.on < i) ∧
    (∀ j, j < ds.length → (o.looksAt ops).contains (ds.getD j 0) = true → waits md o j = true) ∧
    (pure.contains i = true → ∀ j oj, ops[j]? = some oj → j ≠ i → waits md oj i = false → waits md o j = false → o.apart ops oj = true)
  tail : ∀ t o, ops[t]? = some o → ds.length ≤ t → ∀ j, j < ds.length → reach md ops 6 o j = true ∨ (pure.contains j = true ∧ ∃ oj, ops[j]? = some oj ∧ ∀ e ∈ oj.after, Region.binds md e = true → waits md o e.on = true)

theorem waits_iff {oj : Oper} {i : Nat} : waits md oj i = true ↔ ∃ e ∈ oj.after, Region.binds md e = true ∧ e.on = i := by
  unfold waits
  simp only [List.any_eq_true, Bool.and_eq_true, decide_eq_true_eq, Array.mem_toList_iff]
theorem nodup_of : ∀ {ds : List Nat}, nodupB ds = true → ∀ i j, i < ds.length → j < ds.length → ds.getD i 0 = ds.getD j 0 → i = j := by
  intro ds
  induction ds with
  | nil => intro _ i j hi; simp at hi
  | cons d l ih =>
    intro h i j hi hj he
    simp only [nodupB, Bool.and_eq_true, Bool.not_eq_true'] at h
    have hm : ∀ k, k < l.length → l.getD k 0 ∈ l := fun k hk => by
      rw [List.getD_eq_getElem?_getD, List.getElem?_eq_getElem hk]; exact List.getElem_mem hk
    have hd : d ∉ l := by simpa using h.1
    cases i with
    | zero =>
      cases j with
      | zero => rfl
      | succ j =>
        simp only [List.getD_cons_zero, List.getD_cons_succ] at he
        exact absurd (he ▸ hm j (by simpa using hj)) hd
    | succ i =>
      cases j with
      | zero =>
        simp only [List.getD_cons_zero, List.getD_cons_succ] at he
        exact absurd (he ▸ hm i (by simpa using hi)) hd
      | succ j =>
        simp only [List.getD_cons_succ] at he
        rw [ih h.2 i j (by simpa using hi) (by simpa using hj) he]
theorem ok_of {ds pure : List Nat} (h : okB md ops ds pure = true) : Ok md ops ds pure := by
  unfold okB at h
  simp only [Bool.and_eq_true, decide_eq_true_eq, List.all_eq_true, List.mem_range] at h
  obtain ⟨⟨⟨⟨h1, h2⟩, h3⟩, h4⟩, h5⟩ := h
  refine ⟨nodup_of h1, h2, h3, fun i hi => ?_, fun t o ho ht j hj => ?_⟩
  · have := h4 i hi
    have hlt : i < ops.size := by omega
    rw [Array.getElem?_eq_getElem hlt] at this
    simp only [Bool.and_eq_true, decide_eq_true_eq, List.all_eq_true, List.mem_range, Bool.or_eq_true, Bool.not_eq_true', Array.mem_toList_iff] at this
    obtain ⟨⟨⟨⟨⟨q1, q2⟩, q3⟩, q4⟩, q5⟩, q6⟩ := this
    refine ⟨ops[i], Array.getElem?_eq_getElem hlt, q1, by simpa using q2, q3, fun e he hb => (q4 e he).resolve_left (by simp [hb]), fun j hj hc => (q5 j hj).resolve_left (by rw [hc]; decide), fun hp j oj hoj hji hw1 hw2 => ?_⟩
    have q7 := q6.resolve_left (by rw [hp]; decide) j (Array.getElem?_eq_some_iff.1 hoj).1
    rw [hoj] at q7
    simp only [Bool.or_eq_true, decide_eq_true_eq, hw1, hw2] at q7
    simpa [hji] using q7
  · have := h5 t (Array.getElem?_eq_some_iff.1 ho).1
    rw [Bool.or_eq_true, decide_eq_true_eq] at this
    replace this := this.resolve_left (by omega)
    rw [ho] at this
    simp only [List.all_eq_true, List.mem_range, Bool.or_eq_true, Bool.and_eq_true] at this
    rcases this j hj with q | ⟨q1, q2⟩
    · exact .inl q
    · refine .inr ⟨q1, ?_⟩
      split at q2
      · rename_i oj hoj
        simp only [List.all_eq_true, Bool.or_eq_true, Bool.not_eq_true', Array.mem_toList_iff] at q2
        exact ⟨oj, hoj, fun e he hb => (q2 e he).resolve_left (by simp [hb])⟩
      · cases q2

/-- how many of the first m are not listed -/
def unl (L : Array Bool) : Nat → Nat
  | 0 => 0
  | m + 1 => unl L m + (if L.getD m false = true then 0 else 1)
theorem unl_other {L : Array Bool} {i : Nat} : ∀ m, m ≤ i → unl (L.setIfInBounds i true) m = unl L m := by
  intro m
  induction m with
  | zero => intro _; rfl
  | succ m ih => intro h; simp only [unl]; rw [ih (by omega), getD_set_ne false (by omega : i ≠ m)]
theorem unl_set {L : Array Bool} {i : Nat} (hi : i < L.size) (hl : L.getD i false = false) : ∀ m, i < m → unl (L.setIfInBounds i true) m + 1 = unl L m := by
  intro m
  induction m with
  | zero => intro h; omega
  | succ m ih =>
    intro h
    simp only [unl]
    by_cases hm : i = m
    · subst hm
      rw [unl_other _ (Nat.le_refl _), if_pos (by simp [hi]), if_neg (by simp [hl])]
    · rw [getD_set_ne false hm, ← ih (by omega)]; omega
theorem unl_zero {L : Array Bool} : ∀ m, unl L m = 0 → ∀ j, j < m → L.getD j false = true := by
  intro m
  induction m with
  | zero => intro _ j hj; omega
  | succ m ih =>
    intro h j hj
    simp only [unl] at h
    split at h
    · rename_i hm
      by_cases hjm : j = m
      · subst hjm; exact hm
      · exact ih (by omega) j (by omega)
    · omega
theorem unl_pos {L : Array Bool} : ∀ m, 0 < unl L m → ∃ j, j < m ∧ L.getD j false = false := by
  intro m
  induction m with
  | zero => intro h; simp [unl] at h
  | succ m ih =>
    intro h
    cases hl : L.getD m false with
    | false => exact ⟨m, by omega, hl⟩
    | true =>
      simp only [unl, hl, if_true] at h
      obtain ⟨j, h1, h2⟩ := ih (by omega)
      exact ⟨j, by omega, h2⟩

theorem putSome_size (ds : List Nat) (u : Nat → Value) (L : Array Bool) (a : Act) : ∀ k, (putSome ds u L a k).tmps.size = a.tmps.size := by
  intro k
  induction k with
  | zero => rfl
  | succ k ih => simp only [putSome]; split <;> simp [Act.put, ih]
theorem putAll_size (ds : List Nat) (u : Nat → Value) (a : Act) : ∀ k, (putAll ds u a k).tmps.size = a.tmps.size := by
  intro k
  induction k with
  | zero => rfl
  | succ k ih => simp [putAll, Act.put, ih]
theorem putSome_all {ds : List Nat} {u : Nat → Value} {L : Array Bool} {a : Act} : ∀ k, (∀ j, j < k → L.getD j false = true) → putSome ds u L a k = putAll ds u a k := by
  intro k
  induction k with
  | zero => intro _; rfl
  | succ k ih => intro h; rw [putSome, if_pos (h k (by omega)), ih fun j hj => h j (by omega)]; rfl
theorem putSome_none {ds : List Nat} {u : Nat → Value} {L : Array Bool} {a : Act} : ∀ k, (∀ j, j < k → L.getD j false = false) → putSome ds u L a k = a := by
  intro k
  induction k with
  | zero => intro _; rfl
  | succ k ih => intro h; rw [putSome, if_neg (by simp [h k (by omega)]), ih fun j hj => h j (by omega)]
/-- a slot reads the same where it is one of those that have come up, or none of the operations' -/
theorem putSome_tmp {ds : List Nat} {u : Nat → Value} {L : Array Bool} {a : Act} {t : Nat} : ∀ k, (∀ j, j < k → ds.getD j 0 = t → L.getD j false = true) → (putSome ds u L a k).tmps[t]? = (putAll ds u a k).tmps[t]? := by
  intro k
  induction k with
  | zero => intro _; rfl
  | succ k ih =>
    intro h
    have ih' := ih fun j hj => h j (by omega)
    simp only [putSome, putAll]
    split
    · simp only [Act.put, Array.getElem?_setIfInBounds, putSome_size, putAll_size, ih']
    · rename_i hl
      have hne : ds.getD k 0 ≠ t := fun e => hl (h k (by omega) e)
      simp only [Act.put, Array.getElem?_setIfInBounds_ne hne, ih']
theorem putSome_out {ds : List Nat} {u : Nat → Value} {L : Array Bool} {a : Act} {i : Nat} {v : Value} : ∀ k, k ≤ i → putSome ds (upd u i v) (L.setIfInBounds i true) a k = putSome ds u L a k := by
  intro k
  induction k with
  | zero => intro _; rfl
  | succ k ih =>
    intro h
    simp only [putSome]
    rw [ih (by omega), getD_set_ne false (by omega : i ≠ k), upd_ne (by omega)]
theorem putSome_set {ds : List Nat} {u : Nat → Value} {L : Array Bool} {a : Act} {i : Nat} {v : Value} (hi : i < L.size) (hl : L.getD i false = false) (hn : ∀ j, ds.getD i 0 = ds.getD j 0 → j < ds.length → i = j) :
    ∀ k, i < k → k ≤ ds.length → putSome ds (upd u i v) (L.setIfInBounds i true) a k = (putSome ds u L a k).put (some (ds.getD i 0)) v := by
  intro k
  induction k with
  | zero => intro h _; omega
  | succ k ih =>
    intro h hk
    by_cases hik : i = k
    · subst hik
      simp only [putSome]
      rw [putSome_out _ (Nat.le_refl _), if_pos (by simp [hi]), if_neg (by simp [hl]), upd_self]
    · have ih' := ih (by omega) (by omega)
      simp only [putSome]
      rw [getD_set_ne false hik]
      split
      · rw [ih', Act.put_comm _ _ _ (fun d hd => by
          simp only [Option.some.injEq] at hd ⊢
          intro e
          exact hik (hn k (hd.trans (Option.some.inj e).symm) (by omega))), upd_ne (by omega)]
      · exact ih'

/-- What the operations leave, and the law. -/
structure Spec (P : Program) (ops : Array Oper) (ds pure fresh : List Nat) (a0 : Act) (w0 : World) (G : Nat → Value → World → Prop) : Prop where
  inb : (ds.all fun d => decide (d < a0.tmps.size)) = true
  notboth : (pure.all fun i => !fresh.contains i) = true
  keep : ∀ i, i < ds.length → ∀ v w w', Below w.heap.size w w' → G i v w → G i v w'
  quiet : ∀ i o, i < ds.length → pure.contains i = true → ops[i]? = some o → ∀ (u : Nat → Value) (w : World),
    (∀ j, j < ds.length → (o.looksAt ops).contains (ds.getD j 0) = true → G j (u j) w) → ∃ v, (∀ w', (execOp (putAll ds u a0 ds.length).eval o).run P w' = .ok (.value v) w') ∧ G i v w
  step : ∀ i o, i < ds.length → pure.contains i = false → ops[i]? = some o → ∀ (u : Nat → Value) (w : World), Below w0.heap.size w0 w →
    (∀ j, j < ds.length → (o.looksAt ops).contains (ds.getD j 0) = true → G j (u j) w) →
    ∀ K : Act → World → Prop, (∀ a2 w2, a2.defers = (putAll ds u a0 ds.length).defers → Below w.heap.size w w2 → G i (a2.eval (.tmp (ds.getD i 0))) w2 → (fresh.contains i = true → a2.eval (.tmp (ds.getD i 0)) = .pointer (some ⟨w.heap.size, 0, none⟩) ∧ w.heap.size < w2.heap.size) → K a2 w2) →
    o.wp P (putAll ds u a0 ds.length) w K (fun _ _ _ => False)

/-- what holds between two operations -/
structure J (md : Region.Mode) (ops : Array Oper) (ds fresh : List Nat) (a0 : Act) (w0 : World) (G : Nat → Value → World → Prop) (L : Array Bool) (u : Nat → Value) (a : Act) (w : World) : Prop where
  act : a = putSome ds u L a0 ds.length
  below : Below w0.heap.size w0 w
  facts : ∀ j, j < ds.length → L.getD j false = true → G j (u j) w
  ptr : ∀ j, j < ds.length → L.getD j false = true → fresh.contains j = true → ∃ b, u j = .pointer (some ⟨b, 0, none⟩) ∧ w0.heap.size ≤ b ∧ b < w.heap.size
  apart : ∀ i j, i < ds.length → j < ds.length → i ≠ j → L.getD i false = true → L.getD j false = true → fresh.contains i = true → fresh.contains j = true → u i ≠ u j

theorem eval_put_self {a : Act} {d : Nat} (h : d < a.tmps.size) (v : Value) : (a.put (some d) v).eval (.tmp d) = v := by
  simp [Act.eval, Act.put, h]

theorem getD_tf' {L : Array Bool} {i : Nat} (h : L.getD i true = false) : L.getD i false = false ∧ i < L.size := by
  rcases Nat.lt_or_ge i L.size with h' | h'
  · simp [h'] at h ⊢; exact h
  · simp [Array.getElem?_eq_none h'] at h
theorem getD_ft' {L : Array Bool} {i : Nat} (hi : i < L.size) (h : L.getD i false = false) : L.getD i true = false := by
  simp [hi] at h ⊢; exact h

theorem J.set {ds pure fresh : List Nat} {a0 : Act} {w0 : World} {G : Nat → Value → World → Prop} {L : Array Bool} {u : Nat → Value} {a : Act} {w w2 : World} {i : Nat} {v : Value}
    (ok : Ok md ops ds pure) (sp : Spec P ops ds pure fresh a0 w0 G) (hJ : J md ops ds fresh a0 w0 G L u a w) (hi : i < ds.length) (hsz : L.size = ops.size) (hl : L.getD i false = false)
    (hb : Below w.heap.size w w2) (hG : G i v w2) (hf : fresh.contains i = true → v = .pointer (some ⟨w.heap.size, 0, none⟩) ∧ w.heap.size < w2.heap.size) :
    J md ops ds fresh a0 w0 G (L.setIfInBounds i true) (upd u i v) (a.put (some (ds.getD i 0)) v) w2 := by
  have hlt : i < L.size := by have := ok.le; omega
  have low := hJ.below.size
  have old : ∀ j, j ≠ i → upd u i v j = u j := fun j hj => by simp [upd, hj]
  have new : upd u i v i = v := by simp [upd]
  have oldL : ∀ j, j ≠ i → (L.setIfInBounds i true).getD j false = true → L.getD j false = true := fun j hj h => by rwa [getD_set_ne false (Ne.symm hj)] at h
  refine ⟨?_, hJ.below.trans (hb.mono low), fun j hj hL => ?_, fun j hj hL hfr => ?_, fun j k hj hk hjk hLj hLk fj fk => ?_⟩
  · rw [hJ.act, putSome_set hlt hl (fun j h hj => ok.nodup i j hi hj h) _ hi (Nat.le_refl _)]
  · by_cases hji : j = i
    · subst hji; rw [new]; exact hG
    · rw [old j hji]; exact sp.keep j hj _ _ _ hb (hJ.facts j hj (oldL j hji hL))
  · by_cases hji : j = i
    · subst hji
      obtain ⟨e, h2⟩ := hf hfr
      exact ⟨_, new.trans e, low, h2⟩
    · obtain ⟨b, e, h1, h2⟩ := hJ.ptr j hj (oldL j hji hL) hfr
      exact ⟨b, (old j hji).trans e, h1, by have := hb.size; omega⟩
  · by_cases hji : j = i
    · subst hji
      have hkj : k ≠ j := fun e => hjk e.symm
      obtain ⟨b, e, _, h2⟩ := hJ.ptr k hk (oldL k hkj hLk) fk
      rw [new, old k hkj, (hf fj).1, e]
      intro h; injection h with h; injection h with h; injection h with h; omega
    · by_cases hki : k = i
      · subst hki
        obtain ⟨b, e, _, h2⟩ := hJ.ptr j hj (oldL j hji hLj) fj
        rw [new, old j hji, (hf fk).1, e]
        intro h; injection h with h; injection h with h; injection h with h; omega
      · rw [old j hji, old k hki]
        exact hJ.apart j k hj hk hjk (oldL j hji hLj) (oldL k hki hLk) fj fk

/-- an operation's run hangs on what it looks at alone -/
theorem same_run {o : Oper} {a a' : Act} (hc : calm o.op = true) (h : ∀ t, (o.looksAt ops).contains t = true → a.tmps[t]? = a'.tmps[t]?) : execOp a.eval o = execOp a'.eval o := by
  refine execOp_congr o (fun cs b e => by rw [e] at hc; cases hc) fun x hx => ?_
  cases x with
  | tmp t =>
    have : t ∈ o.looksAt ops := List.mem_append_left _ (List.mem_filterMap.2 ⟨.tmp t, by simpa using hx, rfl⟩)
    have := h t (by simpa using this)
    simp [Act.eval, this]
  | _ => rfl

theorem wp_same {o : Oper} {a a' : Act} {w : World} {d : Nat} {R : Value → World → Prop} {K : Act → World → Prop} (hc : calm o.op = true) (he : execOp a.eval o = execOp a'.eval o) (hd : o.dst = some d) (hin : d < a'.tmps.size)
    (h : o.wp P a' w (fun a2 w2 => a2.defers = a'.defers ∧ R (a2.eval (.tmp d)) w2) (fun _ _ _ => False)) (hK : ∀ v w2, R v w2 → K (a.put (some d) v) w2) : o.wp P a w K Q := by
  have hself : ∀ v, (a'.put (some d) v).eval (.tmp d) = v := fun v => eval_put_self hin v
  unfold Oper.wp at *
  rw [he]
  generalize hr : (execOp a'.eval o).run P w = r at *
  cases r with
  | ok n w' =>
    cases n <;> simp only [Oper.upon, hd] at h ⊢
    case value u => rw [hself] at h; exact hK _ _ h.2
    case skip => rw [hself] at h; exact hK _ _ h.2
    case defer x =>
      have := congrArg List.length h.1
      simp [Act.put] at this
    case enter f args =>
      refine Calls.mono h fun e w'' he => ?_
      cases e with
      | returned u => simp only [hself] at he; exact hK _ _ he.2
      | panicked c => exact he.elim
      | outgrown => obtain ⟨_, _, hf⟩ := he; exact hf.elim
    case row row args => exact Rows.mono h fun u w'' he => by rw [hself] at he; exact hK _ _ he.2
  | halt x w' =>
    cases x <;> simp only [Oper.upon] at h ⊢

/-- some operation may come up where one has not -/
theorem some_ready {ds pure : List Nat} {L : Array Bool} (ok : Ok md ops ds pure) (hsz : L.size = ops.size) {j : Nat} (hj : j < ds.length) (hl : L.getD j false = false) : ∃ i, i < ds.length ∧ i ∈ Region.ready md ops L := by
  induction j using Nat.strongRecOn with
  | _ j ih =>
    obtain ⟨o, ho, _, _, _, hback, _⟩ := ok.op j hj
    by_cases h : ∀ e ∈ o.after, Region.binds md e = true → L.getD e.on false = true
    · exact ⟨j, hj, mem_ready.2 ⟨getD_ft' (by have := ok.le; omega) hl, o, ho, h⟩⟩
    · simp only [Classical.not_forall] at h
      obtain ⟨e, he, hb, hn⟩ := h
      exact ih e.on (hback e he hb) (by have := hback e he hb; omega) (by simpa using hn)

/-- what has come up has come up behind what it waits for -/
def Closed (md : Region.Mode) (ops : Array Oper) (L : Array Bool) : Prop := ∀ i o, ops[i]? = some o → L.getD i false = true → ∀ e ∈ o.after, Region.binds md e = true → L.getD e.on false = true
theorem closed_set {L : Array Bool} {i : Nat} (hc : Closed md ops L) (hr : i ∈ Region.ready md ops L) : Closed md ops (L.setIfInBounds i true) := by
  obtain ⟨hun, o, ho, hall⟩ := mem_ready.1 hr
  have keep : ∀ j, L.getD j false = true → (L.setIfInBounds i true).getD j false = true := fun j hj => by
    by_cases h : i = j
    · subst h; rw [(getD_tf' hun).1] at hj; cases hj
    · rw [getD_set_ne false h]; exact hj
  intro j oj hoj hj e he hb
  by_cases h : i = j
  · subst h
    obtain rfl : oj = o := Option.some.inj (hoj.symm.trans ho)
    exact keep _ (hall e he hb)
  · rw [getD_set_ne false h] at hj
    exact keep _ (hc j oj hoj hj e he hb)
theorem reach_up {L : Array Bool} (hc : Closed md ops L) : ∀ (f : Nat) (o : Oper) (j : Nat), (∀ e ∈ o.after, Region.binds md e = true → L.getD e.on false = true) → reach md ops f o j = true → L.getD j false = true := by
  intro f
  induction f with
  | zero =>
    intro o j hall hr
    obtain ⟨e, he, hb, hon⟩ := waits_iff.1 hr
    rw [← hon]; exact hall e he hb
  | succ f ih =>
    intro o j hall hr
    rw [reach, Bool.or_eq_true] at hr
    rcases hr with hr | hr
    · obtain ⟨e, he, hb, hon⟩ := waits_iff.1 hr
      rw [← hon]; exact hall e he hb
    · simp only [List.any_eq_true, Bool.and_eq_true] at hr
      obtain ⟨i, _, hw, hm⟩ := hr
      split at hm
      · rename_i oi hoi
        obtain ⟨e, he, hb, hon⟩ := waits_iff.1 hw
        have hi : L.getD i false = true := by rw [← hon]; exact hall e he hb
        exact ih oi j (hc i oi hoi hi) hm
      · cases hm
theorem go {ds pure fresh : List Nat} {a0 : Act} {w0 : World} {G : Nat → Value → World → Prop} {f : Nat} (ok : Ok md ops ds pure) (sp : Spec P ops ds pure fresh a0 w0 G)
    (hQ : ∀ c a d v w, Q (.panic c) (Act.put a d v) w → Q (.panic c) a w)
    (tail : ∀ (L : Array Bool) (u : Nat → Value) (w : World), L.size = ops.size → (∀ j, j < ops.size → L.getD j false = decide (j < ds.length)) → J md ops ds fresh a0 w0 G L u (putAll ds u a0 ds.length) w → wpAny P md ops Q f L (putAll ds u a0 ds.length) w) :
    ∀ (k : Nat) (L : Array Bool) (u : Nat → Value) (a : Act) (w : World), unl L ds.length = k → L.size = ops.size → (∀ t, ds.length ≤ t → L.getD t false = false) → Closed md ops L → J md ops ds fresh a0 w0 G L u a w → wpAny P md ops Q (k + f) L a w := by
  intro k
  induction k with
  | zero =>
    intro L u a w hk hsz ht hcl hJ
    have hall := unl_zero _ hk
    have ha := hJ.act
    rw [putSome_all _ hall] at ha
    subst ha
    rw [Nat.zero_add]
    refine tail L u w hsz (fun j hj => ?_) hJ
    by_cases h : j < ds.length
    · rw [hall j h]; simp [h]
    · rw [ht j (by omega)]; simp [h]
  | succ k ih =>
    intro L u a w hk hsz ht hcl hJ
    obtain ⟨j0, hj0, hl0⟩ := unl_pos ds.length (L := L) (by omega)
    -- one step
    have sized : ∀ i, i < ds.length → L.getD i false = false → unl (L.setIfInBounds i true) ds.length = k ∧ (L.setIfInBounds i true).size = ops.size ∧ ∀ t, ds.length ≤ t → (L.setIfInBounds i true).getD t false = false := fun i hi hl =>
      ⟨by have := unl_set (by have := ok.le; omega) hl _ hi; omega, by simp [hsz], fun t htl => by rw [getD_set_ne false (by omega)]; exact ht t htl⟩
    have seen : ∀ i o, i < ds.length → ops[i]? = some o → i ∈ Region.ready md ops L → (∀ j, j < ds.length → (o.looksAt ops).contains (ds.getD j 0) = true → L.getD j false = true) := fun i o hi ho hr j hj hc => by
      obtain ⟨_, o', ho', hall⟩ := mem_ready.1 hr
      obtain rfl : o' = o := Option.some.inj (ho'.symm.trans ho)
      obtain ⟨o2, ho2, _, _, _, _, hw, _⟩ := ok.op i hi
      obtain rfl : o2 = o' := Option.some.inj (ho2.symm.trans ho)
      obtain ⟨e, he, hb, hon⟩ := waits_iff.1 (hw j hj hc)
      rw [← hon]; exact hall e he hb
    have run : ∀ i o, i < ds.length → ops[i]? = some o → i ∈ Region.ready md ops L → execOp a.eval o = execOp (putAll ds u a0 ds.length).eval o := fun i o hi ho hr => by
      obtain ⟨o2, ho2, _, _, hc, _⟩ := ok.op i hi
      obtain rfl : o2 = o := Option.some.inj (ho2.symm.trans ho)
      refine same_run (ops := ops) hc fun t htl => ?_
      rw [hJ.act]
      exact putSome_tmp _ fun j hj e => seen i o2 hi ho hr j hj (by rw [e]; exact htl)
    by_cases hp : ∃ i, i < ds.length ∧ pure.contains i = true ∧ i ∈ Region.ready md ops L
    · obtain ⟨i, hi, hpi, hr⟩ := hp
      obtain ⟨o, ho, hd, hg, hc, _, _, hap⟩ := ok.op i hi
      have hl := (getD_tf' (mem_ready.1 hr).1).1
      obtain ⟨v, hv, hGv⟩ := sp.quiet i o hi hpi ho u w fun j hj hjc => hJ.facts j hj (seen i o hi ho hr j hj hjc)
      obtain ⟨q1, q2, q3⟩ := sized i hi hl
      have hfr : fresh.contains i = true → v = .pointer (some ⟨w.heap.size, 0, none⟩) ∧ w.heap.size < w.heap.size := fun h => by have := List.all_eq_true.1 sp.notboth i (by simpa using hpi); rw [h] at this; cases this
      rw [show k + 1 + f = (k + f) + 1 by omega]
      refine wpAny_first (v := v) ho (Region.noSelect_spec ok.sel) (fun c a w => hQ c a _ _ w) (k + f) L a w (fun j oj hoj hji hun hno => ?_) hr (.inl ⟨by simp [Region.wanted, hg], fun w' => by rw [run i o hi ho hr]; exact hv w'⟩) ?_
      · refine hap hpi j oj hoj hji ?_ ?_
        · cases hw : waits md oj i with
          | false => rfl
          | true => obtain ⟨e, he, hb, hon⟩ := waits_iff.1 hw; exact absurd hon (hno e he hb)
        · cases hw : waits md o j with
          | false => rfl
          | true =>
            obtain ⟨e, he, hb, hon⟩ := waits_iff.1 hw
            obtain ⟨_, o', ho', hall⟩ := mem_ready.1 hr
            obtain rfl : o' = o := Option.some.inj (ho'.symm.trans ho)
            have := hall e he hb
            rw [hon, (getD_tf' hun).1] at this; cases this
      · rw [hd]
        exact ih _ _ _ _ q1 q2 q3 (closed_set hcl hr) (hJ.set ok sp hi hsz hl (Below.refl _ _) hGv hfr)
    · rw [show k + 1 + f = (k + f) + 1 by omega]
      obtain ⟨i0, hi0, hr0⟩ := some_ready ok hsz hj0 hl0
      refine ⟨fun h => absurd (h ▸ hr0) (by simp), fun i hr => ?_⟩
      have hl := (getD_tf' (mem_ready.1 hr).1).1
      by_cases hi : i < ds.length
      · obtain ⟨o, ho, hd, hg, hc, _⟩ := ok.op i hi
        have hpi : pure.contains i = false := by
          cases h : pure.contains i with
          | false => rfl
          | true => exact absurd ⟨i, hi, h, hr⟩ hp
        obtain ⟨q1, q2, q3⟩ := sized i hi hl
        have hst := sp.step i o hi hpi ho u w hJ.below fun j hj hjc => hJ.facts j hj (seen i o hi ho hr j hj hjc)
        replace hst := hst _ fun a2 w2 h1 h2 h3 h4 => And.intro h1 (And.intro h2 (And.intro h3 h4))
        unfold wpOp
        rw [ho]
        simp only
        rw [if_pos (by simp [Region.wanted, hg])]
        refine .inl (wp_same (R := fun v w2 => Below w.heap.size w w2 ∧ G i v w2 ∧ (fresh.contains i = true → v = .pointer (some ⟨w.heap.size, 0, none⟩) ∧ w.heap.size < w2.heap.size)) hc (run i o hi ho hr) hd (by rw [putAll_size]; exact of_decide_eq_true (List.all_eq_true.1 sp.inb _ (by rw [List.getD_eq_getElem?_getD, List.getElem?_eq_getElem hi]; exact List.getElem_mem hi))) hst fun v w2 hR => ?_)
        exact ih _ _ _ _ q1 q2 q3 (closed_set hcl hr) (hJ.set ok sp hi hsz hl hR.1 hR.2.1 hR.2.2)
      · obtain ⟨hun, o, ho, hall⟩ := mem_ready.1 hr
        have come : ∀ j, waits md o j = true → L.getD j false = true := fun j hw => by
          obtain ⟨e, he, hb, hon⟩ := waits_iff.1 hw
          rw [← hon]; exact hall e he hb
        exfalso
        rcases ok.tail i o ho (by omega) j0 hj0 with h | ⟨hpj, oj, hoj, hw⟩
        · rw [reach_up hcl 6 o j0 hall h] at hl0; cases hl0
        · exact hp ⟨j0, hj0, hpj, mem_ready.2 ⟨getD_ft' (by have := ok.le; omega) hl0, oj, hoj, fun e he hb => come _ (hw e he hb)⟩⟩

theorem unl_replicate (n : Nat) : ∀ m, m ≤ n → unl (Array.replicate n false) m = m := by
  intro m
  induction m with
  | zero => intro _; rfl
  | succ m ih => intro h; simp only [unl]; rw [ih (by omega), if_neg (by simp [show m < n by omega])]

/-- each of the stores waits for the one ahead of it -/
def rowB (md : Region.Mode) (ops : Array Oper) (n : Nat) : Bool :=
  (List.range ops.size).all fun t => decide (t < n) || match ops[t]? with
    | some o => (decide (t = n) || waits md o (t - 1)) && o.after.toList.all fun e => !Region.binds md e || decide (e.on < t)
    | none => true
theorem row_of {n : Nat} (h : rowB md ops n = true) : ∀ t o, ops[t]? = some o → n ≤ t → (n < t → waits md o (t - 1) = true) ∧ ∀ e ∈ o.after, Region.binds md e = true → e.on < t := by
  intro t o ho ht
  unfold rowB at h
  simp only [List.all_eq_true, List.mem_range] at h
  have := h t (Array.getElem?_eq_some_iff.1 ho).1
  rw [ho, Bool.or_eq_true, decide_eq_true_eq] at this
  replace this := this.resolve_left (by omega)
  simp only [Bool.and_eq_true, Bool.or_eq_true, decide_eq_true_eq, List.all_eq_true, Bool.not_eq_true', Array.mem_toList_iff] at this
  exact ⟨fun hlt => this.1.resolve_left (by omega), fun e he hb => (this.2 e he).resolve_left (by simp [hb])⟩
theorem row_go {n : Nat} (hr : ∀ t o, ops[t]? = some o → n ≤ t → (n < t → waits md o (t - 1) = true) ∧ ∀ e ∈ o.after, Region.binds md e = true → e.on < t) :
    ∀ (f k : Nat) (L : Array Bool) (a : Act) (w : World), n ≤ k → ops.size = k + f → L.size = ops.size → (∀ j, j < ops.size → L.getD j false = decide (j < k)) → wpOps P ops Q (List.range' k f) a w → wpAny P md ops Q f L a w := by
  intro f
  induction f with
  | zero =>
    intro k L a w hk hs hL hl h
    refine ⟨List.eq_nil_iff_forall_not_mem.2 fun i hi => ?_, h⟩
    have h1 := (getD_tf' (mem_ready.1 hi).1)
    rw [hl i (by omega)] at h1
    have := h1.2
    simp at h1; omega
  | succ f ih =>
    intro k L a w hk hs hL hl h
    have hkl : k < ops.size := by omega
    have ho : ops[k]? = some ops[k] := Array.getElem?_eq_getElem hkl
    have hup : k ∈ Region.ready md ops L := mem_ready.2 ⟨getD_ft' (by omega) (by rw [hl k hkl]; simp), _, ho, fun e he hb => by
      have := (hr k _ ho hk).2 e he hb
      rw [hl _ (by omega)]; simp [this]⟩
    refine ⟨fun h0 => absurd (h0 ▸ hup) (by simp), fun i hi => ?_⟩
    obtain ⟨hun, o, hoi, hall⟩ := mem_ready.1 hi
    have h1 := getD_tf' hun
    have hik : i = k := by
      have hlt : i < ops.size := by have := h1.2; omega
      have hge : ¬ i < k := by
        intro hlt'
        have := h1.1
        rw [hl i hlt] at this
        simp at this; omega
      rcases Nat.lt_or_ge k i with hki | hki
      · obtain ⟨e, he, hb, hon⟩ := waits_iff.1 ((hr i o hoi (by omega)).1 (by omega))
        have := hall e he hb
        rw [hon, hl _ (by omega)] at this
        simp at this; omega
      · omega
    subst hik
    rw [List.range'_succ, wpOps_cons] at h
    refine wpOp_mono (fun a' w' h' => ih (i + 1) _ a' w' (by omega) (by omega) (by simp [hL]) (fun j hj => ?_) h') h
    by_cases hji : i = j
    · subst hji
      simp [h1.2]
    · rw [getD_set_ne false hji, hl j hj]
      simp; omega

/-- The law: what the operations have left, in whatever order, and then the stores. -/
theorem region {id : Nat} {ds pure fresh : List Nat} {a0 : Act} {w : World} {G : Nat → Value → World → Prop} (hm : P.follows .mixedOrders = true) (hok : okB .any ops ds pure = true) (hrow : rowB .any ops ds.length = true) (sp : Spec P ops ds pure fresh a0 w G)
    (hQ : ∀ c a d v w, Q (.panic c) (Act.put a d v) w → Q (.panic c) a w)
    (tail : ∀ (u : Nat → Value) (w' : World), Below w.heap.size w w' → (∀ j, j < ds.length → G j (u j) w') →
      (∀ j, j < ds.length → fresh.contains j = true → ∃ b, u j = .pointer (some ⟨b, 0, none⟩) ∧ w.heap.size ≤ b ∧ b < w'.heap.size) →
      (∀ i j, i < ds.length → j < ds.length → i ≠ j → fresh.contains i = true → fresh.contains j = true → u i ≠ u j) →
      wpList P ops Q (ops.toList.drop ds.length) (putAll ds u a0 ds.length) w') : (Code.region id ops true).wp P Q a0 w := by
  refine wp_region_any hm ?_
  have ok := ok_of hok
  obtain ⟨f, hf⟩ : ∃ f, ops.size = ds.length + f := ⟨ops.size - ds.length, by have := ok.le; omega⟩
  have hb0 : Below w.heap.size w w.drew := (Below.refl _ _).drew
  show wpAny P .any ops Q ops.size (Array.replicate ops.size false) a0 w.drew
  rw [show wpAny P .any ops Q ops.size = wpAny P .any ops Q (ds.length + f) by rw [hf]]
  refine go (f := f) (G := G) (fresh := fresh) (w0 := w) ok sp hQ (fun L u w' hs hl hJ => ?_) ds.length (Array.replicate ops.size false) (fun _ => undef) a0 w.drew (unl_replicate _ _ ok.le) (by simp) (fun t _ => ?_) (fun i o _ hi => ?_)
    ⟨(putSome_none _ fun j hj => by simp [show j < ops.size by have := ok.le; omega]).symm, hb0, fun j hj h => ?_, fun j hj h => ?_, fun i j hi hj _ h => ?_⟩
  · have hall : ∀ j, j < ds.length → L.getD j false = true := fun j hj => by rw [hl j (by have := ok.le; omega)]; simp [hj]
    refine row_go (row_of hrow) f ds.length L _ w' (Nat.le_refl _) hf hs hl ?_
    have hlen : (ops.toList.drop ds.length).length = f := by simp; omega
    rw [← hlen, wpOps_eq_wpList (P := P) (Q := Q) (ops.toList.drop ds.length) ds.length (fun j => by rw [List.getElem?_drop, Array.getElem?_toList])]
    exact tail u w' hJ.below (fun j hj => hJ.facts j hj (hall j hj)) (fun j hj hfr => hJ.ptr j hj (hall j hj) hfr) (fun i j hi hj hij hfi hfj => hJ.apart i j hi hj hij (hall i hi) (hall j hj) hfi hfj)
  · rw [Array.getD_eq_getD_getElem?, Array.getElem?_replicate]; split <;> rfl
  · rw [Array.getD_eq_getD_getElem?, Array.getElem?_replicate] at hi; split at hi <;> cases hi
  · simp [show j < ops.size by have := ok.le; omega] at h
  · simp [show j < ops.size by have := ok.le; omega] at h
  · simp [show i < ops.size by have := ok.le; omega] at h
end
end Go.Proofs.YtojincohnjophaaGreatDoor.RegT
