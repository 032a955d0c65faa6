/- Trees in memory: three slices (cells, keys, kids) that read as a tree. -/
import Derived.Test.YtojincohnjophaaGreatDoorTreeDel
import Derived.Test.YtojincohnjophaaGreatDoorTreePure
/-! The plain side of layer 20, which trees may be: the program's one walk, and the document's definition. -/
namespace Go.Proofs.YtojincohnjophaaGreatDoor.TreeP
set_option linter.unusedVariables false

/-! ### Other bounds -/
theorem inv_re {t : Kt} : ∀ {ml mi h : Nat} {lo hi lo' hi' : Option ByteArray}, 1 ≤ mi → Inv ml mi h lo hi t → (∀ c ∈ flat t, InB lo' hi' c) → Inv ml mi h lo' hi' t := by
  refine ind (P := fun t => ∀ {ml mi h : Nat} {lo hi lo' hi' : Option ByteArray}, 1 ≤ mi → Inv ml mi h lo hi t → (∀ c ∈ flat t, InB lo' hi' c) → Inv ml mi h lo' hi' t) ?_ t
  intro cells keys kids ih ml mi h lo hi lo' hi' hm H hc
  rw [flat] at hc
  cases kids with
  | nil =>
    obtain ⟨rfl, rfl, h1, h2, h3, h4⟩ := inv_leaf H hm
    exact inv_mk_leaf h1 h2 h3 fun c hx => hc c (List.mem_append_left _ hx)
  | cons kid kids =>
    obtain ⟨rfl, h1, h2, h3, h4⟩ := inv_inner H
    rw [show h = (h - 1) + 1 by omega]
    refine inv_mk_inner h1 h2 (by omega) ?_
    have key : ∀ (l : List Kt) (lo lo' : Option ByteArray) (ks : List ByteArray), (∀ k ∈ l, k ∈ kid :: kids) → InvL (h - 1) lo hi ks l → (∀ c ∈ flatL l, InB lo' hi' c) → InvL (h - 1) lo' hi' ks l := by
      intro l
      induction l with
      | nil => intro lo lo' ks _ H _; rw [InvL] at H; exact H.elim
      | cons a l ihl =>
        intro lo lo' ks hs H hb
        rw [flatL] at hb
        cases ks with
        | nil =>
          rw [invL_nil] at H ⊢
          obtain ⟨rfl, H⟩ := H
          exact ⟨rfl, ih a (hs a List.mem_cons_self) (by omega) H fun c hx => hb c (List.mem_append_left _ hx)⟩
        | cons k ks =>
          rw [invL_cons] at H ⊢
          refine ⟨ih a (hs a List.mem_cons_self) (by omega) H.1 fun c hx => ?_, ihl _ _ _ (fun x hx => hs x (List.mem_cons_of_mem _ hx)) H.2 fun c hx => ?_⟩
          · exact ⟨(hb c (List.mem_append_left _ hx)).1, ((inv_inB2 H.1).1 c hx).2⟩
          · exact ⟨((invL_all H.2).1 c hx).1, (hb c (List.mem_append_right _ hx)).2⟩
    exact key _ _ _ _ (fun _ h => h) h4 hc
theorem invL_re {h : Nat} {lo hi lo' hi' : Option ByteArray} {l : List Kt} {ks : List ByteArray} (H : InvL h lo hi ks l) (hb : ∀ c ∈ flatL l, InB lo' hi' c) : InvL h lo' hi' ks l := by
  induction l generalizing lo lo' ks with
  | nil => rw [InvL] at H; exact H.elim
  | cons a l ihl =>
    rw [flatL] at hb
    cases ks with
    | nil =>
      rw [invL_nil] at H ⊢
      obtain ⟨rfl, H⟩ := H
      exact ⟨rfl, inv_re (by omega) H fun c hx => hb c (List.mem_append_left _ hx)⟩
    | cons k ks =>
      rw [invL_cons] at H ⊢
      refine ⟨inv_re (by omega) H.1 fun c hx => ⟨(hb c (List.mem_append_left _ hx)).1, ((inv_inB2 H.1).1 c hx).2⟩, ihl H.2 fun c hx => ?_⟩
      exact ⟨((invL_all H.2).1 c hx).1, (hb c (List.mem_append_right _ hx)).2⟩

/-! ### The program's walk -/
structure WS where
  level : Nat
  any : Bool
  last : ByteArray
  floor : ByteArray

/-- a cell that may come next -/
def okC (ws : WS) (c : Cell) : Bool := !(ws.any && !kl ws.last c.1) && !kl c.1 ws.floor
def cellsW : List Cell → WS → Option WS
  | [], ws => some ws
  | c :: l, ws => if okC ws c then cellsW l { ws with any := true, last := c.1 } else none
def leafW (cells : List Cell) (keys : List ByteArray) (d : Nat) (ws : WS) : Option WS :=
  if keys.length ≠ 0 ∨ 4 < cells.length ∨ (1 < d ∧ cells.length < 2) then none
  else if ws.level ≠ 0 ∧ ws.level ≠ d then none
  else cellsW cells { ws with level := d }
mutual
  def knotW (d : Nat) (ws : WS) : Kt → Option WS
    | .mk cells keys kids => if kids.isEmpty then leafW cells keys d ws
      else if 64 ≤ d ∨ cells.length ≠ 0 ∨ kids.length < 2 ∨ 4 < kids.length ∨ keys.length + 1 ≠ kids.length then none
      else kidsW (d + 1) true keys ws kids
  def kidsW (d : Nat) (first : Bool) (keys : List ByteArray) (ws : WS) : List Kt → Option WS
    | [] => some ws
    | kid :: l => match first, keys with
      | true, ks => match knotW d ws kid with
        | none => none
        | some w1 => kidsW d false ks w1 l
      | false, [] => none
      | false, k :: ks => if kl ws.last k then (match knotW d { ws with floor := k } kid with
        | none => none
        | some w1 => kidsW d false ks w1 l) else none
end
theorem kidsW_true {d : Nat} {keys : List ByteArray} {ws : WS} {kid : Kt} {l : List Kt} : kidsW d true keys ws (kid :: l) = match knotW d ws kid with | none => none | some w1 => kidsW d false keys w1 l := by rw [kidsW]
theorem kidsW_false {d : Nat} {k : ByteArray} {ks : List ByteArray} {ws : WS} {kid : Kt} {l : List Kt} : kidsW d false (k :: ks) ws (kid :: l) = if kl ws.last k then kidsW d true ks { ws with floor := k } (kid :: l) else none := by
  conv => lhs; rw [kidsW]
  rw [kidsW_true]

def ok (ws : WS) (c : Cell) : Prop := (ws.any = true → kl ws.last c.1 = true) ∧ kl c.1 ws.floor = false
theorem okC_iff {ws : WS} {c : Cell} : okC ws c = true ↔ ok ws c := by
  unfold okC ok
  cases ws.any <;> cases kl ws.last c.1 <;> cases kl c.1 ws.floor <;> simp

theorem cellsW_some {l : List Cell} : ∀ {ws ws' : WS}, cellsW l ws = some ws' → l ≠ [] → Rise l ∧ (∀ c ∈ l, ok ws c) ∧ ws'.level = ws.level ∧ ws'.any = true ∧ (∃ c ∈ l, ws'.last = c.1) ∧ (∀ c ∈ l, kl ws'.last c.1 = false) := by
  induction l with
  | nil => intro ws ws' _ h; exact absurd rfl h
  | cons c l ih =>
    intro ws ws' h _
    rw [cellsW] at h
    split at h
    · rename_i hok
      have hok' := okC_iff.1 hok
      cases l with
      | nil =>
        simp only [cellsW, Option.some.injEq] at h
        subst h
        refine ⟨⟨by simp, trivial⟩, by simpa using hok', rfl, rfl, ⟨c, by simp, rfl⟩, by simp [kl_irrefl]⟩
      | cons c2 l2 =>
        obtain ⟨h1, h2, h3, h4, ⟨c3, h5, h6⟩, h7⟩ := ih h (by simp)
        have h8 : ∀ d ∈ c2 :: l2, kl c.1 d.1 = true := fun d hd => (h2 d hd).1 rfl
        refine ⟨⟨h8, h1⟩, ?_, h3, h4, ⟨c3, List.mem_cons_of_mem _ h5, h6⟩, ?_⟩
        · intro d hd
          rcases List.mem_cons.1 hd with rfl | hd
          · exact hok'
          · exact ⟨fun ha => kl_trans (hok'.1 ha) (h8 d hd), (h2 d hd).2⟩
        · intro d hd
          rcases List.mem_cons.1 hd with rfl | hd
          · rw [h6]; exact kl_asymm (h8 c3 h5)
          · exact h7 d hd
    · cases h
theorem cellsW_ok {l : List Cell} : ∀ {ws : WS}, Rise l → (∀ c ∈ l, ok ws c) → ∃ ws', cellsW l ws = some ws' := by
  induction l with
  | nil => intro ws _ _; exact ⟨ws, rfl⟩
  | cons c l ih =>
    intro ws h1 h2
    rw [cellsW, if_pos (okC_iff.2 (h2 c List.mem_cons_self))]
    exact ih h1.2 fun d hd => ⟨fun _ => h1.1 d hd, (h2 d (List.mem_cons_of_mem _ hd)).2⟩

/-- what the walk has seen of cells that are there -/
def Seen (d h : Nat) (ws ws' : WS) (l : List Cell) : Prop :=
  (ws.level = 0 ∨ ws.level + 1 = d + h) ∧ ws'.level + 1 = d + h ∧ ws'.any = true ∧ (∀ c ∈ l, ok ws c) ∧ (∃ c ∈ l, ws'.last = c.1) ∧ (∀ c ∈ l, kl ws'.last c.1 = false)

theorem kids_sound {d : Nat} {l : List Kt} (ih : ∀ k ∈ l, ∀ {ws ws' : WS}, knotW d ws k = some ws' → ∃ h, Inv 2 2 h none none k ∧ d + h ≤ 65 ∧ Seen d h ws ws' (flat k)) :
    ∀ {ws ws' : WS} {ks : List ByteArray} {a : Kt}, (∀ {ws ws' : WS}, knotW d ws a = some ws' → ∃ h, Inv 2 2 h none none a ∧ d + h ≤ 65 ∧ Seen d h ws ws' (flat a)) → ks.length = l.length → 2 ≤ d → kidsW d true ks ws (a :: l) = some ws' →
      ∃ h, InvL h none none ks (a :: l) ∧ d + h ≤ 65 ∧ Seen d h ws ws' (flatL (a :: l)) := by
  induction l with
  | nil =>
    intro ws ws' ks a ha hl hd h
    obtain rfl : ks = [] := List.eq_nil_of_length_eq_zero hl
    rw [kidsW_true] at h
    cases hk : knotW d ws a with
    | none => rw [hk] at h; cases h
    | some w1 =>
      rw [hk] at h
      simp only [kidsW, Option.some.injEq] at h
      subst h
      obtain ⟨h, h1, h2, h3⟩ := ha hk
      exact ⟨h, invL_one h1, h2, by simpa [flatL] using h3⟩
  | cons b l ihl =>
    intro ws ws' ks a ha hl hd h
    cases ks with
    | nil => simp at hl
    | cons k ks =>
      rw [kidsW_true] at h
      cases hk : knotW d ws a with
      | none => rw [hk] at h; cases h
      | some w1 =>
        rw [hk] at h
        simp only [kidsW_false] at h
        split at h
        · rename_i hlast
          obtain ⟨h1, g1, g2, g3⟩ := ha hk
          obtain ⟨h2, f1, f2, f3⟩ := ihl (fun k hk => ih k (List.mem_cons_of_mem _ hk)) (fun {_ _} => ih b List.mem_cons_self) (by simpa using hl) hd h
          obtain ⟨a1, a2, a3, a4, ⟨c1, a5, a6⟩, a7⟩ := g3
          obtain ⟨b1, b2, b3, b4, ⟨c2, b5, b6⟩, b7⟩ := f3
          have hh := (inv_count g1).2
          have e : h1 = h2 := by
            have : w1.level = 0 ∨ w1.level + 1 = d + h2 := b1
            omega
          subst e
          have hb4 : ∀ c ∈ flatL (b :: l), kl w1.last c.1 = true ∧ kl c.1 k = false := fun c hc => ⟨(b4 c hc).1 a3, (b4 c hc).2⟩
          refine ⟨h1, ?_, g2, a1, b2, b3, ?_, ⟨c2, by rw [flatL]; exact List.mem_append_right _ b5, b6⟩, ?_⟩
          · rw [invL_cons]
            refine ⟨inv_re (by omega) g1 fun c hc => ⟨fun _ h => (by cases h), fun u hu => ?_⟩, invL_re f1 fun c hc => ⟨fun u hu => ?_, fun _ h => (by cases h)⟩⟩
            · injection hu with hu; rw [← hu]
              exact kl_le_lt (a7 c hc) hlast
            · injection hu with hu; rw [← hu]
              exact (hb4 c hc).2
          · intro c hc
            rw [flatL] at hc
            rcases List.mem_append.1 hc with hc | hc
            · exact a4 c hc
            · have hx := (hb4 c hc).1
              rw [a6] at hx
              have hy := a4 c1 a5
              exact ⟨fun ha => kl_trans (hy.1 ha) hx, kl_asymm (kl_le_lt hy.2 hx)⟩
          · intro c hc
            rw [flatL] at hc
            rcases List.mem_append.1 hc with hc | hc
            · have hx := (hb4 c2 b5).1
              rw [b6]
              exact kl_asymm (kl_le_lt (a7 c hc) hx)
            · exact b7 c hc
        · cases h
theorem knot_sound {t : Kt} : ∀ {d : Nat} {ws ws' : WS}, 2 ≤ d → knotW d ws t = some ws' → d ≤ 64 → ∃ h, Inv 2 2 h none none t ∧ d + h ≤ 65 ∧ Seen d h ws ws' (flat t) := by
  refine ind (P := fun t => ∀ {d : Nat} {ws ws' : WS}, 2 ≤ d → knotW d ws t = some ws' → d ≤ 64 → ∃ h, Inv 2 2 h none none t ∧ d + h ≤ 65 ∧ Seen d h ws ws' (flat t)) ?_ t
  intro cells keys kids ih d ws ws' hd h h64
  rw [knotW] at h
  cases kids with
  | nil =>
    simp only [List.isEmpty_nil, if_true, leafW] at h
    split at h
    · cases h
    · rename_i h1
      split at h
      · cases h
      · rename_i h2
        have h3 : keys = [] := List.eq_nil_of_length_eq_zero (by omega)
        have hne : cells ≠ [] := by rintro rfl; simp at h1; omega
        obtain ⟨g1, g2, g3, g4, g5, g6⟩ := cellsW_some h hne
        subst h3
        refine ⟨1, inv_mk_leaf (by omega) (by omega) g1 fun c _ => inB_none c, by omega, ?_⟩
        rw [flat, flatL, List.append_nil]
        simp only at g3
        exact ⟨by omega, by omega, g4, g2, g5, g6⟩
  | cons a l =>
    simp only [List.isEmpty_cons, Bool.false_eq_true, if_false] at h
    split at h
    · cases h
    · rename_i h1
      have h2 : cells = [] := List.eq_nil_of_length_eq_zero (by omega)
      subst h2
      simp only [List.length_cons] at h1
      obtain ⟨h', g1, g2, g3⟩ := kids_sound (d := d + 1) (l := l) (fun k hk {_ _} hs => ih k (List.mem_cons_of_mem _ hk) (by omega) hs (by omega)) (fun {_ _} hs => ih a List.mem_cons_self (by omega) hs (by omega)) (by omega) (by omega) h
      refine ⟨h' + 1, inv_mk_inner (by simp; omega) (by simp; omega) ?_ g1, by omega, ?_⟩
      · cases keys with
        | nil => rw [invL_nil] at g1; exact (inv_count g1.2).2
        | cons k ks => rw [invL_cons] at g1; exact (inv_count g1.1).2
      · rw [flat, List.nil_append]
        obtain ⟨a1, a2, a3⟩ := g3
        exact ⟨by omega, by omega, a3⟩

theorem kids_full {d h : Nat} {l : List Kt} (ih : ∀ k ∈ l, ∀ {ws : WS}, Inv 2 2 h none none k → (∀ c ∈ flat k, ok ws c) → (ws.level = 0 ∨ ws.level + 1 = d + h) → ∃ ws', knotW d ws k = some ws')
    (hs : ∀ k ∈ l, ∀ {ws ws' : WS}, knotW d ws k = some ws' → ∃ h, Inv 2 2 h none none k ∧ d + h ≤ 65 ∧ Seen d h ws ws' (flat k)) :
    ∀ {ws : WS} {lo : Option ByteArray} {ks : List ByteArray}, InvL h lo none ks l → (∀ c ∈ flatL l, ok ws c) → (ws.level = 0 ∨ ws.level + 1 = d + h) → 2 ≤ d → 1 ≤ h → ∃ ws', kidsW d true ks ws l = some ws' := by
  induction l with
  | nil => intro ws lo ks H; rw [InvL] at H; exact H.elim
  | cons a l ihl =>
    intro ws lo ks H hok hlv hd hh
    rw [flatL] at hok
    have Ha : ∃ hi, Inv 2 2 h lo hi a := by
      cases ks with
      | nil => rw [invL_nil] at H; exact ⟨_, H.2⟩
      | cons k ks => rw [invL_cons] at H; exact ⟨_, H.1⟩
    obtain ⟨hi, Ha⟩ := Ha
    have Ha0 : Inv 2 2 h none none a := inv_re (by omega) Ha fun c _ => inB_none c
    obtain ⟨w1, h1⟩ := ih a List.mem_cons_self Ha0 (fun c hc => hok c (List.mem_append_left _ hc)) hlv
    rw [kidsW_true, h1]
    obtain ⟨h2, g1, g2, a1, a2, a3, a4, ⟨c1, a5, a6⟩, a7⟩ := hs a List.mem_cons_self h1
    have e : h = h2 := by
      have f1 := (inv_count g1).1
      have : ∀ {t : Kt} {h h2 : Nat}, Inv 2 2 h none none t → Inv 2 2 h2 none none t → h = h2 := by
        intro t
        refine ind (P := fun t => ∀ {h h2 : Nat}, Inv 2 2 h none none t → Inv 2 2 h2 none none t → h = h2) ?_ t
        intro cells keys kids ih h h2 A B
        cases kids with
        | nil => have := inv_leaf A (by omega); have := inv_leaf B (by omega); omega
        | cons x y =>
          have A' := inv_inner A
          have B' := inv_inner B
          have Hx : ∀ {h : Nat}, InvL h none none keys (x :: y) → Inv 2 2 h none none x := by
            intro h H
            cases keys with
            | nil => rw [invL_nil] at H; exact inv_re (by omega) H.2 fun c _ => inB_none c
            | cons k ks => rw [invL_cons] at H; exact inv_re (by omega) H.1 fun c _ => inB_none c
          have := ih x List.mem_cons_self (Hx A'.2.2.2.2) (Hx B'.2.2.2.2)
          omega
      exact this Ha0 g1
    subst e
    cases ks with
    | nil =>
      rw [invL_nil] at H
      obtain ⟨rfl, _⟩ := H
      exact ⟨w1, by simp [kidsW]⟩
    | cons k ks =>
      rw [invL_cons] at H
      cases l with
      | nil => rw [InvL] at H; exact H.2.elim
      | cons b l =>
        simp only [kidsW_false]
        have hlast : kl w1.last k = true := by rw [a6]; exact ((inv_inB2 H.1).1 c1 a5).2 k rfl
        rw [if_pos hlast]
        refine ihl (fun k hk => ih k (List.mem_cons_of_mem _ hk)) (fun k hk => hs k (List.mem_cons_of_mem _ hk)) H.2 (fun c hc => ?_) (.inr a2) hd hh
        have hb := (invL_all H.2).1 c hc
        exact ⟨fun _ => kl_lt_le hlast (hb.1 k rfl), hb.1 k rfl⟩
theorem knot_full {t : Kt} : ∀ {d h : Nat} {ws : WS}, 2 ≤ d → d + h ≤ 65 → Inv 2 2 h none none t → (∀ c ∈ flat t, ok ws c) → (ws.level = 0 ∨ ws.level + 1 = d + h) → ∃ ws', knotW d ws t = some ws' := by
  refine ind (P := fun t => ∀ {d h : Nat} {ws : WS}, 2 ≤ d → d + h ≤ 65 → Inv 2 2 h none none t → (∀ c ∈ flat t, ok ws c) → (ws.level = 0 ∨ ws.level + 1 = d + h) → ∃ ws', knotW d ws t = some ws') ?_ t
  intro cells keys kids ih d h ws hd hdh H hok hlv
  rw [flat] at hok
  rw [knotW]
  cases kids with
  | nil =>
    obtain ⟨rfl, rfl, h1, h2, h3, h4⟩ := inv_leaf H (by omega)
    simp only [List.isEmpty_nil, if_true, leafW]
    rw [if_neg (by simp; omega), if_neg (by omega)]
    refine cellsW_ok h3 fun c hc => hok c (List.mem_append_left _ hc)
  | cons a l =>
    obtain ⟨rfl, h1, h2, h3, h4⟩ := inv_inner H
    have hlen := invL_len h4
    simp only [List.isEmpty_cons, Bool.false_eq_true, if_false]
    rw [if_neg (by simp only [List.length_nil]; omega)]
    exact kids_full (d := d + 1) (h := h - 1) (fun k hk {ws} A B C => ih k hk (by omega) (by omega) A B C) (fun k hk {ws ws'} A => knot_sound (by omega) A (by omega)) h4 hok (by omega) (by omega) (by omega)

def ws0 : WS := ⟨0, false, .empty, .empty⟩
theorem ok0 (c : Cell) : ok ws0 c := ⟨fun h => (by cases h), kl_empty _⟩
/-- the program's check: a tree that may be, no deeper than 64 -/
theorem check_iff (t : Kt) : (knotW 1 ws0 t).isSome = true ↔ ∃ h, Inv 0 2 h none none t ∧ h ≤ 64 := by
  obtain ⟨cells, keys, kids⟩ := t
  rw [knotW]
  cases kids with
  | nil =>
    simp only [List.isEmpty_nil, if_true, leafW]
    constructor
    · intro h
      split at h
      · cases h
      · rename_i h1
        have h3 : keys = [] := List.eq_nil_of_length_eq_zero (by omega)
        subst h3
        rw [if_neg (by simp [ws0])] at h
        refine ⟨1, inv_mk_leaf (by omega) (by omega) ?_ fun c _ => inB_none c, by omega⟩
        obtain ⟨ws', hw⟩ := Option.isSome_iff_exists.1 h
        by_cases hne : cells = []
        · rw [hne]; trivial
        · exact (cellsW_some hw hne).1
    · rintro ⟨h, H, _⟩
      obtain ⟨rfl, rfl, h1, h2, h3, h4⟩ := inv_leaf H (by omega)
      rw [if_neg (by simp; omega), if_neg (by simp [ws0])]
      obtain ⟨ws', hw⟩ := cellsW_ok (ws := { ws0 with level := 1 }) h3 fun c _ => ⟨fun h => (by cases h), kl_empty _⟩
      rw [hw]; rfl
  | cons a l =>
    simp only [List.isEmpty_cons, Bool.false_eq_true, if_false]
    constructor
    · intro h
      split at h
      · cases h
      · rename_i h1
        have h2 : cells = [] := List.eq_nil_of_length_eq_zero (by omega)
        subst h2
        simp only [List.length_cons] at h1
        obtain ⟨ws', hw⟩ := Option.isSome_iff_exists.1 h
        obtain ⟨h', g1, g2, g3⟩ := kids_sound (d := 1 + 1) (l := l) (fun k hk {_ _} hs => knot_sound (by omega) hs (by omega)) (fun {_ _} hs => knot_sound (by omega) hs (by omega)) (by omega) (by omega) hw
        refine ⟨h' + 1, inv_mk_inner (by simp; omega) (by simp; omega) ?_ g1, by omega⟩
        cases keys with
        | nil => rw [invL_nil] at g1; exact (inv_count g1.2).2
        | cons k ks => rw [invL_cons] at g1; exact (inv_count g1.1).2
    · rintro ⟨h, H, h64⟩
      obtain ⟨rfl, h1, h2, h3, h4⟩ := inv_inner H
      have hlen := invL_len h4
      rw [if_neg (by simp only [List.length_nil]; omega)]
      obtain ⟨ws', hw⟩ := kids_full (d := 1 + 1) (h := h - 1) (fun k hk {ws} A B C => knot_full (by omega) (by omega) A B C) (fun k hk {ws ws'} A => knot_sound (by omega) A (by omega)) h4 (fun c _ => ok0 c) (.inl rfl) (by omega) (by omega)
      rw [hw]; rfl

/-! ### The document's definition -/
mutual
  def formP (root : Bool) : Kt → Nat
    | .mk cells keys kids => if kids.isEmpty then (if 0 < keys.length ∨ 4 < cells.length ∨ (root = false ∧ cells.length < 2) then 0 else 1)
      else if 0 < cells.length ∨ kids.length < 2 ∨ 4 < kids.length ∨ keys.length + 1 ≠ kids.length then 0
      else match formsL kids with
        | [] => 0
        | deep :: rest => if rest.all (fun x => decide (x = deep)) then (if deep = 0 then 0 else deep + 1) else 0
  def formsL : List Kt → List Nat
    | [] => []
    | k :: l => formP false k :: formsL l
end
/-- between two bounds -/
def inBb (lo hi : Option ByteArray) (c : Cell) : Bool := (match lo with | some l => !kl c.1 l | none => true) && (match hi with | some u => kl c.1 u | none => true)
mutual
  def betweenP : Kt → Bool
    | .mk cells keys kids => betweenL none keys kids
  def betweenL (prev : Option ByteArray) (keys : List ByteArray) : List Kt → Bool
    | [] => true
    | k :: l => (flat k).all (inBb prev keys.head?) && betweenP k && betweenL keys.head? keys.tail l
end
/-- a tree is no deeper than its cells can be halved -/
theorem root_count {t : Kt} {h : Nat} {lo hi : Option ByteArray} (H : Inv 0 2 h lo hi t) (h2 : 2 ≤ h) : 2 ^ h ≤ (flat t).length := by
  obtain ⟨c, k, l⟩ := t
  cases l with
  | nil => have := inv_leaf H (by omega); omega
  | cons x y =>
    obtain ⟨rfl, h1, h2, h3, h4⟩ := inv_inner H
    have : Inv 2 2 h lo hi (.mk [] k (x :: y)) := by
      rw [show h = (h - 1) + 1 by omega]; exact inv_mk_inner h1 h2 (by omega) h4
    exact (inv_count this).1

end Go.Proofs.YtojincohnjophaaGreatDoor.TreeP

/-! Trees in memory: three slices (cells, keys, kids) that read as a tree. -/
namespace Go.Proofs.YtojincohnjophaaGreatDoor
open Go.RowKit
open TreeP (Kt Cell kl flat flatL height heightL)
set_option linter.unusedVariables false

def cellsV : List Cell → List Value
  | [] => []
  | c :: l => .string c.1 :: .string c.2 :: cellsV l
theorem cellsV_append (a b : List Cell) : cellsV (a ++ b) = cellsV a ++ cellsV b := by
  induction a with
  | nil => rfl
  | cons c a ih => simp [cellsV, ih]
theorem cellsV_length (a : List Cell) : (cellsV a).length = a.length * 2 := by
  induction a with
  | nil => rfl
  | cons c a ih => simp [cellsV, ih]; omega
theorem cellsV_one (l : List Cell) : ∀ u ∈ cellsV l, u.oneCell' = true := by
  induction l with
  | nil => intro u h; cases h
  | cons c l ih =>
    intro u h
    simp only [cellsV, List.mem_cons] at h
    rcases h with rfl | rfl | h
    · rfl
    · rfl
    · exact ih u h
theorem cellsV_get {l : List Cell} {k : Nat} {c : Cell} (h : l[k]? = some c) : (cellsV l)[k * 2]? = some (.string c.1) ∧ (cellsV l)[k * 2 + 1]? = some (.string c.2) := by
  induction l generalizing k with
  | nil => simp at h
  | cons d l ih =>
    cases k with
    | zero => simp at h; subst h; exact ⟨rfl, rfl⟩
    | succ k =>
      have := ih (k := k) (by simpa using h)
      rw [show (k + 1) * 2 = k * 2 + 2 by omega]
      simpa [cellsV] using this
theorem cellsV_drop (l : List Cell) (k : Nat) : cellsV (l.drop k) = (cellsV l).drop (k * 2) := by
  induction k generalizing l with
  | zero => simp
  | succ k ih =>
    cases l with
    | nil => simp [cellsV]
    | cons c l => rw [show (k + 1) * 2 = k * 2 + 2 by omega]; simpa [cellsV] using ih l
theorem cellsV_take (l : List Cell) (k : Nat) : cellsV (l.take k) = (cellsV l).take (k * 2) := by
  induction k generalizing l with
  | zero => simp [cellsV]
  | succ k ih =>
    cases l with
    | nil => simp [cellsV]
    | cons c l => rw [show (k + 1) * 2 = k * 2 + 2 by omega]; simpa [cellsV] using ih l

theorem Sl.cells {w : World} {V : Nat → Prop} {A : Option Addr} {n : Nat} {l : List Cell} (h : Sl w V 2 A n (cellsV l)) : l.length = n := by
  have := h.1; rw [cellsV_length] at this; omega
theorem Sl.cell {w : World} {V : Nat → Prop} {A : Option Addr} {n k : Nat} {l : List Cell} (h : Sl w V 2 A n (cellsV l)) (hk : k < n) :
    ∃ a c, A = some a ∧ l[k]? = some c ∧ w.cell? (a.add (k * 2)) = some (.string c.1) ∧ w.cell? ⟨(a.add (k * 2)).block, (a.add (k * 2)).off + 1, none⟩ = some (.string c.2) := by
  obtain ⟨a, e, _, _, hc⟩ := h.2 (by omega)
  have hl : k < l.length := by have := h.cells; omega
  have := cellsV_get (List.getElem?_eq_getElem hl)
  exact ⟨a, l[k], e, List.getElem?_eq_getElem hl, hc _ _ this.1, by rw [← Addr.add_succ' _ 0, add_add']; exact hc _ _ this.2⟩

mutual
  /-- three values that read as a tree; its blocks are some of V; no list is longer than B -/
  def Kn (w : World) (V : Nat → Prop) (B : Nat) (v1 v2 v3 : Value) : Kt → Prop
    | .mk cells keys kids => (∃ A c, v1 = .slice A cells.length c ∧ cells.length ≤ c ∧ cells.length ≤ B ∧ Sl w V 2 A cells.length (cellsV cells)) ∧
        (∃ A c, v2 = .slice A keys.length c ∧ keys.length ≤ c ∧ keys.length ≤ B ∧ Sl w V 1 A keys.length (strs keys)) ∧
        ∃ A c vals, v3 = .slice A kids.length c ∧ kids.length ≤ c ∧ kids.length ≤ B ∧ Sl w V 3 A kids.length vals ∧ KnL w V B vals kids
  def KnL (w : World) (V : Nat → Prop) (B : Nat) (vals : List Value) : List Kt → Prop
    | [] => vals = []
    | k :: l => ∃ a b c r, vals = a :: b :: c :: r ∧ Kn w V B a b c k ∧ KnL w V B r l
end

theorem knL_nil {w : World} {V : Nat → Prop} {B : Nat} {vals : List Value} : KnL w V B vals [] ↔ vals = [] := by rw [KnL]
theorem knL_cons {w : World} {V : Nat → Prop} {B : Nat} {vals : List Value} {k : Kt} {l : List Kt} : KnL w V B vals (k :: l) ↔ ∃ a b c r, vals = a :: b :: c :: r ∧ Kn w V B a b c k ∧ KnL w V B r l := by rw [KnL]
theorem kn_mk {w : World} {V : Nat → Prop} {B : Nat} {v1 v2 v3 : Value} {cells : List Cell} {keys : List ByteArray} {kids : List Kt} : Kn w V B v1 v2 v3 (.mk cells keys kids) ↔
    (∃ A c, v1 = .slice A cells.length c ∧ cells.length ≤ c ∧ cells.length ≤ B ∧ Sl w V 2 A cells.length (cellsV cells)) ∧
        (∃ A c, v2 = .slice A keys.length c ∧ keys.length ≤ c ∧ keys.length ≤ B ∧ Sl w V 1 A keys.length (strs keys)) ∧
        ∃ A c vals, v3 = .slice A kids.length c ∧ kids.length ≤ c ∧ kids.length ≤ B ∧ Sl w V 3 A kids.length vals ∧ KnL w V B vals kids := by rw [Kn]
theorem knL_len {w : World} {V : Nat → Prop} {B : Nat} {vals : List Value} {l : List Kt} (h : KnL w V B vals l) : vals.length = l.length * 3 := by
  induction l generalizing vals with
  | nil => rw [knL_nil] at h; simp [h]
  | cons k l ih =>
    obtain ⟨a, b, c, r, rfl, _, h⟩ := knL_cons.1 h
    simp [ih h]; omega
theorem knL_get {w : World} {V : Nat → Prop} {B : Nat} {vals : List Value} {l : List Kt} (h : KnL w V B vals l) {i : Nat} {k : Kt} (hi : l[i]? = some k) :
    ∃ a b c, vals[i * 3]? = some a ∧ vals[i * 3 + 1]? = some b ∧ vals[i * 3 + 2]? = some c ∧ Kn w V B a b c k := by
  induction l generalizing vals i with
  | nil => simp at hi
  | cons x l ih =>
    obtain ⟨a, b, c, r, rfl, h1, h2⟩ := knL_cons.1 h
    cases i with
    | zero => simp at hi; subst hi; exact ⟨a, b, c, rfl, rfl, rfl, h1⟩
    | succ i =>
      obtain ⟨a', b', c', g1, g2, g3, g4⟩ := ih h2 (by simpa using hi)
      rw [show (i + 1) * 3 = i * 3 + 3 by omega]
      exact ⟨a', b', c', by simpa using g1, by simpa using g2, by simpa using g3, g4⟩
theorem knL_append {w : World} {V : Nat → Prop} {B : Nat} {v1 v2 : List Value} {a b : List Kt} (h : KnL w V B v1 a) (g : KnL w V B v2 b) : KnL w V B (v1 ++ v2) (a ++ b) := by
  induction a generalizing v1 with
  | nil => rw [knL_nil] at h; subst h; exact g
  | cons k a ih =>
    obtain ⟨x, y, z, r, rfl, h1, h2⟩ := knL_cons.1 h
    exact knL_cons.2 ⟨x, y, z, r ++ v2, rfl, h1, ih h2⟩
theorem knL_one {w : World} {V : Nat → Prop} {B : Nat} {a b c : Value} {k : Kt} (h : Kn w V B a b c k) : KnL w V B [a, b, c] [k] := knL_cons.2 ⟨a, b, c, [], rfl, h, knL_nil.2 rfl⟩
theorem knL_take {w : World} {V : Nat → Prop} {B : Nat} {vals : List Value} {l : List Kt} (h : KnL w V B vals l) (n : Nat) : KnL w V B (vals.take (n * 3)) (l.take n) := by
  induction n generalizing vals l with
  | zero => simp [knL_nil]
  | succ n ih =>
    cases l with
    | nil => rw [knL_nil] at h; subst h; simp [knL_nil]
    | cons k l =>
      obtain ⟨x, y, z, r, rfl, h1, h2⟩ := knL_cons.1 h
      rw [show (n + 1) * 3 = n * 3 + 3 by omega]
      exact knL_cons.2 ⟨x, y, z, r.take (n * 3), by simp, h1, ih h2⟩
theorem knL_drop {w : World} {V : Nat → Prop} {B : Nat} {vals : List Value} {l : List Kt} (h : KnL w V B vals l) (n : Nat) : KnL w V B (vals.drop (n * 3)) (l.drop n) := by
  induction n generalizing vals l with
  | zero => simpa using h
  | succ n ih =>
    cases l with
    | nil => rw [knL_nil] at h; subst h; simp [knL_nil]
    | cons k l =>
      obtain ⟨x, y, z, r, rfl, h1, h2⟩ := knL_cons.1 h
      rw [show (n + 1) * 3 = n * 3 + 3 by omega]
      simpa using ih h2
theorem knL_imp {w w' : World} {V V' : Nat → Prop} {B B' : Nat} {l : List Kt} (ih : ∀ k ∈ l, ∀ a b c, Kn w V B a b c k → Kn w' V' B' a b c k) : ∀ {vals : List Value}, KnL w V B vals l → KnL w' V' B' vals l := by
  induction l with
  | nil => intro vals h; rw [knL_nil] at h ⊢; exact h
  | cons k l ihl =>
    intro vals h
    obtain ⟨x, y, z, r, rfl, h1, h2⟩ := knL_cons.1 h
    exact knL_cons.2 ⟨x, y, z, r, rfl, ih k List.mem_cons_self _ _ _ h1, ihl (fun k hk => ih k (List.mem_cons_of_mem _ hk)) h2⟩
theorem kn_keep {w w' : World} {V V' : Nat → Prop} {B B' : Nat} (hB : B ≤ B') (hs : w.heap.size ≤ w'.heap.size) (hk : ∀ b, V b → b < w.heap.size → w'.heap[b]? = w.heap[b]?) (hV : ∀ b, V b → b < w.heap.size → V' b) :
    ∀ {t : Kt} {a b c : Value}, Kn w V B a b c t → Kn w' V' B' a b c t := by
  intro t
  refine TreeP.ind (P := fun t => ∀ {a b c : Value}, Kn w V B a b c t → Kn w' V' B' a b c t) ?_ t
  intro cells keys kids ih a b c h
  rw [kn_mk] at h ⊢
  obtain ⟨⟨A1, c1, e1, h1, g1, s1⟩, ⟨A2, c2, e2, h2, g2, s2⟩, A3, c3, vals, e3, h3, g3, s3, k3⟩ := h
  have up : ∀ {size n : Nat} {A : Option Addr} {xs : List Value}, Sl w V size A n xs → Sl w' V' size A n xs := fun h => ((Sl.lt' h).keep hs (fun b hb hlt => hk b hb.1 hlt)).mono fun b hb => hV b hb.1 hb.2
  exact ⟨⟨A1, c1, e1, h1, by omega, up s1⟩, ⟨A2, c2, e2, h2, by omega, up s2⟩, A3, c3, vals, e3, h3, by omega, up s3, knL_imp (fun k hk a b c => ih k hk) k3⟩
theorem knL_keep {w w' : World} {V V' : Nat → Prop} {B B' : Nat} (hB : B ≤ B') (hs : w.heap.size ≤ w'.heap.size) (hk : ∀ b, V b → b < w.heap.size → w'.heap[b]? = w.heap[b]?) (hV : ∀ b, V b → b < w.heap.size → V' b)
    {l : List Kt} {vals : List Value} (h : KnL w V B vals l) : KnL w' V' B' vals l := knL_imp (fun k _ a b c => kn_keep hB hs hk hV) h
theorem Kn.below {w w' : World} {V : Nat → Prop} {B : Nat} {a b c : Value} {t : Kt} (h : Kn w V B a b c t) (hb : Below w.heap.size w w') : Kn w' V B a b c t := kn_keep (Nat.le_refl _) hb.size (fun b _ hlt => hb.block b hlt) (fun b hb _ => hb) h
theorem Kn.any {w : World} {V : Nat → Prop} {B : Nat} {a b c : Value} {t : Kt} (h : Kn w V B a b c t) : Kn w (fun _ => True) B a b c t := kn_keep (Nat.le_refl _) (Nat.le_refl _) (fun b _ _ => rfl) (fun b hb _ => trivial) h
theorem Kn.lt {w : World} {V : Nat → Prop} {B : Nat} {a b c : Value} {t : Kt} (h : Kn w V B a b c t) : Kn w (fun b => b < w.heap.size) B a b c t := kn_keep (Nat.le_refl _) (Nat.le_refl _) (fun b _ _ => rfl) (fun b hb h => h) h
theorem Kn.drew {w : World} {V : Nat → Prop} {B : Nat} {a b c : Value} {t : Kt} (h : Kn w V B a b c t) : Kn w.drew V B a b c t := kn_keep (w := w) (w' := w.drew) (Nat.le_refl _) (Nat.le_refl w.heap.size) (fun b _ _ => rfl) (fun b hb h => hb) h
theorem Kn.drewN {w : World} {V : Nat → Prop} {B : Nat} {a b c : Value} {t : Kt} (h : Kn w V B a b c t) (n : Nat) : Kn (w.drewN n) V B a b c t := kn_keep (w := w) (w' := w.drewN n) (Nat.le_refl _) (Nat.le_refl w.heap.size) (fun b _ _ => rfl) (fun b hb h => hb) h
theorem KnL.below {w w' : World} {V : Nat → Prop} {B : Nat} {vals : List Value} {l : List Kt} (h : KnL w V B vals l) (hb : Below w.heap.size w w') : KnL w' V B vals l := knL_keep (Nat.le_refl _) hb.size (fun b _ hlt => hb.block b hlt) (fun b hb _ => hb) h
theorem KnL.any {w : World} {V : Nat → Prop} {B : Nat} {vals : List Value} {l : List Kt} (h : KnL w V B vals l) : KnL w (fun _ => True) B vals l := knL_keep (Nat.le_refl _) (Nat.le_refl _) (fun b _ _ => rfl) (fun b hb _ => trivial) h

theorem sl_get {w : World} {V : Nat → Prop} {size : Nat} {A : Option Addr} {n : Nat} {xs : List Value} (h : Sl w V size A n xs) {k : Nat} {u : Value} (hk : xs[k]? = some u) : ∃ a, A = some a ∧ w.cell? (a.add k) = some u := by
  have h1 := (List.getElem?_eq_some_iff.1 hk).1
  have h2 := h.1
  obtain ⟨a, e, _, _, hc⟩ := h.2 (by
    rcases Nat.eq_zero_or_pos n with h0 | h0
    · rw [h0] at h2; omega
    · exact h0)
  exact ⟨a, e, hc _ _ hk⟩
/-- one kid of a tree, as cells -/
theorem kid_at {w : World} {V : Nat → Prop} {B : Nat} {A : Option Addr} {n : Nat} {vals : List Value} {kids : List Kt} (h : Sl w V 3 A n vals) (hk : KnL w V B vals kids) {i : Nat} {k : Kt} (hi : kids[i]? = some k) :
    ∃ a v1 v2 v3, A = some a ∧ w.cell? (a.add (i * 3)) = some v1 ∧ w.cell? ⟨(a.add (i * 3)).block, (a.add (i * 3)).off + 1, none⟩ = some v2 ∧ w.cell? ⟨(a.add (i * 3)).block, (a.add (i * 3)).off + 2, none⟩ = some v3 ∧ Kn w V B v1 v2 v3 k := by
  obtain ⟨v1, v2, v3, g1, g2, g3, g4⟩ := knL_get hk hi
  obtain ⟨a, e, c1⟩ := sl_get h g1
  obtain ⟨a', e', c2⟩ := sl_get h g2
  obtain ⟨a'', e'', c3⟩ := sl_get h g3
  rw [e] at e' e''
  injection e' with e'
  injection e'' with e''
  subst e'
  subst e''
  exact ⟨a, v1, v2, v3, e, c1, by rw [← Addr.add_succ' _ 0, add_add']; exact c2, by rw [← Addr.add_succ' _ 1, add_add']; exact c3, g4⟩

end Go.Proofs.YtojincohnjophaaGreatDoor
