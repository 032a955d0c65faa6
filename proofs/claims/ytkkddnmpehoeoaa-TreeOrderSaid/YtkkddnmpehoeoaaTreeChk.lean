/- The plain side of layer 20, which trees may be: the program's one walk, and the document's definition. -/
import Derived.Test.YtkkddnmpehoeoaaTreeDel
namespace Go.Proofs.Ytkkddnmpehoeoaa.TreeP
set_option linter.unusedVariables false

/-! ### Other bounds -/
theorem inB_re {lo hi lo' hi' : Option ByteArray} {k : ByteArray} {c : Cell} (h : InB lo (some k) c) (g : InB lo' hi' c) : InB lo' (some k) c := ⟨g.1, h.2⟩
theorem inv_re {t : Kt} : ∀ {ml mi h : Nat} {lo hi lo' hi' : Option ByteArray}, 1 ≤ mi → Inv ml mi h lo hi t → (∀ c ∈ flat t, InB lo' hi' c) → Inv ml mi h lo' hi' t := by
  refine ind (P := fun t => ∀ {ml mi h : Nat} {lo hi lo' hi' : Option ByteArray}, 1 ≤ mi → Inv ml mi h lo hi t → (∀ c ∈ flat t, InB lo' hi' c) → Inv ml mi h lo' hi' t) ?_ t
  intro cells keys kids ih ml mi h lo hi lo' hi' hm H hc
  rw [flat] at hc
  cases kids with
  | nil =>
    obtain ⟨rfl, rfl, h1, h2, h3, h4⟩ := inv_leaf H hm
    exact inv_mk_leaf h1 h2 h3 fun c hx => hc c (List.mem_append_left _ hx)
  | cons kid kids =>
    obtain ⟨rfl, h1, h2, h3, h4⟩ := inv_inner H
    rw [show h = (h - 1) + 1 by omega]
    refine inv_mk_inner h1 h2 (by omega) ?_
    have key : ∀ (l : List Kt) (lo lo' : Option ByteArray) (ks : List ByteArray), (∀ k ∈ l, k ∈ kid :: kids) → InvL (h - 1) lo hi ks l → (∀ c ∈ flatL l, InB lo' hi' c) → InvL (h - 1) lo' hi' ks l := by
      intro l
      induction l with
      | nil => intro lo lo' ks _ H _; rw [InvL] at H; exact H.elim
      | cons a l ihl =>
        intro lo lo' ks hs H hb
        rw [flatL] at hb
        cases ks with
        | nil =>
          rw [invL_nil] at H ⊢
          obtain ⟨rfl, H⟩ := H
          exact ⟨rfl, ih a (hs a List.mem_cons_self) (by omega) H fun c hx => hb c (List.mem_append_left _ hx)⟩
        | cons k ks =>
          rw [invL_cons] at H ⊢
          refine ⟨ih a (hs a List.mem_cons_self) (by omega) H.1 fun c hx => ?_, ihl _ _ _ (fun x hx => hs x (List.mem_cons_of_mem _ hx)) H.2 fun c hx => ?_⟩
          · exact ⟨(hb c (List.mem_append_left _ hx)).1, ((inv_inB2 H.1).1 c hx).2⟩
          · exact ⟨((invL_all H.2).1 c hx).1, (hb c (List.mem_append_right _ hx)).2⟩
    exact key _ _ _ _ (fun _ h => h) h4 hc
theorem invL_re {h : Nat} {lo hi lo' hi' : Option ByteArray} {l : List Kt} {ks : List ByteArray} (H : InvL h lo hi ks l) (hb : ∀ c ∈ flatL l, InB lo' hi' c) : InvL h lo' hi' ks l := by
  induction l generalizing lo lo' ks with
  | nil => rw [InvL] at H; exact H.elim
  | cons a l ihl =>
    rw [flatL] at hb
    cases ks with
    | nil =>
      rw [invL_nil] at H ⊢
      obtain ⟨rfl, H⟩ := H
      exact ⟨rfl, inv_re (by omega) H fun c hx => hb c (List.mem_append_left _ hx)⟩
    | cons k ks =>
      rw [invL_cons] at H ⊢
      refine ⟨inv_re (by omega) H.1 fun c hx => ⟨(hb c (List.mem_append_left _ hx)).1, ((inv_inB2 H.1).1 c hx).2⟩, ihl H.2 fun c hx => ?_⟩
      exact ⟨((invL_all H.2).1 c hx).1, (hb c (List.mem_append_right _ hx)).2⟩

/-! ### The program's walk -/
structure WS where
  level : Nat
  any : Bool
  last : ByteArray
  floor : ByteArray

/-- a cell that may come next -/
def okC (ws : WS) (c : Cell) : Bool := !(ws.any && !kl ws.last c.1) && !kl c.1 ws.floor
def cellsW : List Cell → WS → Option WS
  | [], ws => some ws
  | c :: l, ws => if okC ws c then cellsW l { ws with any := true, last := c.1 } else none
def leafW (cells : List Cell) (keys : List ByteArray) (d : Nat) (ws : WS) : Option WS :=
  if keys.length ≠ 0 ∨ 4 < cells.length ∨ (1 < d ∧ cells.length < 2) then none
  else if ws.level ≠ 0 ∧ ws.level ≠ d then none
  else cellsW cells { ws with level := d }
mutual
  def knotW (d : Nat) (ws : WS) : Kt → Option WS
    | .mk cells keys kids => if kids.isEmpty then leafW cells keys d ws
      else if 64 ≤ d ∨ cells.length ≠ 0 ∨ kids.length < 2 ∨ 4 < kids.length ∨ keys.length + 1 ≠ kids.length then none
      else kidsW (d + 1) true keys ws kids
  def kidsW (d : Nat) (first : Bool) (keys : List ByteArray) (ws : WS) : List Kt → Option WS
    | [] => some ws
    | kid :: l => match first, keys with
      | true, ks => match knotW d ws kid with
        | none => none
        | some w1 => kidsW d false ks w1 l
      | false, [] => none
      | false, k :: ks => if kl ws.last k then (match knotW d { ws with floor := k } kid with
        | none => none
        | some w1 => kidsW d false ks w1 l) else none
end
theorem kidsW_true {d : Nat} {keys : List ByteArray} {ws : WS} {kid : Kt} {l : List Kt} : kidsW d true keys ws (kid :: l) = match knotW d ws kid with | none => none | some w1 => kidsW d false keys w1 l := by rw [kidsW]
theorem kidsW_false {d : Nat} {k : ByteArray} {ks : List ByteArray} {ws : WS} {kid : Kt} {l : List Kt} : kidsW d false (k :: ks) ws (kid :: l) = if kl ws.last k then kidsW d true ks { ws with floor := k } (kid :: l) else none := by
  conv => lhs; rw [kidsW]
  rw [kidsW_true]

def ok (ws : WS) (c : Cell) : Prop := (ws.any = true → kl ws.last c.1 = true) ∧ kl c.1 ws.floor = false
theorem okC_iff {ws : WS} {c : Cell} : okC ws c = true ↔ ok ws c := by
  unfold okC ok
  cases ws.any <;> cases kl ws.last c.1 <;> cases kl c.1 ws.floor <;> simp

theorem cellsW_some {l : List Cell} : ∀ {ws ws' : WS}, cellsW l ws = some ws' → l ≠ [] → Rise l ∧ (∀ c ∈ l, ok ws c) ∧ ws'.level = ws.level ∧ ws'.any = true ∧ (∃ c ∈ l, ws'.last = c.1) ∧ (∀ c ∈ l, kl ws'.last c.1 = false) := by
  induction l with
  | nil => intro ws ws' _ h; exact absurd rfl h
  | cons c l ih =>
    intro ws ws' h _
    rw [cellsW] at h
    split at h
    · rename_i hok
      have hok' := okC_iff.1 hok
      cases l with
      | nil =>
        simp only [cellsW, Option.some.injEq] at h
        subst h
        refine ⟨⟨by simp, trivial⟩, by simpa using hok', rfl, rfl, ⟨c, by simp, rfl⟩, by simp [kl_irrefl]⟩
      | cons c2 l2 =>
        obtain ⟨h1, h2, h3, h4, ⟨c3, h5, h6⟩, h7⟩ := ih h (by simp)
        have h8 : ∀ d ∈ c2 :: l2, kl c.1 d.1 = true := fun d hd => (h2 d hd).1 rfl
        refine ⟨⟨h8, h1⟩, ?_, h3, h4, ⟨c3, List.mem_cons_of_mem _ h5, h6⟩, ?_⟩
        · intro d hd
          rcases List.mem_cons.1 hd with rfl | hd
          · exact hok'
          · exact ⟨fun ha => kl_trans (hok'.1 ha) (h8 d hd), (h2 d hd).2⟩
        · intro d hd
          rcases List.mem_cons.1 hd with rfl | hd
          · rw [h6]; exact kl_asymm (h8 c3 h5)
          · exact h7 d hd
    · cases h
theorem cellsW_ok {l : List Cell} : ∀ {ws : WS}, Rise l → (∀ c ∈ l, ok ws c) → ∃ ws', cellsW l ws = some ws' := by
  induction l with
  | nil => intro ws _ _; exact ⟨ws, rfl⟩
  | cons c l ih =>
    intro ws h1 h2
    rw [cellsW, if_pos (okC_iff.2 (h2 c List.mem_cons_self))]
    exact ih h1.2 fun d hd => ⟨fun _ => h1.1 d hd, (h2 d (List.mem_cons_of_mem _ hd)).2⟩

/-- what the walk has seen of cells that are there -/
def Seen (d h : Nat) (ws ws' : WS) (l : List Cell) : Prop :=
  (ws.level = 0 ∨ ws.level + 1 = d + h) ∧ ws'.level + 1 = d + h ∧ ws'.any = true ∧ (∀ c ∈ l, ok ws c) ∧ (∃ c ∈ l, ws'.last = c.1) ∧ (∀ c ∈ l, kl ws'.last c.1 = false)

theorem kids_sound {d : Nat} {l : List Kt} (ih : ∀ k ∈ l, ∀ {ws ws' : WS}, knotW d ws k = some ws' → ∃ h, Inv 2 2 h none none k ∧ d + h ≤ 65 ∧ Seen d h ws ws' (flat k)) :
    ∀ {ws ws' : WS} {ks : List ByteArray} {a : Kt}, (∀ {ws ws' : WS}, knotW d ws a = some ws' → ∃ h, Inv 2 2 h none none a ∧ d + h ≤ 65 ∧ Seen d h ws ws' (flat a)) → ks.length = l.length → 2 ≤ d → kidsW d true ks ws (a :: l) = some ws' →
      ∃ h, InvL h none none ks (a :: l) ∧ d + h ≤ 65 ∧ Seen d h ws ws' (flatL (a :: l)) := by
  induction l with
  | nil =>
    intro ws ws' ks a ha hl hd h
    obtain rfl : ks = [] := List.eq_nil_of_length_eq_zero hl
    rw [kidsW_true] at h
    cases hk : knotW d ws a with
    | none => rw [hk] at h; cases h
    | some w1 =>
      rw [hk] at h
      simp only [kidsW, Option.some.injEq] at h
      subst h
      obtain ⟨h, h1, h2, h3⟩ := ha hk
      exact ⟨h, invL_one h1, h2, by simpa [flatL] using h3⟩
  | cons b l ihl =>
    intro ws ws' ks a ha hl hd h
    cases ks with
    | nil => simp at hl
    | cons k ks =>
      rw [kidsW_true] at h
      cases hk : knotW d ws a with
      | none => rw [hk] at h; cases h
      | some w1 =>
        rw [hk] at h
        simp only [kidsW_false] at h
        split at h
        · rename_i hlast
          obtain ⟨h1, g1, g2, g3⟩ := ha hk
          obtain ⟨h2, f1, f2, f3⟩ := ihl (fun k hk => ih k (List.mem_cons_of_mem _ hk)) (fun {_ _} => ih b List.mem_cons_self) (by simpa using hl) hd h
          obtain ⟨a1, a2, a3, a4, ⟨c1, a5, a6⟩, a7⟩ := g3
          obtain ⟨b1, b2, b3, b4, ⟨c2, b5, b6⟩, b7⟩ := f3
          have hh := (inv_count g1).2
          have e : h1 = h2 := by
            have : w1.level = 0 ∨ w1.level + 1 = d + h2 := b1
            omega
          subst e
          have hb4 : ∀ c ∈ flatL (b :: l), kl w1.last c.1 = true ∧ kl c.1 k = false := fun c hc => ⟨(b4 c hc).1 a3, (b4 c hc).2⟩
          refine ⟨h1, ?_, g2, a1, b2, b3, ?_, ⟨c2, by rw [flatL]; exact List.mem_append_right _ b5, b6⟩, ?_⟩
          · rw [invL_cons]
            refine ⟨inv_re (by omega) g1 fun c hc => ⟨fun _ h => (by cases h), fun u hu => ?_⟩, invL_re f1 fun c hc => ⟨fun u hu => ?_, fun _ h => (by cases h)⟩⟩
            · injection hu with hu; rw [← hu]
              exact kl_le_lt (a7 c hc) hlast
            · injection hu with hu; rw [← hu]
              exact (hb4 c hc).2
          · intro c hc
            rw [flatL] at hc
            rcases List.mem_append.1 hc with hc | hc
            · exact a4 c hc
            · have hx := (hb4 c hc).1
              rw [a6] at hx
              have hy := a4 c1 a5
              exact ⟨fun ha => kl_trans (hy.1 ha) hx, kl_asymm (kl_le_lt hy.2 hx)⟩
          · intro c hc
            rw [flatL] at hc
            rcases List.mem_append.1 hc with hc | hc
            · have hx := (hb4 c2 b5).1
              rw [b6]
              exact kl_asymm (kl_le_lt (a7 c hc) hx)
            · exact b7 c hc
        · cases h
theorem knot_sound {t : Kt} : ∀ {d : Nat} {ws ws' : WS}, 2 ≤ d → knotW d ws t = some ws' → d ≤ 64 → ∃ h, Inv 2 2 h none none t ∧ d + h ≤ 65 ∧ Seen d h ws ws' (flat t) := by
  refine ind (P := fun t => ∀ {d : Nat} {ws ws' : WS}, 2 ≤ d → knotW d ws t = some ws' → d ≤ 64 → ∃ h, Inv 2 2 h none none t ∧ d + h ≤ 65 ∧ Seen d h ws ws' (flat t)) ?_ t
  intro cells keys kids ih d ws ws' hd h h64
  rw [knotW] at h
  cases kids with
  | nil =>
    simp only [List.isEmpty_nil, if_true, leafW] at h
    split at h
    · cases h
    · rename_i h1
      split at h
      · cases h
      · rename_i h2
        have h3 : keys = [] := List.eq_nil_of_length_eq_zero (by omega)
        have hne : cells ≠ [] := by rintro rfl; simp at h1; omega
        obtain ⟨g1, g2, g3, g4, g5, g6⟩ := cellsW_some h hne
        subst h3
        refine ⟨1, inv_mk_leaf (by omega) (by omega) g1 fun c _ => inB_none c, by omega, ?_⟩
        rw [flat, flatL, List.append_nil]
        simp only at g3
        exact ⟨by omega, by omega, g4, g2, g5, g6⟩
  | cons a l =>
    simp only [List.isEmpty_cons, Bool.false_eq_true, if_false] at h
    split at h
    · cases h
    · rename_i h1
      have h2 : cells = [] := List.eq_nil_of_length_eq_zero (by omega)
      subst h2
      simp only [List.length_cons] at h1
      obtain ⟨h', g1, g2, g3⟩ := kids_sound (d := d + 1) (l := l) (fun k hk {_ _} hs => ih k (List.mem_cons_of_mem _ hk) (by omega) hs (by omega)) (fun {_ _} hs => ih a List.mem_cons_self (by omega) hs (by omega)) (by omega) (by omega) h
      refine ⟨h' + 1, inv_mk_inner (by simp; omega) (by simp; omega) ?_ g1, by omega, ?_⟩
      · cases keys with
        | nil => rw [invL_nil] at g1; exact (inv_count g1.2).2
        | cons k ks => rw [invL_cons] at g1; exact (inv_count g1.1).2
      · rw [flat, List.nil_append]
        obtain ⟨a1, a2, a3⟩ := g3
        exact ⟨by omega, by omega, a3⟩

theorem kids_full {d h : Nat} {l : List Kt} (ih : ∀ k ∈ l, ∀ {ws : WS}, Inv 2 2 h none none k → (∀ c ∈ flat k, ok ws c) → (ws.level = 0 ∨ ws.level + 1 = d + h) → ∃ ws', knotW d ws k = some ws')
    (hs : ∀ k ∈ l, ∀ {ws ws' : WS}, knotW d ws k = some ws' → ∃ h, Inv 2 2 h none none k ∧ d + h ≤ 65 ∧ Seen d h ws ws' (flat k)) :
    ∀ {ws : WS} {lo : Option ByteArray} {ks : List ByteArray}, InvL h lo none ks l → (∀ c ∈ flatL l, ok ws c) → (ws.level = 0 ∨ ws.level + 1 = d + h) → 2 ≤ d → 1 ≤ h → ∃ ws', kidsW d true ks ws l = some ws' := by
  induction l with
  | nil => intro ws lo ks H; rw [InvL] at H; exact H.elim
  | cons a l ihl =>
    intro ws lo ks H hok hlv hd hh
    rw [flatL] at hok
    have Ha : ∃ hi, Inv 2 2 h lo hi a := by
      cases ks with
      | nil => rw [invL_nil] at H; exact ⟨_, H.2⟩
      | cons k ks => rw [invL_cons] at H; exact ⟨_, H.1⟩
    obtain ⟨hi, Ha⟩ := Ha
    have Ha0 : Inv 2 2 h none none a := inv_re (by omega) Ha fun c _ => inB_none c
    obtain ⟨w1, h1⟩ := ih a List.mem_cons_self Ha0 (fun c hc => hok c (List.mem_append_left _ hc)) hlv
    rw [kidsW_true, h1]
    obtain ⟨h2, g1, g2, a1, a2, a3, a4, ⟨c1, a5, a6⟩, a7⟩ := hs a List.mem_cons_self h1
    have e : h = h2 := by
      have f1 := (inv_count g1).1
      have : ∀ {t : Kt} {h h2 : Nat}, Inv 2 2 h none none t → Inv 2 2 h2 none none t → h = h2 := by
        intro t
        refine ind (P := fun t => ∀ {h h2 : Nat}, Inv 2 2 h none none t → Inv 2 2 h2 none none t → h = h2) ?_ t
        intro cells keys kids ih h h2 A B
        cases kids with
        | nil => have := inv_leaf A (by omega); have := inv_leaf B (by omega); omega
        | cons x y =>
          have A' := inv_inner A
          have B' := inv_inner B
          have Hx : ∀ {h : Nat}, InvL h none none keys (x :: y) → Inv 2 2 h none none x := by
            intro h H
            cases keys with
            | nil => rw [invL_nil] at H; exact inv_re (by omega) H.2 fun c _ => inB_none c
            | cons k ks => rw [invL_cons] at H; exact inv_re (by omega) H.1 fun c _ => inB_none c
          have := ih x List.mem_cons_self (Hx A'.2.2.2.2) (Hx B'.2.2.2.2)
          omega
      exact this Ha0 g1
    subst e
    cases ks with
    | nil =>
      rw [invL_nil] at H
      obtain ⟨rfl, _⟩ := H
      exact ⟨w1, by simp [kidsW]⟩
    | cons k ks =>
      rw [invL_cons] at H
      cases l with
      | nil => rw [InvL] at H; exact H.2.elim
      | cons b l =>
        simp only [kidsW_false]
        have hlast : kl w1.last k = true := by rw [a6]; exact ((inv_inB2 H.1).1 c1 a5).2 k rfl
        rw [if_pos hlast]
        refine ihl (fun k hk => ih k (List.mem_cons_of_mem _ hk)) (fun k hk => hs k (List.mem_cons_of_mem _ hk)) H.2 (fun c hc => ?_) (.inr a2) hd hh
        have hb := (invL_all H.2).1 c hc
        exact ⟨fun _ => kl_lt_le hlast (hb.1 k rfl), hb.1 k rfl⟩
theorem knot_full {t : Kt} : ∀ {d h : Nat} {ws : WS}, 2 ≤ d → d + h ≤ 65 → Inv 2 2 h none none t → (∀ c ∈ flat t, ok ws c) → (ws.level = 0 ∨ ws.level + 1 = d + h) → ∃ ws', knotW d ws t = some ws' := by
  refine ind (P := fun t => ∀ {d h : Nat} {ws : WS}, 2 ≤ d → d + h ≤ 65 → Inv 2 2 h none none t → (∀ c ∈ flat t, ok ws c) → (ws.level = 0 ∨ ws.level + 1 = d + h) → ∃ ws', knotW d ws t = some ws') ?_ t
  intro cells keys kids ih d h ws hd hdh H hok hlv
  rw [flat] at hok
  rw [knotW]
  cases kids with
  | nil =>
    obtain ⟨rfl, rfl, h1, h2, h3, h4⟩ := inv_leaf H (by omega)
    simp only [List.isEmpty_nil, if_true, leafW]
    rw [if_neg (by simp; omega), if_neg (by omega)]
    refine cellsW_ok h3 fun c hc => hok c (List.mem_append_left _ hc)
  | cons a l =>
    obtain ⟨rfl, h1, h2, h3, h4⟩ := inv_inner H
    have hlen := invL_len h4
    simp only [List.isEmpty_cons, Bool.false_eq_true, if_false]
    rw [if_neg (by simp only [List.length_nil]; omega)]
    exact kids_full (d := d + 1) (h := h - 1) (fun k hk {ws} A B C => ih k hk (by omega) (by omega) A B C) (fun k hk {ws ws'} A => knot_sound (by omega) A (by omega)) h4 hok (by omega) (by omega) (by omega)

def ws0 : WS := ⟨0, false, .empty, .empty⟩
theorem ok0 (c : Cell) : ok ws0 c := ⟨fun h => (by cases h), kl_empty _⟩
/-- the program's check: a tree that may be, no deeper than 64 -/
theorem check_iff (t : Kt) : (knotW 1 ws0 t).isSome = true ↔ ∃ h, Inv 0 2 h none none t ∧ h ≤ 64 := by
  obtain ⟨cells, keys, kids⟩ := t
  rw [knotW]
  cases kids with
  | nil =>
    simp only [List.isEmpty_nil, if_true, leafW]
    constructor
    · intro h
      split at h
      · cases h
      · rename_i h1
        have h3 : keys = [] := List.eq_nil_of_length_eq_zero (by omega)
        subst h3
        rw [if_neg (by simp [ws0])] at h
        refine ⟨1, inv_mk_leaf (by omega) (by omega) ?_ fun c _ => inB_none c, by omega⟩
        obtain ⟨ws', hw⟩ := Option.isSome_iff_exists.1 h
        by_cases hne : cells = []
        · rw [hne]; trivial
        · exact (cellsW_some hw hne).1
    · rintro ⟨h, H, _⟩
      obtain ⟨rfl, rfl, h1, h2, h3, h4⟩ := inv_leaf H (by omega)
      rw [if_neg (by simp; omega), if_neg (by simp [ws0])]
      obtain ⟨ws', hw⟩ := cellsW_ok (ws := { ws0 with level := 1 }) h3 fun c _ => ⟨fun h => (by cases h), kl_empty _⟩
      rw [hw]; rfl
  | cons a l =>
    simp only [List.isEmpty_cons, Bool.false_eq_true, if_false]
    constructor
    · intro h
      split at h
      · cases h
      · rename_i h1
        have h2 : cells = [] := List.eq_nil_of_length_eq_zero (by omega)
        subst h2
        simp only [List.length_cons] at h1
        obtain ⟨ws', hw⟩ := Option.isSome_iff_exists.1 h
        obtain ⟨h', g1, g2, g3⟩ := kids_sound (d := 1 + 1) (l := l) (fun k hk {_ _} hs => knot_sound (by omega) hs (by omega)) (fun {_ _} hs => knot_sound (by omega) hs (by omega)) (by omega) (by omega) hw
        refine ⟨h' + 1, inv_mk_inner (by simp; omega) (by simp; omega) ?_ g1, by omega⟩
        cases keys with
        | nil => rw [invL_nil] at g1; exact (inv_count g1.2).2
        | cons k ks => rw [invL_cons] at g1; exact (inv_count g1.1).2
    · rintro ⟨h, H, h64⟩
      obtain ⟨rfl, h1, h2, h3, h4⟩ := inv_inner H
      have hlen := invL_len h4
      rw [if_neg (by simp only [List.length_nil]; omega)]
      obtain ⟨ws', hw⟩ := kids_full (d := 1 + 1) (h := h - 1) (fun k hk {ws} A B C => knot_full (by omega) (by omega) A B C) (fun k hk {ws ws'} A => knot_sound (by omega) A (by omega)) h4 (fun c _ => ok0 c) (.inl rfl) (by omega) (by omega)
      rw [hw]; rfl

/-! ### The document's definition -/
mutual
  def formP (root : Bool) : Kt → Nat
    | .mk cells keys kids => if kids.isEmpty then (if 0 < keys.length ∨ 4 < cells.length ∨ (root = false ∧ cells.length < 2) then 0 else 1)
      else if 0 < cells.length ∨ kids.length < 2 ∨ 4 < kids.length ∨ keys.length + 1 ≠ kids.length then 0
      else match formsL kids with
        | [] => 0
        | deep :: rest => if rest.all (fun x => decide (x = deep)) then (if deep = 0 then 0 else deep + 1) else 0
  def formsL : List Kt → List Nat
    | [] => []
    | k :: l => formP false k :: formsL l
end
/-- between two bounds -/
def inBb (lo hi : Option ByteArray) (c : Cell) : Bool := (match lo with | some l => !kl c.1 l | none => true) && (match hi with | some u => kl c.1 u | none => true)
theorem inBb_iff {lo hi : Option ByteArray} {c : Cell} : inBb lo hi c = true ↔ InB lo hi c := by
  unfold inBb InB
  cases lo <;> cases hi <;> simp
mutual
  def betweenP : Kt → Bool
    | .mk cells keys kids => betweenL none keys kids
  def betweenL (prev : Option ByteArray) (keys : List ByteArray) : List Kt → Bool
    | [] => true
    | k :: l => (flat k).all (inBb prev keys.head?) && betweenP k && betweenL keys.head? keys.tail l
end
/-- the document's depth; 0: the tree may not be -/
def riseB : List Cell → Bool
  | [] => true
  | [_] => true
  | a :: b :: l => kl a.1 b.1 && riseB (b :: l)
def depthP (t : Kt) : Nat := if formP true t = 0 ∨ betweenP t = false ∨ riseB (flat t) = false then 0 else formP true t

theorem riseB_iff {l : List Cell} : riseB l = true ↔ Rise l := by
  induction l with
  | nil => simp [riseB, Rise]
  | cons a l ih =>
    cases l with
    | nil => simp [riseB, Rise]
    | cons b l =>
      rw [riseB, Bool.and_eq_true, ih]
      constructor
      · rintro ⟨h1, h2⟩
        refine ⟨fun d hd => ?_, h2⟩
        rcases List.mem_cons.1 hd with rfl | hd
        · exact h1
        · exact kl_trans h1 (h2.1 d hd)
      · rintro ⟨h1, h2⟩
        exact ⟨h1 b List.mem_cons_self, h2⟩

theorem form_kids {cells : List Cell} {keys : List ByteArray} {a : Kt} {l : List Kt} {root : Bool} {h : Nat} (H : formP root (.mk cells keys (a :: l)) = h) (h0 : h ≠ 0) :
    cells = [] ∧ 2 ≤ (a :: l).length ∧ (a :: l).length ≤ 4 ∧ keys.length = l.length ∧ 2 ≤ h ∧ ∀ k ∈ a :: l, formP false k = h - 1 := by
  rw [formP] at H
  simp only [List.isEmpty_cons, Bool.false_eq_true, if_false] at H
  split at H
  · exact absurd H.symm h0
  · rename_i h1
    simp only [formsL] at H
    split at H
    · rename_i h2
      split at H
      · exact absurd H.symm h0
      · rename_i h3
        have h4 : ∀ k ∈ l, formP false k = formP false a := by
          clear H h1
          have h2' : ∀ x ∈ formsL l, x = formP false a := by simpa [List.all_eq_true] using h2
          clear h2
          induction l with
          | nil => intro k hk; cases hk
          | cons b l ih =>
            simp only [formsL, List.mem_cons, forall_eq_or_imp] at h2'
            intro k hk
            rcases List.mem_cons.1 hk with rfl | hk
            · exact h2'.1
            · exact ih h2'.2 k hk
        simp only [List.length_cons] at h1 ⊢
        refine ⟨List.eq_nil_of_length_eq_zero (by omega), by omega, by omega, by omega, by omega, fun k hk => ?_⟩
        rcases List.mem_cons.1 hk with rfl | hk
        · omega
        · rw [h4 k hk]; omega
    · exact absurd H.symm h0

theorem inv_of_form {t : Kt} : ∀ {root : Bool} {h : Nat}, formP root t = h → h ≠ 0 → betweenP t = true → Rise (flat t) → Inv (if root then 0 else 2) 2 h none none t := by
  refine ind (P := fun t => ∀ {root : Bool} {h : Nat}, formP root t = h → h ≠ 0 → betweenP t = true → Rise (flat t) → Inv (if root then 0 else 2) 2 h none none t) ?_ t
  intro cells keys kids ih root h H h0 hb hr
  cases kids with
  | nil =>
    rw [formP] at H
    simp only [List.isEmpty_nil, if_true] at H
    split at H
    · exact absurd H.symm h0
    · rename_i h1
      rw [flat, flatL, List.append_nil] at hr
      obtain rfl : keys = [] := List.eq_nil_of_length_eq_zero (by omega)
      subst H
      refine inv_mk_leaf ?_ (by omega) hr fun c _ => inB_none c
      cases root <;> simp at h1 ⊢; omega
  | cons a l =>
    obtain ⟨rfl, h1, h2, h3, h4, h5⟩ := form_kids H h0
    rw [show h = (h - 1) + 1 by omega]
    refine inv_mk_inner h1 h2 (by omega) ?_
    rw [betweenP] at hb
    rw [flat, List.nil_append] at hr
    have key : ∀ (l : List Kt) (a : Kt) (ks : List ByteArray) (prev : Option ByteArray), (∀ k ∈ a :: l, Inv 2 2 (h - 1) none none k) → ks.length = l.length → betweenL prev ks (a :: l) = true → InvL (h - 1) prev none ks (a :: l) := by
      intro l
      induction l with
      | nil =>
        intro a ks prev hi hl hb
        obtain rfl : ks = [] := List.eq_nil_of_length_eq_zero hl
        simp only [betweenL, Bool.and_eq_true, List.all_eq_true] at hb
        exact invL_one (inv_re (by omega) (hi a List.mem_cons_self) fun c hc => inBb_iff.1 (hb.1.1 c hc))
      | cons b l ihl =>
        intro a ks prev hi hl hb
        cases ks with
        | nil => simp at hl
        | cons k ks =>
          rw [betweenL] at hb
          simp only [List.head?_cons, List.tail_cons, Bool.and_eq_true] at hb
          rw [invL_cons]
          refine ⟨inv_re (by omega) (hi a List.mem_cons_self) fun c hc => inBb_iff.1 (List.all_eq_true.1 hb.1.1 c hc), ihl b ks (some k) (fun k hk => hi k (List.mem_cons_of_mem _ hk)) (by simpa using hl) hb.2⟩
    have hbl : ∀ (l : List Kt) (prev : Option ByteArray) (ks : List ByteArray), betweenL prev ks l = true → ∀ k ∈ l, betweenP k = true := by
      intro l
      induction l with
      | nil => intro _ _ _ k hk; cases hk
      | cons b l ihl =>
        intro prev ks hb k hk
        rw [betweenL, Bool.and_eq_true, Bool.and_eq_true] at hb
        rcases List.mem_cons.1 hk with rfl | hk
        · exact hb.1.2
        · exact ihl _ _ hb.2 k hk
    have hrl : ∀ (l : List Kt), Rise (flatL l) → ∀ k ∈ l, Rise (flat k) := by
      intro l
      induction l with
      | nil => intro _ k hk; cases hk
      | cons b l ihl =>
        intro hr k hk
        rw [flatL] at hr
        have := rise_append.1 hr
        rcases List.mem_cons.1 hk with rfl | hk
        · exact this.1
        · exact ihl this.2.1 k hk
    refine key l a keys none (fun k hk => ?_) h3 hb
    have := ih k hk (h5 k hk) (by omega) (hbl _ _ _ hb k hk) (hrl _ hr k hk)
    simpa using this
theorem form_of_inv {t : Kt} : ∀ {root : Bool} {h : Nat} {lo hi : Option ByteArray}, Inv (if root then 0 else 2) 2 h lo hi t → formP root t = h ∧ betweenP t = true := by
  refine ind (P := fun t => ∀ {root : Bool} {h : Nat} {lo hi : Option ByteArray}, Inv (if root then 0 else 2) 2 h lo hi t → formP root t = h ∧ betweenP t = true) ?_ t
  intro cells keys kids ih root h lo hi H
  cases kids with
  | nil =>
    obtain ⟨rfl, rfl, h1, h2, h3, h4⟩ := inv_leaf H (by omega)
    rw [formP, betweenP, betweenL]
    simp only [List.isEmpty_nil, if_true]
    rw [if_neg]
    · exact ⟨by trivial, by trivial⟩
    · cases root <;> simp at h1 ⊢ <;> omega
  | cons a l =>
    obtain ⟨rfl, h1, h2, h3, h4⟩ := inv_inner H
    have hlen := invL_len h4
    rw [formP, betweenP]
    simp only [List.isEmpty_cons, Bool.false_eq_true, if_false]
    rw [if_neg (by simp only [List.length_nil]; omega)]
    have hf : ∀ (l : List Kt) (lo prev : Option ByteArray) (ks : List ByteArray), (∀ k ∈ l, k ∈ a :: l ∨ True) → (∀ k ∈ l, ∀ {root : Bool} {h : Nat} {lo hi : Option ByteArray}, Inv (if root then 0 else 2) 2 h lo hi k → formP root k = h ∧ betweenP k = true) →
        InvL (h - 1) lo hi ks l → (∀ c ∈ flatL l, InB prev none c) → (∀ x ∈ formsL l, x = h - 1) ∧ betweenL prev ks l = true := by
      intro l
      induction l with
      | nil => intro lo prev ks _ _ H; rw [InvL] at H; exact H.elim
      | cons b l ihl =>
        intro lo prev ks _ ihb H hp
        rw [flatL] at hp
        cases ks with
        | nil =>
          rw [invL_nil] at H
          obtain ⟨rfl, H⟩ := H
          have := ihb b List.mem_cons_self (root := false) H
          simp only [formsL, List.mem_cons, List.not_mem_nil, or_false, forall_eq, betweenL, Bool.and_true, Bool.and_eq_true, List.all_eq_true]
          refine ⟨this.1, fun c hc => inBb_iff.2 (hp c (List.mem_append_left _ hc)), this.2⟩
        | cons k ks =>
          rw [invL_cons] at H
          have h5 := ihb b List.mem_cons_self (root := false) H.1
          have h6 := ihl _ (some k) ks (fun _ _ => .inr trivial) (fun k hk => ihb k (List.mem_cons_of_mem _ hk)) H.2 (fun c hc => ⟨((invL_all H.2).1 c hc).1, fun _ h => (by cases h)⟩)
          simp only [formsL, List.mem_cons, forall_eq_or_imp, betweenL, Bool.and_eq_true, List.all_eq_true, List.head?_cons, List.tail_cons]
          refine ⟨⟨h5.1, h6.1⟩, ⟨fun c hc => inBb_iff.2 ⟨(hp c (List.mem_append_left _ hc)).1, ((inv_inB2 H.1).1 c hc).2⟩, h5.2⟩, h6.2⟩
    obtain ⟨h5, h6⟩ := hf (a :: l) lo none keys (fun _ _ => .inr trivial) ih h4 (fun c _ => inB_none c)
    refine ⟨?_, h6⟩
    simp only [formsL, List.mem_cons, forall_eq_or_imp] at h5
    simp only [formsL]
    rw [h5.1, if_pos (by simpa [List.all_eq_true] using h5.2), if_neg (by omega)]
    omega

theorem depth_iff {t : Kt} {h : Nat} (h0 : h ≠ 0) : depthP t = h ↔ Inv 0 2 h none none t := by
  unfold depthP
  constructor
  · intro H
    split at H
    · exact absurd H.symm h0
    · rename_i h1
      have h2 : betweenP t = true := by cases e : betweenP t <;> simp_all
      have h3 : riseB (flat t) = true := by cases e : riseB (flat t) <;> simp_all
      exact inv_of_form (root := true) H h0 h2 (riseB_iff.1 h3)
  · intro H
    obtain ⟨h1, h2⟩ := form_of_inv (root := true) H
    have h3 := riseB_iff.2 (inv_inB (by omega) H).2
    rw [h1, h2, h3]; simp [h0]
theorem inv_pos {ml mi h : Nat} {lo hi : Option ByteArray} {t : Kt} (hm : 1 ≤ mi) (H : Inv ml mi h lo hi t) : h ≠ 0 := by
  obtain ⟨c, k, l⟩ := t
  cases l with
  | nil => have := inv_leaf H hm; omega
  | cons x y => have := inv_inner H; omega
theorem depth_zero {t : Kt} : depthP t = 0 ↔ ∀ h, ¬ Inv 0 2 h none none t := by
  constructor
  · intro h g H
    have := (depth_iff (inv_pos (by omega) H)).2 H
    have := inv_pos (by omega) H
    omega
  · intro H
    rcases Nat.eq_zero_or_pos (depthP t) with h | h
    · exact h
    · exact absurd ((depth_iff (by omega)).1 rfl) (H _)
theorem inv_height {t : Kt} : ∀ {ml mi h : Nat} {lo hi : Option ByteArray}, 1 ≤ mi → Inv ml mi h lo hi t → height t = h := by
  refine ind (P := fun t => ∀ {ml mi h : Nat} {lo hi : Option ByteArray}, 1 ≤ mi → Inv ml mi h lo hi t → height t = h) ?_ t
  intro cells keys kids ih ml mi h lo hi hm H
  rw [height]
  cases kids with
  | nil => have := inv_leaf H hm; rw [heightL]; omega
  | cons a l =>
    obtain ⟨rfl, h1, h2, h3, h4⟩ := inv_inner H
    have : ∀ (l : List Kt) (lo : Option ByteArray) (ks : List ByteArray), (∀ k ∈ l, ∀ {ml mi h : Nat} {lo hi : Option ByteArray}, 1 ≤ mi → Inv ml mi h lo hi k → height k = h) → InvL (h - 1) lo hi ks l → heightL l = h - 1 := by
      intro l
      induction l with
      | nil => intro lo ks _ H; rw [InvL] at H; exact H.elim
      | cons b l ihl =>
        intro lo ks hh H
        rw [heightL]
        cases ks with
        | nil =>
          rw [invL_nil] at H
          obtain ⟨rfl, H⟩ := H
          rw [hh b List.mem_cons_self (by omega) H, heightL]; omega
        | cons k ks =>
          rw [invL_cons] at H
          rw [hh b List.mem_cons_self (by omega) H.1, ihl _ _ (fun k hk => hh k (List.mem_cons_of_mem _ hk)) H.2]; omega
    rw [this _ _ _ ih h4]; omega
theorem check_depth {t : Kt} (h : height t ≤ 64) : (knotW 1 ws0 t).isSome = decide (depthP t ≠ 0) := by
  rw [Bool.eq_iff_iff, check_iff]
  simp only [ne_eq, decide_not, Bool.not_eq_true', decide_eq_false_iff_not]
  constructor
  · rintro ⟨g, H, _⟩ e
    exact depth_zero.1 e g H
  · intro e
    have H := (depth_iff e).1 rfl
    exact ⟨_, H, by rw [← inv_height (by omega) H]; exact h⟩
/-- a tree is no deeper than its cells can be halved -/
theorem root_count {t : Kt} {h : Nat} {lo hi : Option ByteArray} (H : Inv 0 2 h lo hi t) (h2 : 2 ≤ h) : 2 ^ h ≤ (flat t).length := by
  obtain ⟨c, k, l⟩ := t
  cases l with
  | nil => have := inv_leaf H (by omega); omega
  | cons x y =>
    obtain ⟨rfl, h1, h2, h3, h4⟩ := inv_inner H
    have : Inv 2 2 h lo hi (.mk [] k (x :: y)) := by
      rw [show h = (h - 1) + 1 by omega]; exact inv_mk_inner h1 h2 (by omega) h4
    exact (inv_count this).1

end Go.Proofs.Ytkkddnmpehoeoaa.TreeP
