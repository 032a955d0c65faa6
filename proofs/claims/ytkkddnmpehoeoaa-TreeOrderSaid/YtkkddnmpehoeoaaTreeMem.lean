/- Trees in memory: three slices (cells, keys, kids) that read as a tree. -/
import Derived.Test.YtkkddnmpehoeoaaBase
import Derived.Test.YtkkddnmpehoeoaaTreeChk
namespace Go.Proofs.Ytkkddnmpehoeoaa
open Go.RowKit
open TreeP (Kt Cell kl flat flatL height heightL)
set_option linter.unusedVariables false

def cellV (c : Cell) : List Value := [.string c.1, .string c.2]
def cellsV : List Cell → List Value
  | [] => []
  | c :: l => .string c.1 :: .string c.2 :: cellsV l
theorem cellsV_append (a b : List Cell) : cellsV (a ++ b) = cellsV a ++ cellsV b := by
  induction a with
  | nil => rfl
  | cons c a ih => simp [cellsV, ih]
theorem cellsV_length (a : List Cell) : (cellsV a).length = a.length * 2 := by
  induction a with
  | nil => rfl
  | cons c a ih => simp [cellsV, ih]; omega
theorem cellsV_one (l : List Cell) : ∀ u ∈ cellsV l, u.oneCell' = true := by
  induction l with
  | nil => intro u h; cases h
  | cons c l ih =>
    intro u h
    simp only [cellsV, List.mem_cons] at h
    rcases h with rfl | rfl | h
    · rfl
    · rfl
    · exact ih u h
theorem cellsV_get {l : List Cell} {k : Nat} {c : Cell} (h : l[k]? = some c) : (cellsV l)[k * 2]? = some (.string c.1) ∧ (cellsV l)[k * 2 + 1]? = some (.string c.2) := by
  induction l generalizing k with
  | nil => simp at h
  | cons d l ih =>
    cases k with
    | zero => simp at h; subst h; exact ⟨rfl, rfl⟩
    | succ k =>
      have := ih (k := k) (by simpa using h)
      rw [show (k + 1) * 2 = k * 2 + 2 by omega]
      simpa [cellsV] using this
theorem cellsV_drop (l : List Cell) (k : Nat) : cellsV (l.drop k) = (cellsV l).drop (k * 2) := by
  induction k generalizing l with
  | zero => simp
  | succ k ih =>
    cases l with
    | nil => simp [cellsV]
    | cons c l => rw [show (k + 1) * 2 = k * 2 + 2 by omega]; simpa [cellsV] using ih l
theorem cellsV_take (l : List Cell) (k : Nat) : cellsV (l.take k) = (cellsV l).take (k * 2) := by
  induction k generalizing l with
  | zero => simp [cellsV]
  | succ k ih =>
    cases l with
    | nil => simp [cellsV]
    | cons c l => rw [show (k + 1) * 2 = k * 2 + 2 by omega]; simpa [cellsV] using ih l

theorem Sl.cells {w : World} {V : Nat → Prop} {A : Option Addr} {n : Nat} {l : List Cell} (h : Sl w V 2 A n (cellsV l)) : l.length = n := by
  have := h.1; rw [cellsV_length] at this; omega
theorem Sl.cell {w : World} {V : Nat → Prop} {A : Option Addr} {n k : Nat} {l : List Cell} (h : Sl w V 2 A n (cellsV l)) (hk : k < n) :
    ∃ a c, A = some a ∧ l[k]? = some c ∧ w.cell? (a.add (k * 2)) = some (.string c.1) ∧ w.cell? ⟨(a.add (k * 2)).block, (a.add (k * 2)).off + 1, none⟩ = some (.string c.2) := by
  obtain ⟨a, e, _, _, hc⟩ := h.2 (by omega)
  have hl : k < l.length := by have := h.cells; omega
  have := cellsV_get (List.getElem?_eq_getElem hl)
  exact ⟨a, l[k], e, List.getElem?_eq_getElem hl, hc _ _ this.1, by rw [← Addr.add_succ' _ 0, add_add']; exact hc _ _ this.2⟩

mutual
  /-- three values that read as a tree; its blocks are some of V; no list is longer than B -/
  def Kn (w : World) (V : Nat → Prop) (B : Nat) (v1 v2 v3 : Value) : Kt → Prop
    | .mk cells keys kids => (∃ A c, v1 = .slice A cells.length c ∧ cells.length ≤ c ∧ cells.length ≤ B ∧ Sl w V 2 A cells.length (cellsV cells)) ∧
        (∃ A c, v2 = .slice A keys.length c ∧ keys.length ≤ c ∧ keys.length ≤ B ∧ Sl w V 1 A keys.length (strs keys)) ∧
        ∃ A c vals, v3 = .slice A kids.length c ∧ kids.length ≤ c ∧ kids.length ≤ B ∧ Sl w V 3 A kids.length vals ∧ KnL w V B vals kids
  def KnL (w : World) (V : Nat → Prop) (B : Nat) (vals : List Value) : List Kt → Prop
    | [] => vals = []
    | k :: l => ∃ a b c r, vals = a :: b :: c :: r ∧ Kn w V B a b c k ∧ KnL w V B r l
end

theorem knL_nil {w : World} {V : Nat → Prop} {B : Nat} {vals : List Value} : KnL w V B vals [] ↔ vals = [] := by rw [KnL]
theorem knL_cons {w : World} {V : Nat → Prop} {B : Nat} {vals : List Value} {k : Kt} {l : List Kt} : KnL w V B vals (k :: l) ↔ ∃ a b c r, vals = a :: b :: c :: r ∧ Kn w V B a b c k ∧ KnL w V B r l := by rw [KnL]
theorem kn_mk {w : World} {V : Nat → Prop} {B : Nat} {v1 v2 v3 : Value} {cells : List Cell} {keys : List ByteArray} {kids : List Kt} : Kn w V B v1 v2 v3 (.mk cells keys kids) ↔
    (∃ A c, v1 = .slice A cells.length c ∧ cells.length ≤ c ∧ cells.length ≤ B ∧ Sl w V 2 A cells.length (cellsV cells)) ∧
        (∃ A c, v2 = .slice A keys.length c ∧ keys.length ≤ c ∧ keys.length ≤ B ∧ Sl w V 1 A keys.length (strs keys)) ∧
        ∃ A c vals, v3 = .slice A kids.length c ∧ kids.length ≤ c ∧ kids.length ≤ B ∧ Sl w V 3 A kids.length vals ∧ KnL w V B vals kids := by rw [Kn]
theorem knL_len {w : World} {V : Nat → Prop} {B : Nat} {vals : List Value} {l : List Kt} (h : KnL w V B vals l) : vals.length = l.length * 3 := by
  induction l generalizing vals with
  | nil => rw [knL_nil] at h; simp [h]
  | cons k l ih =>
    obtain ⟨a, b, c, r, rfl, _, h⟩ := knL_cons.1 h
    simp [ih h]; omega
theorem knL_get {w : World} {V : Nat → Prop} {B : Nat} {vals : List Value} {l : List Kt} (h : KnL w V B vals l) {i : Nat} {k : Kt} (hi : l[i]? = some k) :
    ∃ a b c, vals[i * 3]? = some a ∧ vals[i * 3 + 1]? = some b ∧ vals[i * 3 + 2]? = some c ∧ Kn w V B a b c k := by
  induction l generalizing vals i with
  | nil => simp at hi
  | cons x l ih =>
    obtain ⟨a, b, c, r, rfl, h1, h2⟩ := knL_cons.1 h
    cases i with
    | zero => simp at hi; subst hi; exact ⟨a, b, c, rfl, rfl, rfl, h1⟩
    | succ i =>
      obtain ⟨a', b', c', g1, g2, g3, g4⟩ := ih h2 (by simpa using hi)
      rw [show (i + 1) * 3 = i * 3 + 3 by omega]
      exact ⟨a', b', c', by simpa using g1, by simpa using g2, by simpa using g3, g4⟩
theorem knL_append {w : World} {V : Nat → Prop} {B : Nat} {v1 v2 : List Value} {a b : List Kt} (h : KnL w V B v1 a) (g : KnL w V B v2 b) : KnL w V B (v1 ++ v2) (a ++ b) := by
  induction a generalizing v1 with
  | nil => rw [knL_nil] at h; subst h; exact g
  | cons k a ih =>
    obtain ⟨x, y, z, r, rfl, h1, h2⟩ := knL_cons.1 h
    exact knL_cons.2 ⟨x, y, z, r ++ v2, rfl, h1, ih h2⟩
theorem knL_one {w : World} {V : Nat → Prop} {B : Nat} {a b c : Value} {k : Kt} (h : Kn w V B a b c k) : KnL w V B [a, b, c] [k] := knL_cons.2 ⟨a, b, c, [], rfl, h, knL_nil.2 rfl⟩
theorem knL_take {w : World} {V : Nat → Prop} {B : Nat} {vals : List Value} {l : List Kt} (h : KnL w V B vals l) (n : Nat) : KnL w V B (vals.take (n * 3)) (l.take n) := by
  induction n generalizing vals l with
  | zero => simp [knL_nil]
  | succ n ih =>
    cases l with
    | nil => rw [knL_nil] at h; subst h; simp [knL_nil]
    | cons k l =>
      obtain ⟨x, y, z, r, rfl, h1, h2⟩ := knL_cons.1 h
      rw [show (n + 1) * 3 = n * 3 + 3 by omega]
      exact knL_cons.2 ⟨x, y, z, r.take (n * 3), by simp, h1, ih h2⟩
theorem knL_drop {w : World} {V : Nat → Prop} {B : Nat} {vals : List Value} {l : List Kt} (h : KnL w V B vals l) (n : Nat) : KnL w V B (vals.drop (n * 3)) (l.drop n) := by
  induction n generalizing vals l with
  | zero => simpa using h
  | succ n ih =>
    cases l with
    | nil => rw [knL_nil] at h; subst h; simp [knL_nil]
    | cons k l =>
      obtain ⟨x, y, z, r, rfl, h1, h2⟩ := knL_cons.1 h
      rw [show (n + 1) * 3 = n * 3 + 3 by omega]
      simpa using ih h2
theorem knL_imp {w w' : World} {V V' : Nat → Prop} {B B' : Nat} {l : List Kt} (ih : ∀ k ∈ l, ∀ a b c, Kn w V B a b c k → Kn w' V' B' a b c k) : ∀ {vals : List Value}, KnL w V B vals l → KnL w' V' B' vals l := by
  induction l with
  | nil => intro vals h; rw [knL_nil] at h ⊢; exact h
  | cons k l ihl =>
    intro vals h
    obtain ⟨x, y, z, r, rfl, h1, h2⟩ := knL_cons.1 h
    exact knL_cons.2 ⟨x, y, z, r, rfl, ih k List.mem_cons_self _ _ _ h1, ihl (fun k hk => ih k (List.mem_cons_of_mem _ hk)) h2⟩
theorem kn_keep {w w' : World} {V V' : Nat → Prop} {B B' : Nat} (hB : B ≤ B') (hs : w.heap.size ≤ w'.heap.size) (hk : ∀ b, V b → b < w.heap.size → w'.heap[b]? = w.heap[b]?) (hV : ∀ b, V b → b < w.heap.size → V' b) :
    ∀ {t : Kt} {a b c : Value}, Kn w V B a b c t → Kn w' V' B' a b c t := by
  intro t
  refine TreeP.ind (P := fun t => ∀ {a b c : Value}, Kn w V B a b c t → Kn w' V' B' a b c t) ?_ t
  intro cells keys kids ih a b c h
  rw [kn_mk] at h ⊢
  obtain ⟨⟨A1, c1, e1, h1, g1, s1⟩, ⟨A2, c2, e2, h2, g2, s2⟩, A3, c3, vals, e3, h3, g3, s3, k3⟩ := h
  have up : ∀ {size n : Nat} {A : Option Addr} {xs : List Value}, Sl w V size A n xs → Sl w' V' size A n xs := fun h => ((Sl.lt' h).keep hs (fun b hb hlt => hk b hb.1 hlt)).mono fun b hb => hV b hb.1 hb.2
  exact ⟨⟨A1, c1, e1, h1, by omega, up s1⟩, ⟨A2, c2, e2, h2, by omega, up s2⟩, A3, c3, vals, e3, h3, by omega, up s3, knL_imp (fun k hk a b c => ih k hk) k3⟩
theorem knL_keep {w w' : World} {V V' : Nat → Prop} {B B' : Nat} (hB : B ≤ B') (hs : w.heap.size ≤ w'.heap.size) (hk : ∀ b, V b → b < w.heap.size → w'.heap[b]? = w.heap[b]?) (hV : ∀ b, V b → b < w.heap.size → V' b)
    {l : List Kt} {vals : List Value} (h : KnL w V B vals l) : KnL w' V' B' vals l := knL_imp (fun k _ a b c => kn_keep hB hs hk hV) h
theorem Kn.below {w w' : World} {V : Nat → Prop} {B : Nat} {a b c : Value} {t : Kt} (h : Kn w V B a b c t) (hb : Below w.heap.size w w') : Kn w' V B a b c t := kn_keep (Nat.le_refl _) hb.size (fun b _ hlt => hb.block b hlt) (fun b hb _ => hb) h
theorem Kn.any {w : World} {V : Nat → Prop} {B : Nat} {a b c : Value} {t : Kt} (h : Kn w V B a b c t) : Kn w (fun _ => True) B a b c t := kn_keep (Nat.le_refl _) (Nat.le_refl _) (fun b _ _ => rfl) (fun b hb _ => trivial) h
theorem Kn.lt {w : World} {V : Nat → Prop} {B : Nat} {a b c : Value} {t : Kt} (h : Kn w V B a b c t) : Kn w (fun b => b < w.heap.size) B a b c t := kn_keep (Nat.le_refl _) (Nat.le_refl _) (fun b _ _ => rfl) (fun b hb h => h) h
theorem Kn.drew {w : World} {V : Nat → Prop} {B : Nat} {a b c : Value} {t : Kt} (h : Kn w V B a b c t) : Kn w.drew V B a b c t := kn_keep (w := w) (w' := w.drew) (Nat.le_refl _) (Nat.le_refl w.heap.size) (fun b _ _ => rfl) (fun b hb h => hb) h
theorem Kn.drewN {w : World} {V : Nat → Prop} {B : Nat} {a b c : Value} {t : Kt} (h : Kn w V B a b c t) (n : Nat) : Kn (w.drewN n) V B a b c t := kn_keep (w := w) (w' := w.drewN n) (Nat.le_refl _) (Nat.le_refl w.heap.size) (fun b _ _ => rfl) (fun b hb h => hb) h
theorem KnL.below {w w' : World} {V : Nat → Prop} {B : Nat} {vals : List Value} {l : List Kt} (h : KnL w V B vals l) (hb : Below w.heap.size w w') : KnL w' V B vals l := knL_keep (Nat.le_refl _) hb.size (fun b _ hlt => hb.block b hlt) (fun b hb _ => hb) h
theorem KnL.any {w : World} {V : Nat → Prop} {B : Nat} {vals : List Value} {l : List Kt} (h : KnL w V B vals l) : KnL w (fun _ => True) B vals l := knL_keep (Nat.le_refl _) (Nat.le_refl _) (fun b _ _ => rfl) (fun b hb _ => trivial) h

theorem sl_get {w : World} {V : Nat → Prop} {size : Nat} {A : Option Addr} {n : Nat} {xs : List Value} (h : Sl w V size A n xs) {k : Nat} {u : Value} (hk : xs[k]? = some u) : ∃ a, A = some a ∧ w.cell? (a.add k) = some u := by
  have h1 := (List.getElem?_eq_some_iff.1 hk).1
  have h2 := h.1
  obtain ⟨a, e, _, _, hc⟩ := h.2 (by
    rcases Nat.eq_zero_or_pos n with h0 | h0
    · rw [h0] at h2; omega
    · exact h0)
  exact ⟨a, e, hc _ _ hk⟩
/-- one kid of a tree, as cells -/
theorem kid_at {w : World} {V : Nat → Prop} {B : Nat} {A : Option Addr} {n : Nat} {vals : List Value} {kids : List Kt} (h : Sl w V 3 A n vals) (hk : KnL w V B vals kids) {i : Nat} {k : Kt} (hi : kids[i]? = some k) :
    ∃ a v1 v2 v3, A = some a ∧ w.cell? (a.add (i * 3)) = some v1 ∧ w.cell? ⟨(a.add (i * 3)).block, (a.add (i * 3)).off + 1, none⟩ = some v2 ∧ w.cell? ⟨(a.add (i * 3)).block, (a.add (i * 3)).off + 2, none⟩ = some v3 ∧ Kn w V B v1 v2 v3 k := by
  obtain ⟨v1, v2, v3, g1, g2, g3, g4⟩ := knL_get hk hi
  obtain ⟨a, e, c1⟩ := sl_get h g1
  obtain ⟨a', e', c2⟩ := sl_get h g2
  obtain ⟨a'', e'', c3⟩ := sl_get h g3
  rw [e] at e' e''
  injection e' with e'
  injection e'' with e''
  subst e'
  subst e''
  exact ⟨a, v1, v2, v3, e, c1, by rw [← Addr.add_succ' _ 0, add_add']; exact c2, by rw [← Addr.add_succ' _ 1, add_add']; exact c3, g4⟩

end Go.Proofs.Ytkkddnmpehoeoaa
