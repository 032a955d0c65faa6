/- A map of strings that were met, made by the call itself. -/
import Derived.Maps.Own
import Derived.Maps.OwnOps
import Derived.Maps.Views
import Derived.Test.YtkkddnmpehoeoaaTreeFewB
namespace Go.Proofs.Ytkkddnmpehoeoaa
open Go.RowKit
open TreeP (cutT)
set_option linter.unusedVariables false

theorem plainElem_bool_inv {P : Program} {e : TypeId} (he : P.underlying e = some .bool) {v : Value} {z : DataW Unit × List MemPlace} (h : plainElem P e v = some z) : ∃ x, v = .bool x ∧ z = (.lit (.bool x), []) := by
  unfold plainElem at h
  rw [he] at h
  cases v <;> simp at h
  subst h
  exact ⟨_, rfl, rfl⟩

def inL (s : ByteArray) (l : List ByteArray) : Bool := l.any fun x => decide (x = s)
theorem inL_iff {s : ByteArray} {l : List ByteArray} : inL s l = true ↔ s ∈ l := by simp [inL]
theorem inL_add (t s : ByteArray) (l : List ByteArray) : inL t (l ++ [s]) = (inL t l || decide (s = t)) := by simp [inL]
/-- the literal of a key -/
def keyL (s : ByteArray) : Lit := .string s.data.toList
theorem keyL_ne {s t : ByteArray} (h : s ≠ t) : keyL s ≠ keyL t := by
  intro e
  injection e with e
  exact h (oct_inj e)
theorem keyL_is (s : ByteArray) : WideAt.IsKeyLit (keyL s) := by simp [keyL, WideAt.IsKeyLit]
/-- the map in block b holds just the strings of l, each at true -/
def Met (w : World) (b n : Nat) (l : List ByteArray) : Prop :=
  ∃ D : DataW Unit, w.ownsMap Try.prog 9 (plainElem Try.prog 4) b n D ∧ Maps.IsMap D ∧ ∀ s : ByteArray, D.atKey (keyL s) (.lit (.bool false)) = .lit (.bool (inL s l))
theorem met_made (w : World) : Met (w.alloc (.map #[] 0)) w.heap.size 0 [] :=
  ⟨.map [], World.ownsMap_made w _ _ _, Maps.isMap_empty, fun s => by rw [WideAt.atKey_none _ (by simp)]; rfl⟩
theorem Met.kept {w w' : World} {row : Option Nat} {b n : Nat} {l : List ByteArray} (h : Met w b n l) (hg : w.grownBy w' row) (hne : some b ≠ row) : Met w' b n l := by
  obtain ⟨D, h1, h2, h3⟩ := h
  exact ⟨D, h1.kept hg hne, h2, h3⟩
theorem Met.mono {w : World} {b n n' : Nat} {l : List ByteArray} (h : Met w b n l) (hn : n ≤ n') : Met w b n' l := by
  obtain ⟨D, h1, h2, h3⟩ := h
  exact ⟨D, h1.mono hn, h2, h3⟩
theorem Met.look {w : World} {b n : Nat} {l : List ByteArray} (h : Met w b n l) (s : ByteArray) (hs : s.size ≤ maxLen) : (Instr.lookup 47 (.map (some b)) (.string s) false).run Try.prog w = .ok (.bool (inL s l)) w := by
  obtain ⟨D, h1, h2, h3⟩ := h
  obtain ⟨v, ps, hrun, hv⟩ := h1.lookup (Maps.string_keyed Try.underlying9) Try.underlying47 (z := .bool false) (by rfl) (plainElem_bool Try.underlying4 false) (WideMaps.keyOf_string_mk Try.underlying9 hs)
  obtain ⟨x, rfl, e⟩ := plainElem_bool_inv Try.underlying4 hv
  rw [hrun]
  have h4 := h3 s
  unfold keyL at h4
  rw [h4] at e
  injection e with e _
  injection e with e
  injection e with e
  rw [e]
theorem Met.put {w' : World} {b n : Nat} {D : DataW Unit} {l : List ByteArray} {s : ByteArray} (h2 : Maps.IsMap D) (h3 : ∀ s : ByteArray, D.atKey (keyL s) (.lit (.bool false)) = .lit (.bool (inL s l)))
    (hown : w'.ownsMap Try.prog 9 (plainElem Try.prog 4) b n (D.put (keyL s) (.lit (.bool true)))) : Met w' b n (l ++ [s]) := by
  refine ⟨_, hown, h2.put _ _, fun t => ?_⟩
  by_cases e : t = s
  · subst e
    rw [Maps.atKey_put_same h2 (keyL_is t), inL_add]
    simp
  · have h4 : inL t (l ++ [s]) = inL t l := by rw [inL_add, decide_eq_false (fun h => e h.symm), Bool.or_false]
    rw [Maps.atKey_put_other (keyL_ne e), h3 t, h4]
theorem cut_size (s : ByteArray) : (cutT s).size ≤ 30 := by
  unfold cutT
  split
  · rw [← oct_length, oct_extract]; simp; omega
  · omega
end Go.Proofs.Ytkkddnmpehoeoaa
