/- Plain laws: keys laid one after the other, and the same keys turned round. -/
import Derived.Test.YtkkddnmpehoeoaaTreeLaws
namespace Go.Proofs.Ytkkddnmpehoeoaa.TreeP
set_option linter.unusedVariables false

/-- the cells that are left by laying each key under itself -/
def layL (m : List ByteArray) : List Cell := m.foldl (fun L s => withC L (s, s)) []
theorem layL_add (m : List ByteArray) (s : ByteArray) : layL (m ++ [s]) = withC (layL m) (s, s) := by simp [layL, List.foldl_append]
theorem layL_rise (m : List ByteArray) : Rise (layL m) := by
  have h : ∀ (m : List ByteArray) (L : List Cell), Rise L → Rise (m.foldl (fun L s => withC L (s, s)) L) := by
    intro m
    induction m with
    | nil => exact fun L h => h
    | cons s m ih => exact fun L h => ih _ (rise_withC _ h)
  exact h m [] (by simp [Rise])
theorem layL_mem (m : List ByteArray) (d : Cell) : d ∈ layL m ↔ ∃ s ∈ m, d = (s, s) := by
  have h : ∀ (m : List ByteArray) (L : List Cell), (∀ c ∈ L, c.1 = c.2) → (d ∈ m.foldl (fun L s => withC L (s, s)) L ↔ d ∈ L ∨ ∃ s ∈ m, d = (s, s)) := by
    intro m
    induction m with
    | nil => intro L _; simp
    | cons s m ih =>
      intro L hL
      rw [List.foldl_cons, ih _ (fun c hc => by
        rcases mem_withC.1 hc with h | h
        · rw [h]
        · exact hL _ h.1), mem_withC]
      constructor
      · rintro ((h | h) | ⟨t, h1, h2⟩)
        · exact .inr ⟨s, by simp, h⟩
        · exact .inl h.1
        · exact .inr ⟨t, by simp [h1], h2⟩
      · rintro (h | ⟨t, h1, h2⟩)
        · by_cases e : d.1 = s
          · refine .inl (.inl (Prod.ext e ?_))
            rw [← hL _ h]
            exact e
          · exact .inl (.inr ⟨h, e⟩)
        · rcases List.mem_cons.1 h1 with h1 | h1
          · subst h1; exact .inl (.inl h2)
          · exact .inr ⟨t, h1, h2⟩
  rw [layL, h m [] (by simp)]
  simp
theorem layL_len {m : List ByteArray} (h : m.Nodup) (k : Nat) : (layL (m.take k)).length = min k m.length := by
  induction k with
  | zero => simp [layL]
  | succ k ih =>
    by_cases hk : k < m.length
    · have e : m.take (k + 1) = m.take k ++ [m[k]] := (List.take_append_getElem hk).symm
      have hn : get (layL (m.take k)) m[k] = none := get_none.2 fun d hd e1 => by
        obtain ⟨s, hs, rfl⟩ := (layL_mem _ _).1 hd
        have h2 : (m.take k ++ [m[k]]).Nodup := e ▸ (List.take_sublist (k + 1) m).nodup h
        exact (List.nodup_append.1 h2).2.2 s hs m[k] (by simp) e1
      rw [e, layL_add, length_withC (layL_rise _), hn, ih]
      simp
      omega
    · rw [List.take_of_length_le (by omega)]
      rw [List.take_of_length_le (by omega)] at ih
      rw [ih]
      omega
/-- the keys turned round -/
def turnL (l : List ByteArray) (t : Nat) : List ByteArray := l.drop (t % l.length) ++ l.take (t % l.length)
theorem turnL_perm (l : List ByteArray) (t : Nat) : (turnL l t).Perm l := by
  have h : (l.drop (t % l.length) ++ l.take (t % l.length)).Perm (l.take (t % l.length) ++ l.drop (t % l.length)) := List.perm_append_comm
  rw [List.take_append_drop] at h
  exact h
theorem turnL_length (l : List ByteArray) (t : Nat) : (turnL l t).length = l.length := (turnL_perm l t).length_eq
theorem turnL_nodup {l : List ByteArray} (h : l.Nodup) (t : Nat) : (turnL l t).Nodup := (turnL_perm l t).nodup_iff.2 h
theorem turnL_at {l : List ByteArray} {t i : Nat} (h : i < l.length) : (turnL l t)[i]? = l[(i + t) % l.length]? := by
  have h1 : t % l.length < l.length := Nat.mod_lt _ (by omega)
  have h2 : (i + t) % l.length = (i + t % l.length) % l.length := by rw [Nat.add_mod, Nat.mod_eq_of_lt h]
  rw [h2, turnL]
  generalize t % l.length = r at *
  by_cases h3 : i + r < l.length
  · rw [Nat.mod_eq_of_lt h3, List.getElem?_append_left (by simp; omega), List.getElem?_drop]
    congr 1
    omega
  · rw [Nat.mod_eq_sub_mod (by omega), Nat.mod_eq_of_lt (by omega), List.getElem?_append_right (by simp; omega), List.getElem?_take_of_lt (by simp; omega)]
    congr 1
    simp
    omega
theorem layL_turn (l : List ByteArray) (t : Nat) : layL (turnL l t) = layL l :=
  rise_ext (layL_rise _) (layL_rise _) fun d => by
    rw [layL_mem, layL_mem]
    constructor
    · rintro ⟨s, h, e⟩; exact ⟨s, (turnL_perm l t).mem_iff.1 h, e⟩
    · rintro ⟨s, h, e⟩; exact ⟨s, (turnL_perm l t).mem_iff.2 h, e⟩
theorem turnL_same {l : List ByteArray} (h : l.Nodup) (t : Nat) : (layL l).length = l.length := by
  have := layL_len h l.length
  rw [List.take_length] at this
  omega

/-- the cells that are left of l's after the first k keys of m went -/
def cutL (L : List Cell) (m : List ByteArray) : List Cell := m.foldl (fun L s => without L s) L
theorem cutL_add (L : List Cell) (m : List ByteArray) (s : ByteArray) : cutL L (m ++ [s]) = without (cutL L m) s := by simp [cutL, List.foldl_append]
theorem cutL_rise {L : List Cell} (h : Rise L) (m : List ByteArray) : Rise (cutL L m) := by
  induction m generalizing L with
  | nil => exact h
  | cons s m ih => exact ih (rise_without s h)
theorem cutL_mem (L : List Cell) (m : List ByteArray) (d : Cell) : d ∈ cutL L m ↔ d ∈ L ∧ d.1 ∉ m := by
  induction m generalizing L with
  | nil => simp [cutL]
  | cons s m ih =>
    rw [cutL, List.foldl_cons, ← cutL, ih, mem_without]
    simp [and_assoc]
/-- the next key of the turned round ones is there still -/
theorem cutL_next {l : List ByteArray} (h : l.Nodup) {t k : Nat} (hk : k < l.length) {s : ByteArray} (hs : (turnL l t)[k]? = some s) : get (cutL (layL l) ((turnL l t).take k)) s = some s := by
  have hk2 : k < (turnL l t).length := by rw [turnL_length]; exact hk
  have e : (turnL l t).take (k + 1) = (turnL l t).take k ++ [(turnL l t)[k]] := (List.take_append_getElem hk2).symm
  have e2 : (turnL l t)[k] = s := by rw [List.getElem?_eq_getElem hk2] at hs; exact Option.some.inj hs
  have h2 : ((turnL l t).take k ++ [(turnL l t)[k]]).Nodup := e ▸ (List.take_sublist (k + 1) _).nodup (turnL_nodup h t)
  refine (get_iff (cutL_rise (layL_rise l) _)).2 ((cutL_mem _ _ _).2 ⟨(layL_mem _ _).2 ⟨s, (turnL_perm l t).mem_iff.1 (List.mem_of_getElem? hs), rfl⟩, fun hm => ?_⟩)
  rw [e2] at h2
  exact (List.nodup_append.1 h2).2.2 s hm s (by simp) rfl
theorem without_len {L : List Cell} (h : Rise L) {k v : ByteArray} (hg : get L k = some v) : (without L k).length + 1 = L.length := by
  have hr := rise_without k h
  have hn : get (without L k) k = none := get_none.2 fun d hd => (mem_without.1 hd).2
  have e : withC (without L k) (k, v) = L := rise_ext (rise_withC _ hr) h fun d => by
    rw [mem_withC, mem_without]
    constructor
    · rintro (h1 | h1)
      · rw [h1]; exact (get_iff h).1 hg
      · exact h1.1.1
    · intro h1
      by_cases e : d.1 = k
      · refine .inl ?_
        have h2 := get_mem h h1
        rw [e, hg] at h2
        exact Prod.ext e (Option.some.inj h2).symm
      · exact .inr ⟨⟨h1, e⟩, e⟩
  have h3 := length_withC (c := (k, v)) hr
  rw [e, hn] at h3
  simp at h3
  omega
theorem cutL_len {l : List ByteArray} (h : l.Nodup) (t : Nat) {k : Nat} (hk : k ≤ l.length) : (cutL (layL l) ((turnL l t).take k)).length = l.length - k := by
  induction k with
  | zero => simp [cutL, turnL_same h t]
  | succ k ih =>
    have hk2 : k < (turnL l t).length := by rw [turnL_length]; omega
    have e : (turnL l t).take (k + 1) = (turnL l t).take k ++ [(turnL l t)[k]] := (List.take_append_getElem hk2).symm
    have h1 := without_len (cutL_rise (layL_rise l) _) (cutL_next h (t := t) (k := k) (by omega) (List.getElem?_eq_getElem hk2))
    rw [e, cutL_add]
    have h2 := ih (by omega)
    omega
end Go.Proofs.Ytkkddnmpehoeoaa.TreeP
