/- The plain mathematics of layer 19 (slot): what a page is, how it is read, that it is read as it was laid. No program in sight. -/
import Derived.Below
namespace Go.Proofs.Yteoiadfcchalfaa.SlotP

abbrev Bytes := List UInt8

/-- two octets, the higher first -/
def u16 (n : Nat) : Bytes := [UInt8.ofNat (n / 256), UInt8.ofNat n]
def sumLen (l : List Bytes) : Nat := (l.map List.length).sum
def used (l : List Bytes) : Nat := 2 + 2 * l.length + sumLen l
def fits (l : List Bytes) : Bool := decide (l.length ≤ 40) && l.all (fun c => decide (c.length ≤ 1000)) && decide (used l ≤ 1024)
def heads (l : List Bytes) : Bytes := l.flatMap fun c => u16 c.length
def lay (l : List Bytes) : Bytes := u16 l.length ++ heads l ++ List.replicate (1024 - used l) 0 ++ l.reverse.flatten

theorem sumLen_nil : sumLen [] = 0 := rfl
theorem sumLen_cons (c : Bytes) (l : List Bytes) : sumLen (c :: l) = c.length + sumLen l := by simp [sumLen]
theorem sumLen_append (a b : List Bytes) : sumLen (a ++ b) = sumLen a + sumLen b := by simp [sumLen]
theorem used_snoc (l : List Bytes) (c : Bytes) : used (l ++ [c]) = used l + 2 + c.length := by
  simp [used, sumLen_append, sumLen_cons, sumLen_nil]; omega

theorem fits_iff (l : List Bytes) : fits l = true ↔ l.length ≤ 40 ∧ (∀ c ∈ l, c.length ≤ 1000) ∧ used l ≤ 1024 := by
  simp [fits, and_assoc]

theorem heads_length (l : List Bytes) : (heads l).length = 2 * l.length := by
  induction l with
  | nil => rfl
  | cons c l ih => simp [heads, u16] at *; omega
theorem flatten_length (l : List Bytes) : l.flatten.length = sumLen l := by simp [sumLen, List.length_flatten]
theorem flatten_reverse_length (l : List Bytes) : l.reverse.flatten.length = sumLen l := by
  rw [List.length_flatten]; simp [sumLen]
theorem lay_length (l : List Bytes) (h : fits l = true) : (lay l).length = 1024 := by
  have := (fits_iff l).1 h
  simp only [lay, List.length_append, heads_length, List.length_replicate, flatten_reverse_length]
  simp [u16]
  simp only [used] at *
  omega

/-- what two octets say -/
def at16 (s : Bytes) (i : Nat) : Nat := 256 * (s.getD i 0).toNat + (s.getD (i + 1) 0).toNat

/-- Reading i cells on, the cells so far, the end so far: the cells, or nothing. -/
def readGo (s : Bytes) : (k i : Nat) → (acc : List Bytes) → (fin : Nat) → Option (List Bytes)
  | 0, _, acc, _ => some acc
  | k + 1, i, acc, fin =>
    if at16 s (2 + 2 * i) > fin then none
    else readGo s k (i + 1) (acc ++ [(s.drop (fin - at16 s (2 + 2 * i))).take (at16 s (2 + 2 * i))]) (fin - at16 s (2 + 2 * i))

/-- P19.1: the cells, and the error's number. -/
def read (s : Bytes) : List Bytes × Nat :=
  if s.length ≠ 1024 then ([], 17)
  else if at16 s 0 > 40 then ([], 3)
  else match readGo s (at16 s 0) 0 [] 1024 with
    | none => ([], 3)
    | some l => if fits l && decide (lay l = s) then (l, 0) else ([], 3)

/-! ### What is laid is read as it was -/

theorem u16_at (n : Nat) (h : n < 65536) (rest : Bytes) : at16 (u16 n ++ rest) 0 = n := by
  simp [at16, u16]; omega

theorem getD_append_right (a b : Bytes) (i : Nat) : (a ++ b).getD (a.length + i) 0 = b.getD i 0 := by
  simp [List.getD_eq_getElem?_getD, List.getElem?_append_right]

theorem at16_append_right (a b : Bytes) (i : Nat) : at16 (a ++ b) (a.length + i) = at16 b i := by
  unfold at16
  rw [getD_append_right, Nat.add_assoc, getD_append_right]

theorem readGo_lay (pre mid : List Bytes) (s : Bytes) (hs : s.length = 1024)
    (hheads : ∀ i c, (pre ++ mid)[i]? = some c → at16 s (2 + 2 * i) = c.length)
    (hend : ∃ front, s = front ++ (pre ++ mid).reverse.flatten) :
    readGo s mid.length pre.length pre (1024 - sumLen pre) = some (pre ++ mid) := by
  induction mid generalizing pre with
  | nil => simp [readGo]
  | cons c mid ih =>
    obtain ⟨front, hf⟩ := hend
    have h1 : at16 s (2 + 2 * pre.length) = c.length := hheads pre.length c (by simp)
    have hl : s.length = front.length + sumLen (pre ++ c :: mid) := by
      rw [hf, List.length_append, flatten_reverse_length]
    rw [sumLen_append, sumLen_cons, hs] at hl
    simp only [List.length_cons, readGo, h1]
    rw [if_neg (by omega)]
    have hcut : (s.drop (1024 - sumLen pre - c.length)).take c.length = c := by
      have hs2 : s = (front ++ mid.reverse.flatten) ++ (c ++ pre.reverse.flatten) := by
        rw [hf]; simp [List.reverse_append, List.flatten_append]
      have hlen : (front ++ mid.reverse.flatten).length = 1024 - sumLen pre - c.length := by
        rw [List.length_append, flatten_reverse_length]; omega
      conv => lhs; rw [hs2]
      rw [← hlen, List.drop_left, List.take_left]
    rw [hcut]
    have hn := ih (pre ++ [c]) (by simpa using hheads) ⟨front, by simpa using hf⟩
    have e1 : 1024 - sumLen (pre ++ [c]) = 1024 - sumLen pre - c.length := by
      rw [sumLen_append, sumLen_cons, sumLen_nil]; omega
    rw [e1] at hn
    simpa using hn

theorem heads_at (l : List Bytes) (rest : Bytes) (hl : ∀ c ∈ l, c.length < 65536) (i : Nat) (c : Bytes) (h : l[i]? = some c) : at16 (heads l ++ rest) (2 * i) = c.length := by
  induction l generalizing i with
  | nil => simp at h
  | cons d l ih =>
    have e : heads (d :: l) ++ rest = u16 d.length ++ (heads l ++ rest) := by simp [heads]
    rw [e]
    cases i with
    | zero =>
      simp at h; subst h
      exact u16_at _ (hl _ (by simp)) _
    | succ i =>
      have h2 : 2 * (i + 1) = (u16 d.length).length + 2 * i := by simp [u16]; omega
      rw [h2, at16_append_right]
      exact ih (fun c hc => hl c (by simp [hc])) i (by simpa using h)

theorem read_lay (l : List Bytes) (h : fits l = true) : read (lay l) = (l, 0) := by
  have hlen := lay_length l h
  obtain ⟨h40, h1000, hu⟩ := (fits_iff l).1 h
  have hn : at16 (lay l) 0 = l.length := by
    unfold lay
    simp only [List.append_assoc]
    exact u16_at _ (by omega) _
  have hh : ∀ i c, l[i]? = some c → at16 (lay l) (2 + 2 * i) = c.length := by
    intro i c hc
    have e : lay l = u16 l.length ++ (heads l ++ (List.replicate (1024 - used l) 0 ++ l.reverse.flatten)) := by simp [lay]
    rw [e]
    have e2 : 2 + 2 * i = (u16 l.length).length + 2 * i := by simp [u16]
    rw [e2, at16_append_right]
    exact heads_at l _ (fun c hc => by have := h1000 c hc; omega) i c hc
  have hgo := readGo_lay [] l (lay l) hlen (by simpa using hh) ⟨u16 l.length ++ heads l ++ List.replicate (1024 - used l) 0, by simp [lay]⟩
  simp only [List.nil_append, List.length_nil, sumLen_nil] at hgo
  unfold read
  rw [if_neg (by omega), hn, if_neg (by omega), hgo]
  simp [h]

/-- two lists that go on a page have the same page just if they are the same -/
theorem lay_inj (l m : List Bytes) (hl : fits l = true) (hm : fits m = true) : lay l = lay m ↔ l = m := by
  constructor
  · intro h
    have a := read_lay l hl
    rw [h, read_lay m hm] at a
    exact ((Prod.mk.inj a).1).symm
  · rintro rfl; rfl

/-- what is read is laid as it stood there -/
theorem lay_read (s : Bytes) (h : (read s).2 = 0) : fits (read s).1 = true ∧ lay (read s).1 = s := by
  unfold read at *
  split at h
  · simp at h
  rename_i h1
  rw [if_neg h1]
  split at h
  · simp at h
  rename_i h2
  rw [if_neg h2]
  split at h
  · simp at h
  rename_i l hl
  split at h
  · rename_i h3
    rw [if_pos h3]
    simpa using h3
  · simp at h

/-! ### How much room is left -/

def free (l : List Bytes) : Int :=
  if fits l = false then -1 else if l.length = 40 then 0 else max 0 (min 1000 (1022 - (used l : Int)))

theorem fits_snoc (l : List Bytes) (c : Bytes) (h : fits l = true) : fits (l ++ [c]) = true ↔ l.length < 40 ∧ c.length ≤ 1000 ∧ used l + 2 + c.length ≤ 1024 := by
  obtain ⟨h1, h2, h3⟩ := (fits_iff l).1 h
  rw [fits_iff, used_snoc]
  simp only [List.length_append, List.length_singleton, List.mem_append, List.mem_singleton]
  constructor
  · rintro ⟨a, b, c'⟩
    exact ⟨by omega, b c (.inr rfl), by omega⟩
  · rintro ⟨a, b, c'⟩
    refine ⟨by omega, ?_, by omega⟩
    rintro d (hd | rfl)
    · exact h2 d hd
    · exact b

theorem fits_free (l : List Bytes) (c : Bytes) (h : fits l = true) (hc : 0 < c.length) : fits (l ++ [c]) = decide ((c.length : Int) ≤ free l) := by
  have h1 := (fits_iff l).1 h
  rw [Bool.eq_iff_iff, fits_snoc l c h]
  simp only [free, h, decide_eq_true_eq]
  simp only [Bool.true_eq_false, if_false]
  split <;> omega

theorem free_bounds (l : List Bytes) (h : fits l = true) : 0 ≤ free l ∧ free l ≤ 1000 := by
  simp only [free, h, Bool.true_eq_false, if_false]
  split <;> omega

/-! ### Fill -/

/-- Fill from some lists and the last one that is open. -/
def fillGo : (cells : List Bytes) → (lists : List (List Bytes)) → (list : List Bytes) → List (List Bytes)
  | [], lists, list => if list = [] then lists else lists ++ [list]
  | c :: cells, lists, list => if fits (list ++ [c]) then fillGo cells lists (list ++ [c]) else fillGo cells (lists ++ [list]) [c]
def fill (cells : List Bytes) : List (List Bytes) := fillGo cells [] []

theorem fits_single (c : Bytes) (h : c.length ≤ 1000) : fits [c] = true := by
  rw [fits_iff]; simp [used, sumLen_cons, sumLen_nil]; omega
theorem fits_nil : fits [] = true := by decide

/-- each list that is filled goes on a page and is not empty; one behind the other they are the cells -/
theorem fillGo_ok (cells : List Bytes) (lists : List (List Bytes)) (list : List Bytes) (hc : ∀ c ∈ cells, c.length ≤ 1000)
    (hl : ∀ l ∈ lists, fits l = true ∧ l ≠ []) (hf : fits list = true) (hne : list = [] → lists = []) :
    (∀ l ∈ fillGo cells lists list, fits l = true ∧ l ≠ []) ∧ (fillGo cells lists list).flatten = lists.flatten ++ list ++ cells := by
  induction cells generalizing lists list with
  | nil =>
    simp only [fillGo]
    split
    · rename_i h; subst h; exact ⟨hl, by simp⟩
    · rename_i h
      refine ⟨?_, by simp⟩
      intro l hm
      rcases List.mem_append.1 hm with hm | hm
      · exact hl l hm
      · simp at hm; subst hm; exact ⟨hf, h⟩
  | cons c cells ih =>
    simp only [fillGo]
    split
    · rename_i h
      have := ih lists (list ++ [c]) (fun d hd => hc d (by simp [hd])) hl h (by simp)
      exact ⟨this.1, by rw [this.2]; simp⟩
    · rename_i h
      have hlne : list ≠ [] := by
        rintro rfl
        exact h (fits_single c (hc c (by simp)))
      have := ih (lists ++ [list]) [c] (fun d hd => hc d (by simp [hd])) (by
        intro l hm
        rcases List.mem_append.1 hm with hm | hm
        · exact hl l hm
        · simp at hm; subst hm; exact ⟨hf, hlne⟩) (fits_single c (hc c (by simp))) (by simp)
      exact ⟨this.1, by rw [this.2]; simp⟩

theorem fill_ok (cells : List Bytes) (hc : ∀ c ∈ cells, c.length ≤ 1000) : (∀ l ∈ fill cells, fits l = true ∧ l ≠ []) ∧ (fill cells).flatten = cells := by
  have := fillGo_ok cells [] [] hc (by simp) fits_nil (by simp)
  exact ⟨this.1, by rw [fill, this.2]; simp⟩

/-- what a cell costs -/
def cost (l : List Bytes) : Nat := 2 * l.length + sumLen l
theorem cost_append (a b : List Bytes) : cost (a ++ b) = cost a + cost b := by simp [cost, sumLen_append]; omega
theorem cost_flatten_le (ls : List (List Bytes)) (h : ∀ l ∈ ls, fits l = true) : cost ls.flatten ≤ 1022 * ls.length := by
  induction ls with
  | nil => simp [cost, sumLen]
  | cons l ls ih =>
    have h1 := (fits_iff l).1 (h l (by simp))
    have h2 := ih (fun m hm => h m (by simp [hm]))
    simp only [List.flatten_cons, cost_append, List.length_cons]
    have : cost l ≤ 1022 := by simp only [cost, used] at *; omega
    omega
theorem length_le_flatten (ls : List (List Bytes)) (h : ∀ l ∈ ls, l ≠ []) : ls.length ≤ ls.flatten.length := by
  induction ls with
  | nil => simp
  | cons l ls ih =>
    have h1 := List.length_pos_iff.2 (h l (by simp))
    have h2 := ih (fun m hm => h m (by simp [hm]))
    rw [List.flatten_cons, List.length_append, List.length_cons]; omega

theorem fits_sub (a b c : List Bytes) (h : fits (a ++ b ++ c) = true) : fits (a ++ c) = true := by
  obtain ⟨h1, h2, h3⟩ := (fits_iff _).1 h
  rw [fits_iff]
  simp only [used, sumLen_append, List.length_append] at *
  exact ⟨by omega, fun d hd => h2 d (by rcases List.mem_append.1 hd with hd | hd <;> simp [hd]), by omega⟩

end Go.Proofs.Yteoiadfcchalfaa.SlotP
