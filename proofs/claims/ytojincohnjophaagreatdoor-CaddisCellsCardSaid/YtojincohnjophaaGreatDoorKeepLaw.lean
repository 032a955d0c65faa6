/- Plain laws of layer 21 (keep), part 2: what is saved, opened, added, and kept through crashes. No program in sight. (merged: SlotPure DiskPure DiskLaw LogPure LogRec LogScan LogDisk LogPlay KeepPure KeepLaw) -/
import Derived.Below
/-! The plain mathematics of layer 19 (slot): what a page is, how it is read, that it is read as it was laid. No program in sight. -/
namespace Go.Proofs.YtojincohnjophaaGreatDoor.SlotP

abbrev Bytes := List UInt8

/-- two octets, the higher first -/
def u16 (n : Nat) : Bytes := [UInt8.ofNat (n / 256), UInt8.ofNat n]
def sumLen (l : List Bytes) : Nat := (l.map List.length).sum
def used (l : List Bytes) : Nat := 2 + 2 * l.length + sumLen l
def fits (l : List Bytes) : Bool := decide (l.length ≤ 40) && l.all (fun c => decide (c.length ≤ 1000)) && decide (used l ≤ 1024)
def heads (l : List Bytes) : Bytes := l.flatMap fun c => u16 c.length
def lay (l : List Bytes) : Bytes := u16 l.length ++ heads l ++ List.replicate (1024 - used l) 0 ++ l.reverse.flatten

theorem sumLen_nil : sumLen [] = 0 := rfl
theorem sumLen_cons (c : Bytes) (l : List Bytes) : sumLen (c :: l) = c.length + sumLen l := by simp [sumLen]
theorem sumLen_append (a b : List Bytes) : sumLen (a ++ b) = sumLen a + sumLen b := by simp [sumLen]
theorem fits_iff (l : List Bytes) : fits l = true ↔ l.length ≤ 40 ∧ (∀ c ∈ l, c.length ≤ 1000) ∧ used l ≤ 1024 := by
  simp [fits, and_assoc]

theorem heads_length (l : List Bytes) : (heads l).length = 2 * l.length := by
  induction l with
  | nil => rfl
  | cons c l ih => simp [heads, u16] at *; omega
theorem flatten_length (l : List Bytes) : l.flatten.length = sumLen l := by simp [sumLen, List.length_flatten]
theorem flatten_reverse_length (l : List Bytes) : l.reverse.flatten.length = sumLen l := by
  rw [List.length_flatten]; simp [sumLen]
theorem lay_length (l : List Bytes) (h : fits l = true) : (lay l).length = 1024 := by
  have := (fits_iff l).1 h
  simp only [lay, List.length_append, heads_length, List.length_replicate, flatten_reverse_length]
  simp [u16]
  simp only [used] at *
  omega

/-- what two octets say -/
def at16 (s : Bytes) (i : Nat) : Nat := 256 * (s.getD i 0).toNat + (s.getD (i + 1) 0).toNat

/-- Reading i cells on, the cells so far, the end so far: the cells, or nothing. -/
def readGo (s : Bytes) : (k i : Nat) → (acc : List Bytes) → (fin : Nat) → Option (List Bytes)
  | 0, _, acc, _ => some acc
  | k + 1, i, acc, fin =>
    if at16 s (2 + 2 * i) > fin then none
    else readGo s k (i + 1) (acc ++ [(s.drop (fin - at16 s (2 + 2 * i))).take (at16 s (2 + 2 * i))]) (fin - at16 s (2 + 2 * i))

/-- P19.1: the cells, and the error's number. -/
def read (s : Bytes) : List Bytes × Nat :=
  if s.length ≠ 1024 then ([], 17)
  else if at16 s 0 > 40 then ([], 3)
  else match readGo s (at16 s 0) 0 [] 1024 with
    | none => ([], 3)
    | some l => if fits l && decide (lay l = s) then (l, 0) else ([], 3)

/-! ### What is laid is read as it was -/

theorem u16_at (n : Nat) (h : n < 65536) (rest : Bytes) : at16 (u16 n ++ rest) 0 = n := by
  simp [at16, u16]; omega

theorem getD_append_right (a b : Bytes) (i : Nat) : (a ++ b).getD (a.length + i) 0 = b.getD i 0 := by
  simp [List.getD_eq_getElem?_getD, List.getElem?_append_right]

theorem at16_append_right (a b : Bytes) (i : Nat) : at16 (a ++ b) (a.length + i) = at16 b i := by
  unfold at16
  rw [getD_append_right, Nat.add_assoc, getD_append_right]

theorem readGo_lay (pre mid : List Bytes) (s : Bytes) (hs : s.length = 1024)
    (hheads : ∀ i c, (pre ++ mid)[i]? = some c → at16 s (2 + 2 * i) = c.length)
    (hend : ∃ front, s = front ++ (pre ++ mid).reverse.flatten) :
    readGo s mid.length pre.length pre (1024 - sumLen pre) = some (pre ++ mid) := by
  induction mid generalizing pre with
  | nil => simp [readGo]
  | cons c mid ih =>
    obtain ⟨front, hf⟩ := hend
    have h1 : at16 s (2 + 2 * pre.length) = c.length := hheads pre.length c (by simp)
    have hl : s.length = front.length + sumLen (pre ++ c :: mid) := by
      rw [hf, List.length_append, flatten_reverse_length]
    rw [sumLen_append, sumLen_cons, hs] at hl
    simp only [List.length_cons, readGo, h1]
    rw [if_neg (by omega)]
    have hcut : (s.drop (1024 - sumLen pre - c.length)).take c.length = c := by
      have hs2 : s = (front ++ mid.reverse.flatten) ++ (c ++ pre.reverse.flatten) := by
        rw [hf]; simp [List.reverse_append, List.flatten_append]
      have hlen : (front ++ mid.reverse.flatten).length = 1024 - sumLen pre - c.length := by
        rw [List.length_append, flatten_reverse_length]; omega
      conv => lhs; rw [hs2]
      rw [← hlen, List.drop_left, List.take_left]
    rw [hcut]
    have hn := ih (pre ++ [c]) (by simpa using hheads) ⟨front, by simpa using hf⟩
    have e1 : 1024 - sumLen (pre ++ [c]) = 1024 - sumLen pre - c.length := by
      rw [sumLen_append, sumLen_cons, sumLen_nil]; omega
    rw [e1] at hn
    simpa using hn

theorem heads_at (l : List Bytes) (rest : Bytes) (hl : ∀ c ∈ l, c.length < 65536) (i : Nat) (c : Bytes) (h : l[i]? = some c) : at16 (heads l ++ rest) (2 * i) = c.length := by
  induction l generalizing i with
  | nil => simp at h
  | cons d l ih =>
    have e : heads (d :: l) ++ rest = u16 d.length ++ (heads l ++ rest) := by simp [heads]
    rw [e]
    cases i with
    | zero =>
      simp at h; subst h
      exact u16_at _ (hl _ (by simp)) _
    | succ i =>
      have h2 : 2 * (i + 1) = (u16 d.length).length + 2 * i := by simp [u16]; omega
      rw [h2, at16_append_right]
      exact ih (fun c hc => hl c (by simp [hc])) i (by simpa using h)

theorem read_lay (l : List Bytes) (h : fits l = true) : read (lay l) = (l, 0) := by
  have hlen := lay_length l h
  obtain ⟨h40, h1000, hu⟩ := (fits_iff l).1 h
  have hn : at16 (lay l) 0 = l.length := by
    unfold lay
    simp only [List.append_assoc]
    exact u16_at _ (by omega) _
  have hh : ∀ i c, l[i]? = some c → at16 (lay l) (2 + 2 * i) = c.length := by
    intro i c hc
    have e : lay l = u16 l.length ++ (heads l ++ (List.replicate (1024 - used l) 0 ++ l.reverse.flatten)) := by simp [lay]
    rw [e]
    have e2 : 2 + 2 * i = (u16 l.length).length + 2 * i := by simp [u16]
    rw [e2, at16_append_right]
    exact heads_at l _ (fun c hc => by have := h1000 c hc; omega) i c hc
  have hgo := readGo_lay [] l (lay l) hlen (by simpa using hh) ⟨u16 l.length ++ heads l ++ List.replicate (1024 - used l) 0, by simp [lay]⟩
  simp only [List.nil_append, List.length_nil, sumLen_nil] at hgo
  unfold read
  rw [if_neg (by omega), hn, if_neg (by omega), hgo]
  simp [h]

/-- what is read is laid as it stood there -/
theorem lay_read (s : Bytes) (h : (read s).2 = 0) : fits (read s).1 = true ∧ lay (read s).1 = s := by
  unfold read at *
  split at h
  · simp at h
  rename_i h1
  rw [if_neg h1]
  split at h
  · simp at h
  rename_i h2
  rw [if_neg h2]
  split at h
  · simp at h
  rename_i l hl
  split at h
  · rename_i h3
    rw [if_pos h3]
    simpa using h3
  · simp at h

/-! ### How much room is left -/

def free (l : List Bytes) : Int :=
  if fits l = false then -1 else if l.length = 40 then 0 else max 0 (min 1000 (1022 - (used l : Int)))

/-! ### Fill -/

/-- Fill from some lists and the last one that is open. -/
def fillGo : (cells : List Bytes) → (lists : List (List Bytes)) → (list : List Bytes) → List (List Bytes)
  | [], lists, list => if list = [] then lists else lists ++ [list]
  | c :: cells, lists, list => if fits (list ++ [c]) then fillGo cells lists (list ++ [c]) else fillGo cells (lists ++ [list]) [c]
def fill (cells : List Bytes) : List (List Bytes) := fillGo cells [] []

theorem fits_single (c : Bytes) (h : c.length ≤ 1000) : fits [c] = true := by
  rw [fits_iff]; simp [used, sumLen_cons, sumLen_nil]; omega
theorem fits_nil : fits [] = true := by decide

/-- each list that is filled goes on a page and is not empty; one behind the other they are the cells -/
theorem fillGo_ok (cells : List Bytes) (lists : List (List Bytes)) (list : List Bytes) (hc : ∀ c ∈ cells, c.length ≤ 1000)
    (hl : ∀ l ∈ lists, fits l = true ∧ l ≠ []) (hf : fits list = true) (hne : list = [] → lists = []) :
    (∀ l ∈ fillGo cells lists list, fits l = true ∧ l ≠ []) ∧ (fillGo cells lists list).flatten = lists.flatten ++ list ++ cells := by
  induction cells generalizing lists list with
  | nil =>
    simp only [fillGo]
    split
    · rename_i h; subst h; exact ⟨hl, by simp⟩
    · rename_i h
      refine ⟨?_, by simp⟩
      intro l hm
      rcases List.mem_append.1 hm with hm | hm
      · exact hl l hm
      · simp at hm; subst hm; exact ⟨hf, h⟩
  | cons c cells ih =>
    simp only [fillGo]
    split
    · rename_i h
      have := ih lists (list ++ [c]) (fun d hd => hc d (by simp [hd])) hl h (by simp)
      exact ⟨this.1, by rw [this.2]; simp⟩
    · rename_i h
      have hlne : list ≠ [] := by
        rintro rfl
        exact h (fits_single c (hc c (by simp)))
      have := ih (lists ++ [list]) [c] (fun d hd => hc d (by simp [hd])) (by
        intro l hm
        rcases List.mem_append.1 hm with hm | hm
        · exact hl l hm
        · simp at hm; subst hm; exact ⟨hf, hlne⟩) (fits_single c (hc c (by simp))) (by simp)
      exact ⟨this.1, by rw [this.2]; simp⟩

theorem fill_ok (cells : List Bytes) (hc : ∀ c ∈ cells, c.length ≤ 1000) : (∀ l ∈ fill cells, fits l = true ∧ l ≠ []) ∧ (fill cells).flatten = cells := by
  have := fillGo_ok cells [] [] hc (by simp) fits_nil (by simp)
  exact ⟨this.1, by rw [fill, this.2]; simp⟩

theorem length_le_flatten (ls : List (List Bytes)) (h : ∀ l ∈ ls, l ≠ []) : ls.length ≤ ls.flatten.length := by
  induction ls with
  | nil => simp
  | cons l ls ih =>
    have h1 := List.length_pos_iff.2 (h l (by simp))
    have h2 := ih (fun m hm => h m (by simp [hm]))
    rw [List.flatten_cons, List.length_append, List.length_cons]; omega

end Go.Proofs.YtojincohnjophaaGreatDoor.SlotP

/-! The plain mathematics of layer 17 (disk): what a disk is, what is read, written, done by a barrier, kept by a crash. No program in sight. -/
namespace Go.Proofs.YtojincohnjophaaGreatDoor.DiskP

abbrev Bytes := List UInt8

structure Wr where
  at_ : Int
  s : Bytes

structure Disk where
  S : List Bytes
  W : List Wr
  left : Int
  dead : Bool

def zero : Disk := ⟨[], [], 0, false⟩

def mayW (n : Nat) (w : Wr) : Bool := decide (0 ≤ w.at_) && decide (w.at_ < (n : Int)) && decide (w.s.length = 128)
def may (d : Disk) : Bool :=
  decide (1 ≤ d.S.length) && decide (d.S.length ≤ 4000) && decide (-1 ≤ d.left) && d.S.all (fun s => decide (s.length = 128)) && d.W.all (mayW d.S.length)

def noughts (n : Nat) : Bytes := List.replicate n 0
def new (n : Nat) : Disk := ⟨List.replicate n (noughts 128), [], -1, false⟩

/-- the sectors, when what waits is done -/
def doneGo (l : List Bytes) (ws : List Wr) : List Bytes := ws.foldl (fun l w => l.set w.at_.toNat w.s) l
def done (d : Disk) : List Bytes := doneGo d.S d.W

/-- is one write, or barrier, more done? -/
def alive (d : Disk) : Bool := !d.dead && !(d.left == 0)
def spent (d : Disk) : Disk := if d.dead || d.left == 0 then { d with dead := true } else if 0 < d.left then { d with left := d.left - 1 } else d

def there (d : Disk) (i n : Int) : Bool := decide (0 ≤ i) && decide (0 ≤ n) && decide (i ≤ d.S.length) && decide (n ≤ d.S.length - i)

/-- the number of the error, and what is read -/
def read (d : Disk) (i n : Int) : Bytes × Nat :=
  if may d = false then ([], 1) else if there d i n = false then ([], 16) else if d.dead then ([], 14)
  else ((((done d).drop i.toNat).take n.toNat).flatten, 0)

/-- sectors of octets -/
def sect (s : Bytes) (k : Nat) : Bytes := (s.drop (128 * k)).take 128

/-- k writes more, of n in all, from sector i on -/
def putGo (s : Bytes) (i : Int) : (k : Nat) → (j : Nat) → Disk → Disk × Nat
  | 0, _, d => (d, 0)
  | k + 1, j, d => if alive d = false then (spent d, 14) else putGo s i k (j + 1) { spent d with W := d.W ++ [⟨i + j, sect s j⟩] }
def put (d : Disk) (i : Int) (s : Bytes) : Disk × Nat :=
  if may d = false || s.length == 0 || s.length % 128 != 0 then (zero, 1)
  else if there d i (s.length / 128 : Nat) = false then (zero, 16)
  else putGo s i (s.length / 128) 0 d

def barrier (d : Disk) : Disk × Nat :=
  if may d = false then (zero, 1)
  else if alive d = false then (spent d, 14)
  else ({ spent d with S := done d, W := [] }, 0)

structure Fate where
  keep : List Bool
  torn : Int
  cut : Int

/-- how many octets of the write i are kept -/
def kept (f : Fate) (i : Nat) : Nat :=
  if (i : Int) = f.torn then (max 0 (min f.cut 128)).toNat else if f.keep.getD i false then 128 else 0

def crashGo (f : Fate) : (i : Nat) → (ws : List Wr) → (l : List Bytes) → List Bytes
  | _, [], l => l
  | i, w :: ws, l => crashGo f (i + 1) ws (l.set w.at_.toNat (w.s.take (kept f i) ++ (l.getD w.at_.toNat []).drop (kept f i)))
def crash (d : Disk) (f : Fate) : Disk := if may d = false then zero else ⟨crashGo f 0 d.W d.S, [], -1, false⟩

/-! ### What may be -/

theorem may_iff (d : Disk) : may d = true ↔ 1 ≤ d.S.length ∧ d.S.length ≤ 4000 ∧ -1 ≤ d.left ∧ (∀ s ∈ d.S, s.length = 128) ∧ ∀ w ∈ d.W, 0 ≤ w.at_ ∧ w.at_ < d.S.length ∧ w.s.length = 128 := by
  simp [may, mayW, and_assoc]

end Go.Proofs.YtojincohnjophaaGreatDoor.DiskP

/-! Plain laws of layer 17 (disk): what writes, barriers and crashes keep. No program in sight. -/
namespace Go.Proofs.YtojincohnjophaaGreatDoor.DiskP

/-- a living disk without a budget -/
structure Good (n : Nat) (d : Disk) : Prop where
  may : may d = true
  len : d.S.length = n
  left : d.left = -1
  dead : d.dead = false

theorem Good.alive {n : Nat} {d : Disk} (h : Good n d) : alive d = true := by simp [DiskP.alive, h.dead, h.left]
theorem Good.spent {n : Nat} {d : Disk} (h : Good n d) : spent d = d := by simp [DiskP.spent, h.dead, h.left]

theorem doneGo_len (ws : List Wr) : ∀ l : List Bytes, (doneGo l ws).length = l.length := by
  induction ws with
  | nil => exact fun _ => rfl
  | cons w ws ih => intro l; rw [doneGo, List.foldl_cons, ← doneGo, ih, List.length_set]
theorem doneGo_size (ws : List Wr) (hw : ∀ w ∈ ws, w.s.length = 128) : ∀ l : List Bytes, (∀ s ∈ l, s.length = 128) → ∀ s ∈ doneGo l ws, s.length = 128 := by
  induction ws with
  | nil => exact fun _ h => h
  | cons w ws ih =>
    intro l hl
    rw [doneGo, List.foldl_cons, ← doneGo]
    refine ih (fun v hv => hw v (by simp [hv])) _ fun s hs => ?_
    rcases List.mem_or_eq_of_mem_set hs with h | h
    · exact hl s h
    · rw [h]; exact hw w (by simp)

theorem Good.barrier {n : Nat} {d : Disk} (h : Good n d) : barrier d = ({ d with S := done d, W := [] }, 0) := by
  rw [DiskP.barrier, h.may, h.alive, h.spent]; rfl
theorem crashGo_len (f : Fate) (ws : List Wr) : ∀ (i : Nat) (l : List Bytes), (crashGo f i ws l).length = l.length := by
  induction ws with
  | nil => exact fun _ _ => rfl
  | cons w ws ih => intro i l; rw [crashGo, ih, List.length_set]
theorem crash_quiet {d : Disk} (f : Fate) (h : may d = true) (hW : d.W = []) : crash d f = ⟨d.S, [], -1, false⟩ := by
  rw [crash, h, hW]; rfl

/-- what a crash leaves: each octet is what it was, or what a write that waited said -/
theorem crashGo_from (f : Fate) (ws : List Wr) : ∀ (i : Nat) (l : List Bytes), (∀ w ∈ ws, 0 ≤ w.at_ ∧ w.at_ < l.length ∧ w.s.length = 128) → (∀ s ∈ l, s.length = 128) →
    (∀ s ∈ crashGo f i ws l, s.length = 128) ∧
    ∀ (j k : Nat) (b : UInt8), ((crashGo f i ws l).getD j [])[k]? = some b → (l.getD j [])[k]? = some b ∨ ∃ w ∈ ws, w.at_ = (j : Int) ∧ w.s[k]? = some b := by
  induction ws with
  | nil => exact fun i l _ hl => ⟨hl, fun j k b h => .inl h⟩
  | cons w ws ih =>
    intro i l hw hl
    obtain ⟨h0, h1, h2⟩ := hw w (by simp)
    have hat : w.at_.toNat < l.length := by omega
    have hold : (l.getD w.at_.toNat []).length = 128 := by
      rw [List.getD_eq_getElem?_getD, List.getElem?_eq_getElem hat]
      exact hl _ (List.getElem_mem hat)
    have hk : kept f i ≤ 128 := by
      unfold kept
      split
      · omega
      · split <;> omega
    have hlen : (w.s.take (kept f i) ++ (l.getD w.at_.toNat []).drop (kept f i)).length = 128 := by
      rw [List.length_append, List.length_take, List.length_drop, hold, h2]
      omega
    obtain ⟨q1, q2⟩ := ih (i + 1) (l.set w.at_.toNat (w.s.take (kept f i) ++ (l.getD w.at_.toNat []).drop (kept f i)))
      (fun v hv => by rw [List.length_set]; exact hw v (by simp [hv]))
      (fun s hs => by
        rcases List.mem_or_eq_of_mem_set hs with h | h
        · exact hl s h
        · rw [h]; exact hlen)
    refine ⟨q1, fun j k b hb => ?_⟩
    rcases q2 j k b hb with h | ⟨v, hv, e1, e2⟩
    · by_cases e : j = w.at_.toNat
      · subst e
        rw [List.getD_eq_getElem?_getD, List.getElem?_set_self hat, Option.getD_some] at h
        by_cases hkk : k < kept f i
        · rw [List.getElem?_append_left (by rw [List.length_take]; omega), List.getElem?_take_of_lt hkk] at h
          exact .inr ⟨w, by simp, by omega, h⟩
        · rw [List.getElem?_append_right (by rw [List.length_take]; omega), List.getElem?_drop, List.length_take] at h
          refine .inl ?_
          rw [← h]
          congr 1
          omega
      · rw [List.getD_eq_getElem?_getD, List.getElem?_set_ne (fun h => e h.symm), ← List.getD_eq_getElem?_getD] at h
        exact .inl h
    · exact .inr ⟨v, by simp [hv], e1, e2⟩

theorem sect_len {s : Bytes} {k m : Nat} (hs : s.length = 128 * m) (hk : k < m) : (sect s k).length = 128 := by
  rw [sect, List.length_take, List.length_drop, hs]
  omega
theorem Good.add {n : Nat} {d : Disk} (h : Good n d) {w : Wr} (h0 : 0 ≤ w.at_) (h1 : w.at_ < (n : Int)) (h2 : w.s.length = 128) : Good n { d with W := d.W ++ [w] } := by
  have hm := (may_iff d).1 h.may
  refine ⟨(may_iff _).2 ⟨hm.1, hm.2.1, hm.2.2.1, hm.2.2.2.1, fun v hv => ?_⟩, h.len, h.left, h.dead⟩
  have hv' : v ∈ d.W ∨ v = w := by simpa using hv
  rcases hv' with hv' | hv'
  · exact hm.2.2.2.2 v hv'
  · subst hv'; exact ⟨h0, by show v.at_ < (d.S.length : Int); rw [h.len]; exact h1, h2⟩
theorem putGo_good {n m : Nat} {s : Bytes} {i : Int} (hs : s.length = 128 * m) (h0 : 0 ≤ i) (h1 : i + m ≤ n) : ∀ (k j : Nat) (d : Disk), j + k = m → Good n d → (putGo s i k j d).2 = 0 ∧ Good n (putGo s i k j d).1 ∧ (putGo s i k j d).1.S = d.S := by
  intro k
  induction k with
  | zero => exact fun j d _ h => ⟨rfl, h, rfl⟩
  | succ k ih =>
    intro j d hj h
    rw [putGo, h.alive, if_neg (by simp), h.spent]
    have h2 := h.add (w := ⟨i + j, sect s j⟩) (by show 0 ≤ i + (j : Int); omega) (by show i + (j : Int) < (n : Int); omega) (sect_len hs (by omega))
    obtain ⟨q1, q2, q3⟩ := ih (j + 1) _ (by omega) h2
    exact ⟨q1, q2, q3⟩
/-- a put on a good disk is done or refused; what it leaves is good, with the same sectors -/
theorem Good.put {n : Nat} {d : Disk} (h : Good n d) (i : Int) (s : Bytes) (he : (put d i s).2 = 0) : Good n (put d i s).1 ∧ (put d i s).1.S = d.S := by
  unfold DiskP.put at he ⊢
  split at he
  · simp at he
  · rename_i h1
    rw [if_neg h1]
    split at he
    · simp at he
    · rename_i h2
      rw [if_neg h2]
      have hs : s.length = 128 * (s.length / 128) := by
        have : ¬ (s.length % 128 != 0) = true := fun h => h1 (by simp [h])
        simp at this
        omega
      have ht : there d i ((s.length / 128 : Nat) : Int) = true := by simpa using h2
      simp only [there, Bool.and_eq_true, decide_eq_true_eq] at ht
      obtain ⟨⟨⟨t1, t2⟩, t3⟩, t4⟩ := ht
      rw [h.len] at t4
      obtain ⟨_, q2, q3⟩ := putGo_good hs t1 (by omega) (s.length / 128) 0 d (by omega) h
      exact ⟨q2, q3⟩
theorem good_new {n : Nat} (h1 : 1 ≤ n) (h2 : n ≤ 4000) : Good n (new n) :=
  ⟨(may_iff _).2 ⟨by simpa [new] using h1, by simpa [new] using h2, by simp [new], by
    intro s hs
    simp only [new, List.mem_replicate] at hs
    rw [hs.2]; simp [noughts], by simp [new]⟩, by simp [new], rfl, rfl⟩

/-- a disk on a budget of n, of which k are spent -/
structure Bud (n k : Nat) (d : Disk) : Prop where
  may : may d = true
  len : d.S.length = 4
  le : k ≤ n
  left : d.left = (n : Int) - k
  dead : d.dead = true → k = n
theorem Bud.alive {n k : Nat} {d : Disk} (h : Bud n k d) (hk : k < n) : DiskP.alive d = true := by
  have h1 : d.dead = false := by
    cases e : d.dead with
    | false => rfl
    | true => have := h.dead e; omega
  have h2 : ¬ d.left = 0 := by have := h.left; omega
  simp [DiskP.alive, h1, h2]
theorem Bud.spent {n k : Nat} {d : Disk} (h : Bud n k d) (hk : k < n) : DiskP.spent d = { d with left := d.left - 1 } := by
  have h1 : d.dead = false := by
    cases e : d.dead with
    | false => rfl
    | true => have := h.dead e; omega
  have h2 : ¬ d.left = 0 := by have := h.left; omega
  have h3 : 0 < d.left := by have := h.left; omega
  simp [DiskP.spent, h1, h2, h3]
theorem Bud.barrier {n k : Nat} {d : Disk} (h : Bud n k d) (hk : k < n) : (DiskP.barrier d).2 = 0 ∧ Bud n (k + 1) (DiskP.barrier d).1 := by
  have hm := (may_iff d).1 h.may
  rw [DiskP.barrier, h.may, h.alive hk, h.spent hk]
  refine ⟨rfl, (may_iff _).2 ⟨?_, ?_, ?_, ?_, by simp⟩, ?_, by omega, ?_, ?_⟩
  · show 1 ≤ (done d).length; rw [done, doneGo_len]; exact hm.1
  · show (done d).length ≤ 4000; rw [done, doneGo_len]; exact hm.2.1
  · show -1 ≤ d.left - 1; have := h.left; omega
  · exact doneGo_size d.W (fun w hw => (hm.2.2.2.2 w hw).2.2) d.S hm.2.2.2.1
  · show (done d).length = 4; rw [done, doneGo_len]; exact h.len
  · show d.left - 1 = (n : Int) - (k + 1 : Nat); have := h.left; omega
  · intro e
    have := h.dead e
    omega
theorem Bud.put {n k : Nat} {d : Disk} (h : Bud n k d) (hk : k < n) {i : Int} (h0 : 0 ≤ i) (h1 : i < 4) {s : Bytes} (hs : s.length = 128) : (DiskP.put d i s).2 = 0 ∧ Bud n (k + 1) (DiskP.put d i s).1 := by
  have hm := (may_iff d).1 h.may
  have ht : there d i ((128 / 128 : Nat) : Int) = true := by
    simp only [there, Bool.and_eq_true, decide_eq_true_eq]
    rw [h.len]
    omega
  rw [DiskP.put, h.may, hs, ht]
  simp only [Bool.true_eq_false, if_false, Bool.false_or, decide_false]
  rw [if_neg (by decide)]
  show (putGo s i 1 0 d).2 = 0 ∧ Bud n (k + 1) (putGo s i 1 0 d).1
  rw [putGo, h.alive hk, if_neg (by simp), h.spent hk, putGo]
  refine ⟨rfl, (may_iff _).2 ⟨hm.1, hm.2.1, ?_, hm.2.2.2.1, fun v hv => ?_⟩, h.len, by omega, ?_, ?_⟩
  · show -1 ≤ d.left - 1; have := h.left; omega
  · have hv' : v ∈ d.W ∨ v = ⟨i + (0 : Nat), sect s 0⟩ := by simpa using hv
    rcases hv' with hv' | hv'
    · exact hm.2.2.2.2 v hv'
    · subst hv'
      refine ⟨by show 0 ≤ i + ((0 : Nat) : Int); omega, by show i + ((0 : Nat) : Int) < (d.S.length : Int); rw [h.len]; omega, sect_len (m := 1) (by omega) (by omega)⟩
  · show d.left - 1 = (n : Int) - (k + 1 : Nat); have := h.left; omega
  · intro e
    have := h.dead e
    omega
end Go.Proofs.YtojincohnjophaaGreatDoor.DiskP

/-! The plain mathematics of layer 18 (log): how many sectors a record has. No program in sight. -/
namespace Go.Proofs.YtojincohnjophaaGreatDoor.LogP
open DiskP (Bytes)

/-- how many sectors a record of n octets has -/
def secs (n : Nat) : Nat := if 4000 < n then 0 else if n ≤ 117 then 1 else 1 + (n - 117 + 127) / 128
theorem secs_zero (n : Nat) : secs n = 0 ↔ 4000 < n := by
  unfold secs
  split
  · simp_all
  · split <;> omega
theorem secs_pos {n : Nat} (h : n ≤ 4000) : 1 ≤ secs n := by
  have h1 : ¬ secs n = 0 := fun e => by have := (secs_zero n).1 e; omega
  omega
theorem secs_le (n : Nat) : secs n ≤ 32 := by
  unfold secs
  split
  · omega
  · split <;> omega

/-- noughts behind octets, n in all -/
def padded (s : Bytes) (n : Nat) : Bytes := s ++ List.replicate (n - s.length) 0
theorem padded_len {s : Bytes} {n : Nat} (h : s.length ≤ n) : (padded s n).length = n := by
  simp [padded]; omega

/-- ahead of a record's octets: its length, and its number -/
def seqB (q : Nat) : Bytes := [UInt8.ofNat (q / 2 ^ 56), UInt8.ofNat (q / 2 ^ 48), UInt8.ofNat (q / 2 ^ 40), UInt8.ofNat (q / 2 ^ 32), UInt8.ofNat (q / 2 ^ 24), UInt8.ofNat (q / 2 ^ 16), UInt8.ofNat (q / 2 ^ 8), UInt8.ofNat q]
def headB (n q : Nat) : Bytes := [UInt8.ofNat (n / 256), UInt8.ofNat n] ++ seqB q
theorem headB_len (n q : Nat) : (headB n q).length = 10 := rfl
/-- the first sector of a record, and its others -/
def firstB (s : Bytes) (q : Nat) : Bytes := padded (headB s.length q ++ s.take 117) 127 ++ [1]
def restB (s : Bytes) : Bytes := padded (s.drop 117) ((secs s.length - 1) * 128)
theorem firstB_len (s : Bytes) (q : Nat) : (firstB s q).length = 128 := by
  rw [firstB, List.length_append, padded_len (by rw [List.length_append, headB_len, List.length_take]; omega)]
  rfl
theorem restB_len {s : Bytes} (h : s.length ≤ 4000) : (restB s).length = (secs s.length - 1) * 128 := by
  refine padded_len ?_
  rw [List.length_drop]
  unfold secs
  rw [if_neg (by omega)]
  split <;> omega
/-- the record of number q at the beginning of octets -/
def recordB (all : Bytes) (q : Nat) : Option Bytes :=
  if all.length < 128 then none
  else
    let n := (all.getD 0 0).toNat * 256 + (all.getD 1 0).toNat
    if secs n = 0 ∨ all.length < (secs n + 1) * 128 then none
    else
      let s := (all.drop 10).take (min n 117) ++ (all.drop 128).take (n - min n 117)
      if firstB s q ++ restB s = all.take (secs n * 128) then some s else none

theorem firstB_cut {s : Bytes} (q : Nat) (h : s.length ≤ 4000) : ((firstB s q).drop 10).take (min s.length 117) = s.take 117 := by
  unfold firstB padded
  rw [List.append_assoc, List.append_assoc, List.drop_append_of_le_length (by rw [headB_len]; omega), List.drop_of_length_le (by rw [headB_len]; omega), List.nil_append]
  rw [List.take_append_of_le_length (by rw [List.length_take]; omega), List.take_take]
  by_cases h1 : s.length ≤ 117
  · rw [List.take_of_length_le (by omega), List.take_of_length_le h1]
  · congr 1
    omega
end Go.Proofs.YtojincohnjophaaGreatDoor.LogP

/-! Plain laws of layer 18 (log), part 1: a record that was laid is read as it was, by its own number alone; what has another last octet is none. No program in sight. -/
namespace Go.Proofs.YtojincohnjophaaGreatDoor.LogP
open DiskP (Bytes)

theorem firstB_head (s : Bytes) (q : Nat) : firstB s q = headB s.length q ++ (s.take 117 ++ List.replicate (127 - (10 + (s.take 117).length)) 0 ++ [1]) := by
  unfold firstB padded
  rw [List.length_append, headB_len]
  simp only [List.append_assoc]
theorem firstB_at0 (s more : Bytes) (q : Nat) (h : s.length ≤ 4000) : ((firstB s q ++ more).getD 0 0).toNat * 256 + ((firstB s q ++ more).getD 1 0).toNat = s.length := by
  rw [firstB_head, headB]
  simp only [List.append_assoc, List.cons_append, List.getD_cons_zero, List.getD_cons_succ, UInt8.toNat_ofNat']
  omega
theorem firstB_last (s more : Bytes) (q : Nat) : (firstB s q ++ more).getD 127 0 = 1 := by
  have h : (padded (headB s.length q ++ s.take 117) 127).length = 127 := padded_len (by rw [List.length_append, headB_len, List.length_take]; omega)
  rw [firstB, List.append_assoc, List.getD_eq_getElem?_getD, List.getElem?_append_right (by omega), h]
  rfl
theorem rest_cut {s more : Bytes} (h : s.length ≤ 4000) : (restB s ++ more).take (s.length - min s.length 117) = s.drop 117 := by
  have h1 := restB_len h
  have h2 : s.length - min s.length 117 ≤ (restB s).length := by
    rw [h1]
    unfold secs
    rw [if_neg (by omega)]
    split <;> omega
  rw [List.take_append_of_le_length h2, restB, padded, List.take_append_of_le_length (by rw [List.length_drop]; omega), List.take_of_length_le (by rw [List.length_drop]; omega)]

/-- what was laid is read -/
theorem record_lay {s more : Bytes} (q : Nat) (h : s.length ≤ 4000) (hm : 128 ≤ more.length) : recordB (firstB s q ++ (restB s ++ more)) q = some s := by
  have hf := firstB_len s q
  have hr := restB_len h
  have hp := secs_pos h
  have hl : (firstB s q ++ (restB s ++ more)).length = 128 + ((secs s.length - 1) * 128 + more.length) := by rw [List.length_append, List.length_append, hf, hr]
  have hmul : (secs s.length + 1) * 128 ≤ (firstB s q ++ (restB s ++ more)).length := by rw [hl]; omega
  unfold recordB
  rw [if_neg (by omega)]
  simp only [firstB_at0 s _ q h]
  rw [if_neg (by omega)]
  have hcut : ((firstB s q ++ (restB s ++ more)).drop 10).take (min s.length 117) ++ ((firstB s q ++ (restB s ++ more)).drop 128).take (s.length - min s.length 117) = s := by
    rw [List.drop_append_of_le_length (by omega), List.take_append_of_le_length (by rw [List.length_drop]; omega), firstB_cut q h]
    rw [show (128 : Nat) = (firstB s q).length from hf.symm, List.drop_left, rest_cut h, List.take_append_drop]
  rw [hcut, if_pos]
  rw [← List.append_assoc, List.take_left' (by rw [List.length_append, hf, hr]; omega)]

/-- what is read was laid -/
theorem record_is {all s : Bytes} {q : Nat} (h : recordB all q = some s) : s.length ≤ 4000 ∧ (secs s.length + 1) * 128 ≤ all.length ∧ ∃ more, all = firstB s q ++ (restB s ++ more) := by
  unfold recordB at h
  split at h
  · cases h
  · rename_i h1
    simp only at h
    split at h
    · cases h
    · rename_i h2
      split at h
      · rename_i h3
        injection h with h
        have hn : secs ((all.getD 0 0).toNat * 256 + (all.getD 1 0).toNat) ≠ 0 := fun e => h2 (.inl e)
        have hn4 : ¬ 4000 < (all.getD 0 0).toNat * 256 + (all.getD 1 0).toNat := fun e => hn ((secs_zero _).2 e)
        have hlen : s.length = (all.getD 0 0).toNat * 256 + (all.getD 1 0).toNat := by
          rw [← h, List.length_append, List.length_take, List.length_take, List.length_drop, List.length_drop]
          have h4 : (secs ((all.getD 0 0).toNat * 256 + (all.getD 1 0).toNat) + 1) * 128 ≤ all.length := by
            rcases Nat.lt_or_ge all.length ((secs ((all.getD 0 0).toNat * 256 + (all.getD 1 0).toNat) + 1) * 128) with h5 | h5
            · exact absurd (.inr h5) h2
            · exact h5
          revert h4
          generalize (all.getD 0 0).toNat * 256 + (all.getD 1 0).toNat = n at hn4
          intro h4
          unfold secs at h4
          rw [if_neg hn4] at h4
          split at h4 <;> omega
        rw [h] at h3
        rw [← hlen] at h2 h3 hn4
        refine ⟨by omega, ?_, all.drop (secs s.length * 128), ?_⟩
        · rcases Nat.lt_or_ge all.length ((secs s.length + 1) * 128) with h5 | h5
          · exact absurd (.inr h5) h2
          · exact h5
        · rw [← List.append_assoc, h3, List.take_append_drop]
      · cases h
theorem record_last {all : Bytes} {q : Nat} (h : all.getD 127 0 ≠ 1) : recordB all q = none := by
  cases e : recordB all q with
  | none => rfl
  | some s =>
    obtain ⟨_, _, more, rfl⟩ := record_is e
    exact absurd (firstB_last s _ q) h
theorem record_short {all : Bytes} {q : Nat} (h : all.length < 128) : recordB all q = none := by
  rw [recordB, if_pos h]

/-! ### What lies in sectors -/

/-- sectors of octets, k in all -/
def chunks (s : Bytes) (k : Nat) : List Bytes := (List.range k).map (DiskP.sect s)
theorem chunks_len (s : Bytes) (k : Nat) : (chunks s k).length = k := by simp [chunks]
theorem chunks_size {s : Bytes} {k : Nat} (h : s.length = 128 * k) : ∀ c ∈ chunks s k, c.length = 128 := by
  intro c hc
  simp only [chunks, List.mem_map, List.mem_range] at hc
  obtain ⟨j, hj, rfl⟩ := hc
  exact DiskP.sect_len h hj
theorem chunks_succ (s : Bytes) (k : Nat) : chunks s (k + 1) = s.take 128 :: chunks (s.drop 128) k := by
  unfold chunks
  rw [List.range_succ_eq_map, List.map_cons, List.map_map]
  refine congr (congrArg List.cons ?_) (List.map_congr_left fun j _ => ?_)
  · simp [DiskP.sect]
  · simp only [Function.comp, DiskP.sect, List.drop_drop]
    congr 2
    omega
theorem chunks_flatten (k : Nat) : ∀ s : Bytes, s.length = 128 * k → (chunks s k).flatten = s := by
  induction k with
  | zero => intro s h; have : s = [] := List.eq_nil_of_length_eq_zero (by omega); subst this; rfl
  | succ k ih =>
    intro s h
    rw [chunks_succ, List.flatten_cons, ih _ (by rw [List.length_drop]; omega), List.take_append_drop]
theorem chunks_append (k m : Nat) : ∀ a b : Bytes, a.length = 128 * k → chunks (a ++ b) (k + m) = chunks a k ++ chunks b m := by
  induction k with
  | zero => intro a b h; have : a = [] := List.eq_nil_of_length_eq_zero (by omega); subst this; simp [chunks]
  | succ k ih =>
    intro a b h
    rw [show k + 1 + m = (k + m) + 1 by omega, chunks_succ, chunks_succ, List.take_append_of_le_length (by omega), List.drop_append_of_le_length (by omega), ih _ _ (by rw [List.length_drop]; omega)]
    rfl
theorem chunks_one {s : Bytes} (h : s.length = 128) : chunks s 1 = [s] := by
  rw [chunks_succ, List.take_of_length_le (by omega)]
  rfl

/-- a record's sectors -/
def recS (s : Bytes) (q : Nat) : List Bytes := firstB s q :: chunks (restB s) (secs s.length - 1)
theorem recS_len {s : Bytes} (q : Nat) (h : s.length ≤ 4000) : (recS s q).length = secs s.length := by
  have := secs_pos h
  rw [recS, List.length_cons, chunks_len]
  omega
theorem recS_flatten {s : Bytes} (q : Nat) (h : s.length ≤ 4000) : (recS s q).flatten = firstB s q ++ restB s := by
  rw [recS, List.flatten_cons, chunks_flatten _ _ (by rw [restB_len h, Nat.mul_comm])]
def sum (l : List Bytes) : Nat := (l.map fun s => secs s.length).sum
theorem sum_nil : sum [] = 0 := rfl
theorem sum_cons (s : Bytes) (l : List Bytes) : sum (s :: l) = secs s.length + sum l := by simp [sum]
theorem sum_append (a b : List Bytes) : sum (a ++ b) = sum a + sum b := by simp [sum]
/-- records one behind the other -/
def layS : Nat → List Bytes → List Bytes
  | _, [] => []
  | q, s :: l => recS s q ++ layS (q + 1) l
def Rec (l : List Bytes) : Prop := ∀ s ∈ l, s.length ≤ 4000
theorem layS_len (l : List Bytes) : ∀ q, Rec l → (layS q l).length = sum l := by
  induction l with
  | nil => intro _ _; rfl
  | cons s l ih =>
    intro q h
    rw [layS, List.length_append, recS_len q (h s (by simp)), ih _ (fun t ht => h t (by simp [ht])), sum_cons]
theorem layS_append (a b : List Bytes) : ∀ q, layS q (a ++ b) = layS q a ++ layS (q + a.length) b := by
  induction a with
  | nil => intro q; rfl
  | cons s a ih =>
    intro q
    rw [List.cons_append, layS, layS, ih, List.append_assoc]
    congr 3
    rw [List.length_cons]
    omega

/-- the sectors l stand at place p -/
def At (S : List Bytes) (p : Nat) (l : List Bytes) : Prop := ∀ j, j < l.length → S[p + j]? = l[j]?
theorem At.nil {S : List Bytes} {p : Nat} : At S p [] := fun j h => by cases h
theorem at_append {S : List Bytes} {p : Nat} {a b : List Bytes} : At S p (a ++ b) ↔ At S p a ∧ At S (p + a.length) b := by
  constructor
  · intro h
    refine ⟨fun j hj => ?_, fun j hj => ?_⟩
    · rw [h j (by rw [List.length_append]; omega), List.getElem?_append_left hj]
    · have := h (a.length + j) (by rw [List.length_append]; omega)
      rw [List.getElem?_append_right (by omega), Nat.add_sub_cancel_left] at this
      rw [← this, Nat.add_assoc]
  · rintro ⟨h1, h2⟩ j hj
    rw [List.length_append] at hj
    by_cases hlt : j < a.length
    · rw [List.getElem?_append_left hlt]; exact h1 j hlt
    · rw [List.getElem?_append_right (by omega), ← h2 (j - a.length) (by omega)]
      congr 1
      omega
theorem At.agree {S T : List Bytes} {p : Nat} {l : List Bytes} (h : At S p l) (ha : ∀ j, p ≤ j → j < p + l.length → T[j]? = S[j]?) : At T p l :=
  fun j hj => by rw [ha _ (by omega) (by omega)]; exact h j hj
theorem At.is {S : List Bytes} {p m : Nat} {l : List Bytes} (h : At S p l) (hm : l.length ≤ m) : (S.drop p).take m = l ++ (S.drop (p + l.length)).take (m - l.length) := by
  have h1 : (S.drop p).take l.length = l := by
    refine List.ext_getElem? fun j => ?_
    by_cases hj : j < l.length
    · rw [List.getElem?_take_of_lt hj, List.getElem?_drop]; exact h j hj
    · rw [List.getElem?_eq_none (by rw [List.length_take]; omega), List.getElem?_eq_none (by omega)]
  have h2 : (S.drop p).take m = (S.drop p).take l.length ++ ((S.drop p).drop l.length).take (m - l.length) := by
    rw [← List.take_add]
    congr 1
    omega
  rw [h2, h1, List.drop_drop]
theorem at_one {S : List Bytes} {p : Nat} {c : Bytes} (h : S[p]? = some c) : At S p [c] := by
  intro j hj
  have : j = 0 := by simp at hj; omega
  subst this
  simpa using h

def Sized (S : List Bytes) : Prop := ∀ s ∈ S, s.length = 128
theorem Sized.flatten_len {S : List Bytes} (h : Sized S) : S.flatten.length = 128 * S.length := by
  induction S with
  | nil => rfl
  | cons s S ih =>
    rw [List.flatten_cons, List.length_append, h s (by simp), ih fun t ht => h t (by simp [ht]), List.length_cons]
    omega
theorem Sized.drop_flatten (k : Nat) : ∀ {S : List Bytes}, Sized S → S.flatten.drop (128 * k) = (S.drop k).flatten := by
  induction k with
  | zero => intro S _; rfl
  | succ k ih =>
    intro S h
    cases S with
    | nil => simp
    | cons s S =>
      have h1 := h s (by simp)
      rw [List.flatten_cons, show 128 * (k + 1) = s.length + 128 * k by omega, ← List.drop_drop, List.drop_left, ih fun t ht => h t (by simp [ht]), List.drop_succ_cons]
theorem Sized.drop {S : List Bytes} (h : Sized S) (k : Nat) : Sized (S.drop k) := fun s hs => h s (List.mem_of_mem_drop hs)
theorem Sized.take {S : List Bytes} (h : Sized S) (k : Nat) : Sized (S.take k) := fun s hs => h s (List.mem_of_mem_take hs)

end Go.Proofs.YtojincohnjophaaGreatDoor.LogP

/-! Plain laws of layer 18 (log), part 2: the functions of a log; what a log has that holds some records, and no other behind them. No program in sight. -/
namespace Go.Proofs.YtojincohnjophaaGreatDoor.LogP
open DiskP (Bytes Disk noughts)

def maxSeq : Nat := 4611686018427387903
structure Log where
  frm : Nat
  len : Nat
  at_ : Nat
  seq : Nat
def zeroL : Log := ⟨0, 0, 0, 0⟩
/-- may a log be on a disk? -/
def okL (d : Disk) (l : Log) : Prop := DiskP.may d = true ∧ l.frm + l.len ≤ d.S.length ∧ 2 ≤ l.len ∧ l.at_ < l.len ∧ 1 ≤ l.seq ∧ l.seq ≤ maxSeq

/-- steps, one behind the other, up to the first one that fails -/
def runP (d : Disk) : List (Disk → Disk × Nat) → Disk × Nat
  | [] => (d, 0)
  | f :: fs => if (f d).2 = 0 then runP (f d).1 fs else f d
def appendP (d : Disk) (l : Log) (s : Bytes) : Disk × Log × Nat :=
  if 4000 < s.length then (DiskP.zero, zeroL, 1)
  else if l.len < secs s.length + 1 + l.at_ then (DiskP.zero, zeroL, 13)
  else
    let r := runP d [fun d => DiskP.put d ((l.frm + l.at_ + 1 : Nat) : Int) (restB s ++ noughts 128), DiskP.barrier, fun d => DiskP.put d ((l.frm + l.at_ : Nat) : Int) (firstB s l.seq), DiskP.barrier]
    if r.2 = 0 then (r.1, ⟨l.frm, l.len, l.at_ + secs s.length, l.seq + 1⟩, 0) else (r.1, zeroL, r.2)
def scanGo (all : Bytes) : Nat → Nat → Nat → List Bytes × Nat × Nat
  | 0, at_, q => ([], at_, q)
  | f + 1, at_, q =>
    if maxSeq < q then ([], at_, q)
    else match recordB (all.drop (128 * at_)) q with
      | none => ([], at_, q)
      | some s => (s :: (scanGo all f (at_ + secs s.length) (q + 1)).1, (scanGo all f (at_ + secs s.length) (q + 1)).2)
def scanP (d : Disk) (l : Log) : List Bytes × Log × Nat :=
  if (DiskP.read d l.frm l.len).2 = 0 then
    ((scanGo (DiskP.read d l.frm l.len).1 l.len l.at_ l.seq).1, ⟨l.frm, l.len, (scanGo (DiskP.read d l.frm l.len).1 l.len l.at_ l.seq).2.1, (scanGo (DiskP.read d l.frm l.len).1 l.len l.at_ l.seq).2.2⟩, 0)
  else ([], zeroL, (DiskP.read d l.frm l.len).2)
def clearP (d : Disk) (l : Log) : Disk × Nat := runP d [fun d => DiskP.put d ((l.frm + l.at_ : Nat) : Int) (noughts 128), DiskP.barrier]

/-- On the sectors S a log that begins at place frm+at0 with number q0, of len sectors, has just these records: behind them stands no record. -/
structure Has (S : List Bytes) (frm len at0 q0 : Nat) (l : List Bytes) : Prop where
  sized : Sized S
  fits : frm + len ≤ S.length
  room : at0 + sum l < len
  recs : Rec l
  holds : At S (frm + at0) (layS q0 l)
  stop : ∀ c, S[frm + at0 + sum l]? = some c → c.getD 127 0 ≠ 1
  seqs : q0 + l.length ≤ maxSeq + 1

theorem scanGo_has {S : List Bytes} {frm len : Nat} (l : List Bytes) : ∀ {at0 q0 f : Nat}, Has S frm len at0 q0 l → len ≤ at0 + f → scanGo ((S.drop frm).take len).flatten f at0 q0 = (l, at0 + sum l, q0 + l.length) := by
  induction l with
  | nil =>
    intro at0 q0 f h hf
    have hr := h.room
    rw [sum_nil] at hr
    cases f with
    | zero => rfl
    | succ f =>
      rw [scanGo]
      split
      · rfl
      · rw [record_last]
        · rfl
        · rw [Sized.drop_flatten at0 ((h.sized.drop frm).take len), List.drop_take, List.drop_drop]
          have hlt : frm + at0 < S.length := by have := h.fits; omega
          have hst := h.stop S[frm + at0] (by rw [sum_nil, Nat.add_zero, List.getElem?_eq_getElem hlt])
          have hsz := h.sized S[frm + at0] (List.getElem_mem hlt)
          rw [List.drop_eq_getElem_cons hlt, show len - at0 = (len - at0 - 1) + 1 by omega, List.take_succ_cons, List.flatten_cons]
          rw [List.getD_eq_getElem?_getD, List.getElem?_append_left (by omega), ← List.getD_eq_getElem?_getD]
          exact hst
  | cons s l ih =>
    intro at0 q0 f h hf
    have hr := h.room
    rw [sum_cons] at hr
    have hs := h.recs s (by simp)
    have hp := secs_pos hs
    have hq := h.seqs
    rw [List.length_cons] at hq
    have hh := h.holds
    rw [layS, at_append, recS_len q0 hs] at hh
    cases f with
    | zero => omega
    | succ f =>
      have hn : Has S frm len (at0 + secs s.length) (q0 + 1) l := ⟨h.sized, h.fits, by omega, fun t ht => h.recs t (by simp [ht]), by rw [← Nat.add_assoc]; exact hh.2, fun c hc => h.stop c (by rw [sum_cons, ← hc]; congr 1; omega), by omega⟩
      rw [scanGo, if_neg (by omega)]
      have hall : (((S.drop frm).take len).flatten.drop (128 * at0)) = firstB s q0 ++ (restB s ++ ((S.drop (frm + at0 + secs s.length)).take (len - at0 - secs s.length)).flatten) := by
        rw [Sized.drop_flatten at0 ((h.sized.drop frm).take len), List.drop_take, List.drop_drop, hh.1.is (m := len - at0) (by rw [recS_len q0 hs]; omega), List.flatten_append, recS_flatten q0 hs, recS_len q0 hs, List.append_assoc]
      rw [hall, record_lay q0 hs]
      · simp only
        rw [ih hn (by omega), sum_cons, List.length_cons]
        refine Prod.ext rfl (Prod.ext ?_ ?_)
        · show at0 + secs s.length + sum l = at0 + (secs s.length + sum l); omega
        · show q0 + 1 + l.length = q0 + (l.length + 1); omega
      · rw [((h.sized.drop _).take _).flatten_len, List.length_take, List.length_drop]
        have := h.fits
        omega
theorem Has.agree {S T : List Bytes} {frm len at0 q0 : Nat} {l : List Bytes} (h : Has S frm len at0 q0 l) (hT : Sized T) (hl : T.length = S.length) (ha : ∀ j, frm + at0 ≤ j → j < frm + at0 + sum l → T[j]? = S[j]?)
    (hst : ∀ c, T[frm + at0 + sum l]? = some c → c.getD 127 0 ≠ 1) : Has T frm len at0 q0 l :=
  ⟨hT, by rw [hl]; exact h.fits, h.room, h.recs, h.holds.agree (by rw [layS_len l q0 h.recs]; exact ha), hst, h.seqs⟩
theorem Has.snoc {S T : List Bytes} {frm len at0 q0 : Nat} {l : List Bytes} {s : Bytes} (h : Has S frm len at0 q0 l) (hT : Sized T) (hl : T.length = S.length) (ha : ∀ j, frm + at0 ≤ j → j < frm + at0 + sum l → T[j]? = S[j]?)
    (hs : s.length ≤ 4000) (hr : at0 + sum l + secs s.length < len) (hq : q0 + l.length ≤ maxSeq) (hat : At T (frm + at0 + sum l) (recS s (q0 + l.length)))
    (hst : ∀ c, T[frm + at0 + sum l + secs s.length]? = some c → c.getD 127 0 ≠ 1) : Has T frm len at0 q0 (l ++ [s]) := by
  have e : sum (l ++ [s]) = sum l + secs s.length := by rw [sum_append, sum_cons, sum_nil, Nat.add_zero]
  refine ⟨hT, by rw [hl]; exact h.fits, by rw [e]; omega, ?_, ?_, ?_, by rw [List.length_append, List.length_singleton]; omega⟩
  · intro t ht
    rcases List.mem_append.1 ht with ht | ht
    · exact h.recs t ht
    · simp only [List.mem_singleton] at ht; subst ht; exact hs
  · rw [layS_append, at_append, layS_len l q0 h.recs]
    refine ⟨h.holds.agree (by rw [layS_len l q0 h.recs]; exact ha), ?_⟩
    rw [layS, layS, List.append_nil]
    exact hat
  · rw [e, ← Nat.add_assoc]
    exact hst
theorem Has.tail {S : List Bytes} {frm len at0 q0 : Nat} {a b : List Bytes} (h : Has S frm len at0 q0 (a ++ b)) : Has S frm len (at0 + sum a) (q0 + a.length) b := by
  have hr := h.room
  have hq := h.seqs
  have ha : Rec a := fun t ht => h.recs t (by simp [ht])
  rw [sum_append] at hr
  rw [List.length_append] at hq
  have hh := h.holds
  rw [layS_append, at_append, layS_len a q0 ha] at hh
  exact ⟨h.sized, h.fits, by omega, fun t ht => h.recs t (by simp [ht]), by rw [← Nat.add_assoc]; exact hh.2, fun c hc => h.stop c (by rw [sum_append, ← hc]; congr 1; omega), by omega⟩
/-- what is cleared behind the first ones -/
theorem Has.cut {S T : List Bytes} {frm len at0 q0 : Nat} {a b : List Bytes} (h : Has S frm len at0 q0 (a ++ b)) (hT : Sized T) (hl : T.length = S.length) (ha : ∀ j, frm + at0 ≤ j → j < frm + at0 + sum a → T[j]? = S[j]?)
    (hst : ∀ c, T[frm + at0 + sum a]? = some c → c.getD 127 0 ≠ 1) : Has T frm len at0 q0 a := by
  have hr := h.room
  have hq := h.seqs
  have har : Rec a := fun t ht => h.recs t (by simp [ht])
  rw [sum_append] at hr
  rw [List.length_append] at hq
  have hh := h.holds
  rw [layS_append, at_append, layS_len a q0 har] at hh
  exact ⟨hT, by rw [hl]; exact h.fits, by omega, har, hh.1.agree (by rw [layS_len a q0 har]; exact ha), hst, by omega⟩
theorem has_none {S : List Bytes} {frm len at0 q0 : Nat} (hS : Sized S) (hf : frm + len ≤ S.length) (h0 : at0 < len) (hq : q0 ≤ maxSeq + 1) (hst : ∀ c, S[frm + at0]? = some c → c.getD 127 0 ≠ 1) : Has S frm len at0 q0 [] :=
  ⟨hS, hf, by rw [sum_nil]; omega, by simp [Rec], At.nil, by rw [sum_nil]; exact hst, by simpa using hq⟩
end Go.Proofs.YtojincohnjophaaGreatDoor.LogP

/-! Plain laws of layers 17 and 18: what writes, barriers and crashes make of a living disk whose budget may run out; what an append makes of the records that a log has. No program in sight. -/
namespace Go.Proofs.YtojincohnjophaaGreatDoor.LogP
open DiskP (Bytes Disk Wr Fate noughts)

/-- a living disk of n sectors, on whatever budget -/
structure Live (n : Nat) (d : Disk) : Prop where
  may : DiskP.may d = true
  len : d.S.length = n
  dead : d.dead = false
theorem Live.sized {n : Nat} {d : Disk} (h : Live n d) : Sized d.S := ((DiskP.may_iff d).1 h.may).2.2.2.1
theorem may_mk {S : List Bytes} {W : List Wr} {lf : Int} {b : Bool} (h1 : 1 ≤ S.length) (h2 : S.length ≤ 4000) (h3 : -1 ≤ lf) (h4 : Sized S) (h5 : ∀ w ∈ W, 0 ≤ w.at_ ∧ w.at_ < S.length ∧ w.s.length = 128) : DiskP.may ⟨S, W, lf, b⟩ = true :=
  (DiskP.may_iff _).2 ⟨h1, h2, h3, h4, h5⟩

def writes : Nat → List Bytes → List Wr
  | _, [] => []
  | i, c :: l => ⟨i, c⟩ :: writes (i + 1) l
theorem writes_mem (l : List Bytes) : ∀ {i : Nat} {w : Wr}, w ∈ writes i l → (i : Int) ≤ w.at_ ∧ w.at_ < ((i + l.length : Nat) : Int) ∧ w.s ∈ l := by
  induction l with
  | nil => intro i w h; cases h
  | cons c l ih =>
    intro i w h
    rw [writes, List.mem_cons] at h
    rw [List.length_cons]
    rcases h with rfl | h
    · exact ⟨Int.le_refl _, by show (i : Int) < _; omega, by simp⟩
    · obtain ⟨h1, h2, h3⟩ := ih h
      exact ⟨by omega, by omega, by simp [h3]⟩
theorem doneGo_append (a b : List Wr) (S : List Bytes) : DiskP.doneGo S (a ++ b) = DiskP.doneGo (DiskP.doneGo S a) b := by
  simp [DiskP.doneGo, List.foldl_append]
theorem doneGo_writes (l : List Bytes) : ∀ (i : Nat) (S : List Bytes), i + l.length ≤ S.length → ∀ p, (DiskP.doneGo S (writes i l))[p]? = if i ≤ p ∧ p < i + l.length then l[p - i]? else S[p]? := by
  induction l with
  | nil => intro i S _ p; rw [if_neg (by simp), writes]; rfl
  | cons c l ih =>
    intro i S h p
    rw [List.length_cons] at h
    rw [writes, show (⟨(i : Int), c⟩ : Wr) :: writes (i + 1) l = [⟨(i : Int), c⟩] ++ writes (i + 1) l from rfl, doneGo_append]
    have e : DiskP.doneGo S [⟨(i : Int), c⟩] = S.set i c := by simp [DiskP.doneGo]
    rw [e, ih _ _ (by rw [List.length_set]; omega), List.length_cons]
    by_cases h1 : i + 1 ≤ p ∧ p < i + 1 + l.length
    · rw [if_pos h1, if_pos (by omega), show p - i = (p - (i + 1)) + 1 by omega, List.getElem?_cons_succ]
    · rw [if_neg h1]
      by_cases h2 : p = i
      · subst h2
        rw [if_pos (by omega), Nat.sub_self, List.getElem?_cons_zero, List.getElem?_set_self (by omega)]
      · rw [if_neg (by omega), List.getElem?_set_ne (fun e => h2 e.symm)]

theorem alive_of {d : Disk} (h : d.dead = false) (hl : d.left ≠ 0) : DiskP.alive d = true := by simp [DiskP.alive, h, hl]
theorem putGo_cases {n m : Nat} {s : Bytes} {i : Nat} (hs : s.length = 128 * m) (hi : i + m ≤ n) : ∀ (k j : Nat) (d : Disk), j + k = m → Live n d →
    (∃ lf, DiskP.putGo s i k j d = (⟨d.S, d.W ++ writes (i + j) ((List.range' j k).map (DiskP.sect s)), lf, false⟩, 0) ∧ -1 ≤ lf ∧ (d.left = -1 → lf = -1)) ∨
    (d.left ≠ -1 ∧ ∃ ws tl lf, DiskP.putGo s i k j d = (⟨d.S, d.W ++ ws, lf, true⟩, 14) ∧ -1 ≤ lf ∧ ws ++ tl = writes (i + j) ((List.range' j k).map (DiskP.sect s))) := by
  intro k
  induction k with
  | zero =>
    intro j d _ h
    have hm := (DiskP.may_iff d).1 h.may
    refine .inl ⟨d.left, ?_, hm.2.2.1, id⟩
    rw [DiskP.putGo]
    simp only [List.range'_zero, List.map_nil, writes, List.append_nil]
    rw [← h.dead]
  | succ k ih =>
    intro j d hj h
    have hm := (DiskP.may_iff d).1 h.may
    rw [DiskP.putGo]
    by_cases h0 : d.left = 0
    · refine .inr ⟨by omega, [], _, d.left, ?_, hm.2.2.1, rfl⟩
      have ha : DiskP.alive d = false := by simp [DiskP.alive, h0]
      rw [if_pos ha, List.append_nil]
      simp [DiskP.spent, h0]
    · have ha := alive_of h.dead h0
      rw [ha, if_neg (by simp)]
      obtain ⟨lf, hsp, hl1, hl2⟩ : ∃ lf, DiskP.spent d = { d with left := lf } ∧ -1 ≤ lf ∧ (d.left = -1 ↔ lf = -1) := by
        by_cases hp : 0 < d.left
        · exact ⟨d.left - 1, by simp [DiskP.spent, h.dead, h0, hp], by omega, by omega⟩
        · refine ⟨d.left, ?_, hm.2.2.1, Iff.rfl⟩
          rw [DiskP.spent, h.dead, if_neg (by simp [h0]), if_neg hp, ← h.dead]
      rw [hsp]
      have hn : Live n ⟨d.S, d.W ++ [⟨(i : Int) + (j : Int), DiskP.sect s j⟩], lf, d.dead⟩ := by
        refine ⟨may_mk hm.1 hm.2.1 hl1 hm.2.2.2.1 fun w hw => ?_, h.len, h.dead⟩
        rcases List.mem_append.1 hw with hw | hw
        · exact hm.2.2.2.2 w hw
        · simp only [List.mem_singleton] at hw
          subst hw
          exact ⟨by show (0 : Int) ≤ (i : Int) + (j : Int); omega, by show (i : Int) + (j : Int) < _; rw [h.len]; omega, DiskP.sect_len hs (by omega)⟩
      have hwr : writes (i + j) ((List.range' j (k + 1)).map (DiskP.sect s)) = ⟨(i : Int) + (j : Int), DiskP.sect s j⟩ :: writes (i + (j + 1)) ((List.range' (j + 1) k).map (DiskP.sect s)) := by
        rw [List.range'_succ, List.map_cons, writes]
        simp only [Int.natCast_add, Nat.add_assoc]
      rcases ih (j + 1) _ (by omega) hn with ⟨lf', q1, q2, q3⟩ | ⟨q0, ws, tl, lf', q1, q2, q3⟩
      · refine .inl ⟨lf', ?_, q2, fun e => q3 (hl2.1 e)⟩
        rw [q1, hwr]
        simp only [List.append_assoc, List.singleton_append]
      · refine .inr ⟨fun e => q0 (hl2.1 e), ⟨(i : Int) + (j : Int), DiskP.sect s j⟩ :: ws, tl, lf', ?_, q2, by rw [hwr, ← q3]; rfl⟩
        rw [q1]
        simp only [List.append_assoc, List.singleton_append]

/-- writes are done, or the power fails and some of them wait -/
theorem put_cases {n : Nat} {d : Disk} (h : Live n d) {s : Bytes} {i k : Nat} (hs : s.length = 128 * k) (hk : 0 < k) (hi : i + k ≤ n) :
    (∃ lf, DiskP.put d i s = (⟨d.S, d.W ++ writes i (chunks s k), lf, false⟩, 0) ∧ -1 ≤ lf ∧ (d.left = -1 → lf = -1)) ∨
    (d.left ≠ -1 ∧ ∃ ws tl lf, DiskP.put d i s = (⟨d.S, d.W ++ ws, lf, true⟩, 14) ∧ -1 ≤ lf ∧ ws ++ tl = writes i (chunks s k)) := by
  have e : DiskP.put d i s = DiskP.putGo s i k 0 d := by
    have h1 : (DiskP.may d = false || s.length == 0 || s.length % 128 != 0) = false := by
      rw [h.may, hs]
      simp
      omega
    have h2 : s.length / 128 = k := by omega
    have h3 : DiskP.there d i (k : Int) = true := by
      simp only [DiskP.there, Bool.and_eq_true, decide_eq_true_eq]
      rw [h.len]
      omega
    rw [DiskP.put, h1, h2, h3]
    rfl
  rw [e, chunks, List.range_eq_range']
  exact putGo_cases hs hi k 0 d (by omega) h
theorem barrier_cases {n : Nat} {d : Disk} (h : Live n d) :
    (∃ lf, DiskP.barrier d = (⟨DiskP.done d, [], lf, false⟩, 0) ∧ -1 ≤ lf ∧ (d.left = -1 → lf = -1)) ∨ (d.left ≠ -1 ∧ DiskP.barrier d = (⟨d.S, d.W, d.left, true⟩, 14)) := by
  have hm := (DiskP.may_iff d).1 h.may
  rw [DiskP.barrier, h.may]
  by_cases h0 : d.left = 0
  · refine .inr ⟨by omega, ?_⟩
    have ha : DiskP.alive d = false := by simp [DiskP.alive, h0]
    rw [if_neg (by simp), if_pos ha]
    simp [DiskP.spent, h0]
  · have ha := alive_of h.dead h0
    rw [if_neg (by simp), ha, if_neg (by simp)]
    by_cases hp : 0 < d.left
    · exact .inl ⟨d.left - 1, by simp [DiskP.spent, h.dead, h0, hp], by omega, by omega⟩
    · exact .inl ⟨d.left, by simp [DiskP.spent, h.dead, h0, hp], hm.2.2.1, id⟩
theorem Live.put {n : Nat} {d : Disk} (h : Live n d) {ws : List Wr} {lf : Int} (hl : -1 ≤ lf) (hw : ∀ w ∈ ws, 0 ≤ w.at_ ∧ w.at_ < (n : Int) ∧ w.s.length = 128) (b : Bool) : DiskP.may ⟨d.S, d.W ++ ws, lf, b⟩ = true := by
  have hm := (DiskP.may_iff d).1 h.may
  refine may_mk hm.1 hm.2.1 hl hm.2.2.2.1 fun w hx => ?_
  rcases List.mem_append.1 hx with hx | hx
  · exact hm.2.2.2.2 w hx
  · rw [h.len]; exact hw w hx
theorem writes_ok {i k : Nat} {s : Bytes} (hs : s.length = 128 * k) {ws tl : List Wr} (h : ws ++ tl = writes i (chunks s k)) : ∀ w ∈ ws, (i : Int) ≤ w.at_ ∧ w.at_ < ((i + k : Nat) : Int) ∧ w.s.length = 128 := by
  intro w hw
  obtain ⟨h1, h2, h3⟩ := writes_mem (chunks s k) (i := i) (w := w) (by rw [← h]; simp [hw])
  rw [chunks_len] at h2
  exact ⟨h1, h2, chunks_size hs _ h3⟩
theorem Live.done_sized {n : Nat} {d : Disk} (h : Live n d) : Sized (DiskP.done d) :=
  DiskP.doneGo_size d.W (fun w hw => (((DiskP.may_iff d).1 h.may).2.2.2.2 w hw).2.2) d.S h.sized
theorem Live.done_len {n : Nat} {d : Disk} (h : Live n d) : (DiskP.done d).length = n := by rw [DiskP.done, DiskP.doneGo_len, h.len]
theorem Live.barrier {n : Nat} {d : Disk} (h : Live n d) {lf : Int} (hl : -1 ≤ lf) : Live n ⟨DiskP.done d, [], lf, false⟩ := by
  have hm := (DiskP.may_iff d).1 h.may
  have e := h.done_len
  have e2 := h.len
  exact ⟨may_mk (by rw [e]; omega) (by rw [e]; omega) hl h.done_sized (by simp), e, rfl⟩

/-- a crash leaves the places to which nothing waits -/
theorem crashGo_ne (f : Fate) (ws : List Wr) : ∀ (i : Nat) (l : List Bytes) (p : Nat), (∀ w ∈ ws, w.at_.toNat ≠ p) → (DiskP.crashGo f i ws l)[p]? = l[p]? := by
  induction ws with
  | nil => intro i l p _; rfl
  | cons w ws ih =>
    intro i l p h
    rw [DiskP.crashGo, ih _ _ _ fun v hv => h v (by simp [hv]), List.getElem?_set_ne (h w (by simp))]
theorem kept_le (f : Fate) (i : Nat) : DiskP.kept f i ≤ 128 := by
  unfold DiskP.kept
  split
  · omega
  · split <;> omega
/-- what a crash leaves of a disk that may be -/
theorem crash_may {d : Disk} (f : Fate) (h : DiskP.may d = true) : Sized (DiskP.crash d f).S ∧ (DiskP.crash d f).S.length = d.S.length ∧ DiskP.crash d f = ⟨DiskP.crashGo f 0 d.W d.S, [], -1, false⟩ ∧ Live d.S.length (DiskP.crash d f) := by
  have hm := (DiskP.may_iff d).1 h
  have e : DiskP.crash d f = ⟨DiskP.crashGo f 0 d.W d.S, [], -1, false⟩ := by rw [DiskP.crash, h]; rfl
  have hs := (DiskP.crashGo_from f d.W 0 d.S hm.2.2.2.2 hm.2.2.2.1).1
  have hl := DiskP.crashGo_len f d.W 0 d.S
  rw [e]
  exact ⟨hs, hl, rfl, may_mk (by rw [hl]; exact hm.1) (by rw [hl]; exact hm.2.1) (by omega) hs (by simp), hl, rfl⟩

/-! ### An append -/

theorem noughts_len (n : Nat) : (noughts n).length = n := List.length_replicate
theorem rest_chunks {s : Bytes} (h : s.length ≤ 4000) : chunks (restB s ++ noughts 128) (secs s.length) = chunks (restB s) (secs s.length - 1) ++ [noughts 128] := by
  have hp := secs_pos h
  have := chunks_append (secs s.length - 1) 1 (restB s) (noughts 128) (by rw [restB_len h, Nat.mul_comm])
  rw [chunks_one (noughts_len 128), show secs s.length - 1 + 1 = secs s.length by omega] at this
  exact this
inductive Appended (d : Disk) (l : Log) (s : Bytes) : Disk → Log → Nat → Prop
  /-- all is done -/
  | ok (S' : List Bytes) (lf : Int) : -1 ≤ lf → (d.left = -1 → lf = -1) → Sized S' → S'.length = d.S.length → (∀ p, p < l.frm + l.at_ ∨ l.frm + l.at_ + secs s.length < p → S'[p]? = d.S[p]?) →
      At S' (l.frm + l.at_) (recS s l.seq) → S'[l.frm + l.at_ + secs s.length]? = some (noughts 128) → Appended d l s ⟨S', [], lf, false⟩ ⟨l.frm, l.len, l.at_ + secs s.length, l.seq + 1⟩ 0
  /-- the power fails while what is behind the first sector waits -/
  | early (ws : List Wr) (lf : Int) : d.left ≠ -1 → -1 ≤ lf → (∀ w ∈ ws, ((l.frm + l.at_ + 1 : Nat) : Int) ≤ w.at_ ∧ w.at_ < ((l.frm + l.at_ + 1 + secs s.length : Nat) : Int) ∧ w.s.length = 128) → Appended d l s ⟨d.S, ws, lf, true⟩ zeroL 14
  /-- the power fails while the first sector waits, or ahead of it -/
  | late (S1 : List Bytes) (ws : List Wr) (lf : Int) : d.left ≠ -1 → -1 ≤ lf → Sized S1 → S1.length = d.S.length → (∀ p, p < l.frm + l.at_ + 1 ∨ l.frm + l.at_ + secs s.length < p → S1[p]? = d.S[p]?) →
      At S1 (l.frm + l.at_ + 1) (chunks (restB s) (secs s.length - 1)) → S1[l.frm + l.at_ + secs s.length]? = some (noughts 128) → (ws = [] ∨ ws = [⟨((l.frm + l.at_ : Nat) : Int), firstB s l.seq⟩]) → Appended d l s ⟨S1, ws, lf, true⟩ zeroL 14

theorem runP_ok {d d' : Disk} {f : Disk → Disk × Nat} {fs : List (Disk → Disk × Nat)} (h : f d = (d', 0)) : runP d (f :: fs) = runP d' fs := by
  rw [runP, h, if_pos rfl]
theorem runP_no {d d' : Disk} {e : Nat} {f : Disk → Disk × Nat} {fs : List (Disk → Disk × Nat)} (h : f d = (d', e)) (he : e ≠ 0) : runP d (f :: fs) = (d', e) := by
  rw [runP, h, if_neg he]
theorem append_cases {n : Nat} {d : Disk} {l : Log} {s : Bytes} (h : Live n d) (hW : d.W = []) (hok : okL d l) (hs : s.length ≤ 4000) (hr : secs s.length + 1 + l.at_ ≤ l.len) :
    ∃ d' l' e, appendP d l s = (d', l', e) ∧ Appended d l s d' l' e ∧ DiskP.may d' = true := by
  obtain ⟨_, hfit, _, _, _, _⟩ := hok
  rw [h.len] at hfit
  have hp := secs_pos hs
  have hlen : (restB s ++ noughts 128).length = 128 * secs s.length := by
    rw [List.length_append, restB_len hs, noughts_len]
    omega
  have hm := (DiskP.may_iff d).1 h.may
  obtain ⟨a, ha⟩ : ∃ a, a = l.frm + l.at_ := ⟨_, rfl⟩
  have key : ∃ d' e, runP d [fun d => DiskP.put d ((a + 1 : Nat) : Int) (restB s ++ noughts 128), DiskP.barrier, fun d => DiskP.put d ((a : Nat) : Int) (firstB s l.seq), DiskP.barrier] = (d', e) ∧
      Appended d l s d' (if e = 0 then ⟨l.frm, l.len, l.at_ + secs s.length, l.seq + 1⟩ else zeroL) e ∧ DiskP.may d' = true := by
    rcases put_cases h (i := a + 1) hlen (by omega) (by omega) with ⟨lf, e1, l1, l1'⟩ | ⟨l0, ws, tl, lf, e1, l1, hws⟩
    · rw [hW, List.nil_append] at e1
      have hv : Live n ⟨d.S, writes (a + 1) (chunks (restB s ++ noughts 128) (secs s.length)), lf, false⟩ := by
        have := h.put (ws := writes (a + 1) (chunks (restB s ++ noughts 128) (secs s.length))) l1 (fun w hw => by
          obtain ⟨q1, q2, q3⟩ := writes_ok (tl := []) hlen (by rw [List.append_nil]) w hw
          exact ⟨by omega, by omega, q3⟩) false
        rw [hW, List.nil_append] at this
        exact ⟨this, h.len, rfl⟩
      rcases barrier_cases hv with ⟨lf2, e2, l2, l2'⟩ | ⟨l0, e2⟩
      · have hv2 := hv.barrier l2
        have hget : ∀ p, (DiskP.done ⟨d.S, writes (a + 1) (chunks (restB s ++ noughts 128) (secs s.length)), lf, false⟩)[p]? = if a + 1 ≤ p ∧ p < a + 1 + secs s.length then (chunks (restB s ++ noughts 128) (secs s.length))[p - (a + 1)]? else d.S[p]? := by
          intro p
          have := doneGo_writes (chunks (restB s ++ noughts 128) (secs s.length)) (a + 1) d.S (by rw [chunks_len, h.len]; omega) p
          rw [chunks_len] at this
          exact this
        obtain ⟨S1, hS1⟩ : ∃ S1, S1 = DiskP.done ⟨d.S, writes (a + 1) (chunks (restB s ++ noughts 128) (secs s.length)), lf, false⟩ := ⟨_, rfl⟩
        rw [← hS1] at hget hv2 e2
        have hS1len : S1.length = n := hv2.len
        have hout : ∀ p, p < a + 1 ∨ a + secs s.length < p → S1[p]? = d.S[p]? := fun p hp' => by rw [hget, if_neg (by omega)]
        have hAt : At S1 (a + 1) (chunks (restB s) (secs s.length - 1)) := by
          intro j hj
          rw [chunks_len] at hj
          rw [hget, if_pos (by omega), rest_chunks hs, Nat.add_sub_cancel_left, List.getElem?_append_left (by rw [chunks_len]; exact hj)]
        have hZ : S1[a + secs s.length]? = some (noughts 128) := by
          rw [hget, if_pos (by omega), rest_chunks hs, List.getElem?_append_right (by rw [chunks_len]; omega), chunks_len, show a + secs s.length - (a + 1) - (secs s.length - 1) = 0 by omega]
          rfl
        rcases put_cases hv2 (i := a) (s := firstB s l.seq) (k := 1) (by rw [firstB_len]) (by omega) (by omega) with ⟨lf3, e3, l3, l3'⟩ | ⟨l0, ws, tl, lf3, e3, l3, hws⟩
        · rw [List.nil_append, chunks_one (firstB_len s l.seq)] at e3
          have hv3 : Live n ⟨S1, [⟨(a : Int), firstB s l.seq⟩], lf3, false⟩ := by
            have := hv2.put (ws := [⟨(a : Int), firstB s l.seq⟩]) l3 (fun w hw => by
              simp only [List.mem_singleton] at hw; subst hw
              exact ⟨by show (0 : Int) ≤ (a : Int); omega, by show (a : Int) < (n : Int); omega, firstB_len s l.seq⟩) false
            exact ⟨this, hv2.len, rfl⟩
          rcases barrier_cases hv3 with ⟨lf4, e4, l4, l4'⟩ | ⟨l0, e4⟩
          · have hv4 := hv3.barrier l4
            refine ⟨_, _, (runP_ok e1).trans ((runP_ok e2).trans ((runP_ok e3).trans ((runP_ok e4).trans rfl))), ?_, hv4.may⟩
            have hget4 : ∀ p, (DiskP.done ⟨S1, [⟨(a : Int), firstB s l.seq⟩], lf3, false⟩)[p]? = if a ≤ p ∧ p < a + 1 then [firstB s l.seq][p - a]? else S1[p]? :=
              doneGo_writes [firstB s l.seq] a S1 (by rw [hS1len]; simp; omega)
            rw [if_pos rfl]
            refine Appended.ok _ _ l4 (fun e => l4' (l3' (l2' (l1' e)))) hv4.sized (by rw [hv4.len, h.len]) (fun p hp' => ?_) ?_ ?_
            · rw [← ha] at hp'
              rw [hget4, if_neg (by omega), hout p (by omega)]
            · rw [← ha, recS, show firstB s l.seq :: chunks (restB s) (secs s.length - 1) = [firstB s l.seq] ++ chunks (restB s) (secs s.length - 1) from rfl, at_append]
              refine ⟨at_one ?_, hAt.agree fun j hj _ => ?_⟩
              · rw [hget4, if_pos (by omega), Nat.sub_self]; rfl
              · rw [hget4, if_neg (by omega)]
            · rw [← ha, hget4, if_neg (by omega)]; exact hZ
          · refine ⟨_, _, (runP_ok e1).trans ((runP_ok e2).trans ((runP_ok e3).trans (runP_no e4 (by decide)))), ?_, ?_⟩
            · rw [if_neg (by decide)]
              exact Appended.late _ _ _ (fun e => l0 (l3' (l2' (l1' e)))) l3 hv2.sized (by rw [hS1len, h.len]) (by rw [← ha]; exact hout) (by rw [← ha]; exact hAt) (by rw [← ha]; exact hZ) (.inr (by rw [ha]))
            · have := (DiskP.may_iff _).1 hv3.may
              exact may_mk this.1 this.2.1 this.2.2.1 this.2.2.2.1 this.2.2.2.2
        · rw [List.nil_append] at e3
          refine ⟨_, _, (runP_ok e1).trans ((runP_ok e2).trans (runP_no e3 (by decide))), ?_, ?_⟩
          · rw [if_neg (by decide)]
            refine Appended.late _ _ _ (fun e => l0 (l2' (l1' e))) l3 hv2.sized (by rw [hS1len, h.len]) (by rw [← ha]; exact hout) (by rw [← ha]; exact hAt) (by rw [← ha]; exact hZ) ?_
            rw [chunks_one (firstB_len s l.seq), show writes a [firstB s l.seq] = [⟨(a : Int), firstB s l.seq⟩] from rfl] at hws
            rw [← ha]
            cases ws with
            | nil => exact .inl rfl
            | cons w ws =>
              rw [List.cons_append, List.cons.injEq] at hws
              have := List.append_eq_nil_iff.1 hws.2
              rw [this.1, hws.1]
              exact .inr rfl
          · have := hv2.put (ws := ws) l3 (fun w hw => by
              obtain ⟨q1, q2, q3⟩ := writes_ok (k := 1) (by rw [firstB_len]) hws w hw
              exact ⟨by omega, by omega, q3⟩) true
            exact this
      · refine ⟨_, _, (runP_ok e1).trans (runP_no e2 (by decide)), ?_, ?_⟩
        · rw [if_neg (by decide)]
          refine Appended.early _ _ (fun e => l0 (l1' e)) l1 fun w hw => ?_
          obtain ⟨q1, q2, q3⟩ := writes_ok (tl := []) hlen (by rw [List.append_nil]) w hw
          rw [← ha]
          exact ⟨q1, q2, q3⟩
        · have := (DiskP.may_iff _).1 hv.may
          exact may_mk this.1 this.2.1 this.2.2.1 this.2.2.2.1 this.2.2.2.2
    · rw [hW, List.nil_append] at e1
      refine ⟨_, _, runP_no e1 (by decide), ?_, ?_⟩
      · rw [if_neg (by decide)]
        refine Appended.early _ _ l0 l1 fun w hw => ?_
        obtain ⟨q1, q2, q3⟩ := writes_ok hlen hws w hw
        rw [← ha]
        exact ⟨q1, q2, q3⟩
      · have := h.put (ws := ws) l1 (fun w hw => by
          obtain ⟨q1, q2, q3⟩ := writes_ok hlen hws w hw
          exact ⟨by omega, by omega, q3⟩) true
        rw [hW, List.nil_append] at this
        exact this
  obtain ⟨d', e, h1, h2, h3⟩ := key
  refine ⟨d', _, e, ?_, h2, h3⟩
  rw [appendP, if_neg (by omega), if_neg (by omega)]
  simp only [← ha, h1]
  by_cases he : e = 0
  · rw [if_pos he, if_pos he, he]
  · rw [if_neg he, if_neg he]
end Go.Proofs.YtojincohnjophaaGreatDoor.LogP

/-! What a log holds behind an append, and behind a crash: plain laws. -/
namespace Go.Proofs.YtojincohnjophaaGreatDoor.LogP
open DiskP (Bytes Disk Wr Fate noughts)

/-- a quiet, living disk whose log holds just these records, and the log that stands at their end -/
structure Holds (n : Nat) (d : Disk) (frm len at0 q0 : Nat) (recs : List Bytes) (l : Log) : Prop where
  live : Live n d
  quiet : d.W = []
  has : Has d.S frm len at0 q0 recs
  log : l = ⟨frm, len, at0 + sum recs, q0 + recs.length⟩
  q1 : 1 ≤ q0
  len2 : 2 ≤ len

section
variable {n frm len at0 q0 : Nat} {d : Disk} {recs : List Bytes} {l : Log}
theorem Holds.okL (h : Holds n d frm len at0 q0 recs l) (hq : q0 + recs.length ≤ maxSeq) : okL d l := by
  rw [h.log]
  exact ⟨h.live.may, h.has.fits, h.len2, h.has.room, by show 1 ≤ q0 + recs.length; have := h.q1; omega, hq⟩
theorem Holds.ok0 (h : Holds n d frm len at0 q0 recs l) (hq : q0 ≤ maxSeq) : LogP.okL d ⟨frm, len, at0, q0⟩ :=
  ⟨h.live.may, h.has.fits, h.len2, by have := h.has.room; show at0 < len; omega, h.q1, hq⟩
theorem read_quiet (hl : Live n d) (hW : d.W = []) (hf : frm + len ≤ d.S.length) (h2 : 2 ≤ len) : DiskP.read d frm len = (((d.S.drop frm).take len).flatten, 0) := by
  have ht : DiskP.there d (frm : Int) (len : Int) = true := by
    simp only [DiskP.there, Bool.and_eq_true, decide_eq_true_eq]
    omega
  rw [DiskP.read]
  simp [hl.may, hl.dead, ht, DiskP.done, hW, DiskP.doneGo]
theorem Holds.scan (h : Holds n d frm len at0 q0 recs l) : scanP d ⟨frm, len, at0, q0⟩ = (recs, l, 0) := by
  have e := read_quiet h.live h.quiet h.has.fits h.len2
  rw [scanP]
  simp only
  rw [e, if_pos rfl, scanGo_has recs h.has (by omega), h.log]

/-- what a crash leaves where no write waits -/
theorem Holds.crash (h : Holds n d frm len at0 q0 recs l) (f : Fate) : Holds n (DiskP.crash d f) frm len at0 q0 recs l := by
  have e := DiskP.crash_quiet f h.live.may h.quiet
  have hl := (crash_may f h.live.may).2.2.2
  rw [h.live.len] at hl
  exact ⟨hl, by rw [e], by rw [e]; exact h.has, h.log, h.q1, h.len2⟩

theorem noughts_last {c : Bytes} (h : c = noughts 128) : c.getD 127 0 ≠ 1 := by rw [h]; decide

/-- an append to such a log -/
theorem Holds.append (h : Holds n d frm len at0 q0 recs l) (hq : q0 + recs.length ≤ maxSeq) (s : Bytes) :
    (4000 < s.length ∧ appendP d l s = (DiskP.zero, zeroL, 1)) ∨
    (s.length ≤ 4000 ∧ ¬ at0 + sum recs + secs s.length < len ∧ appendP d l s = (DiskP.zero, zeroL, 13)) ∨
    (s.length ≤ 4000 ∧ at0 + sum recs + secs s.length < len ∧ ∃ d' l' e, appendP d l s = (d', l', e) ∧
      ((e = 0 ∧ Holds n d' frm len at0 q0 (recs ++ [s]) l' ∧ (d.left = -1 → d'.left = -1)) ∨
       (e = 14 ∧ d.left ≠ -1 ∧ l' = zeroL ∧ DiskP.may d' = true ∧ ∀ f : Fate, Holds n (DiskP.crash d' f) frm len at0 q0 recs l ∨ Holds n (DiskP.crash d' f) frm len at0 q0 (recs ++ [s]) ⟨frm, len, at0 + sum recs + secs s.length, q0 + recs.length + 1⟩))) := by
  by_cases hs : 4000 < s.length
  · exact .inl ⟨hs, by rw [appendP, if_pos hs]⟩
  by_cases hr : at0 + sum recs + secs s.length < len
  · refine .inr (.inr ⟨by omega, hr, ?_⟩)
    have hok := h.okL hq
    have hl := h.log
    subst hl
    obtain ⟨d', l', e, he, hA, hm'⟩ := append_cases (s := s) h.live h.quiet hok (by omega) (by show secs s.length + 1 + (at0 + sum recs) ≤ len; omega)
    refine ⟨d', l', e, he, ?_⟩
    have hsum : sum (recs ++ [s]) = sum recs + secs s.length := by rw [sum_append, sum_cons, sum_nil, Nat.add_zero]
    have hln := h.live.len
    have hfit := h.has.fits
    have hsz := h.live.sized
    have hend : ∀ S', Has S' frm len at0 q0 (recs ++ [s]) → (⟨frm, len, at0 + sum recs + secs s.length, q0 + recs.length + 1⟩ : Log) = ⟨frm, len, at0 + sum (recs ++ [s]), q0 + (recs ++ [s]).length⟩ := fun _ _ => by
      rw [hsum, List.length_append, List.length_singleton]; simp only [Log.mk.injEq, true_and]; omega
    cases hA with
    | ok S' lf h1 h2 h3 h4 h5 h6 h7 =>
      simp only at h5 h6 h7
      have hH : Has S' frm len at0 q0 (recs ++ [s]) := h.has.snoc h3 h4 (fun j j1 j2 => h5 j (.inl (by omega))) (by omega) hr hq (by rw [Nat.add_assoc]; exact h6) (fun c hc => noughts_last (by
        rw [Nat.add_assoc frm at0 (sum recs)] at hc
        rw [h7] at hc; exact (Option.some.inj hc).symm))
      exact .inl ⟨rfl, ⟨⟨may_mk (by rw [h4]; exact ((DiskP.may_iff d).1 h.live.may).1) (by rw [h4]; exact ((DiskP.may_iff d).1 h.live.may).2.1) h1 h3 (fun w hw => by cases hw), by rw [← hln, ← h4], rfl⟩, rfl, hH, hend S' hH, h.q1, h.len2⟩, h2⟩
    | early ws lf h1 h2 h3 =>
      simp only at h3
      refine .inr ⟨rfl, h1, rfl, hm', fun f => .inl ?_⟩
      obtain ⟨c1, c2, c3, c4⟩ := crash_may f hm'
      have hS : (DiskP.crash ⟨d.S, ws, lf, true⟩ f).S = DiskP.crashGo f 0 ws d.S := by rw [c3]
      have far : ∀ p, p ≤ frm + at0 + sum recs → (DiskP.crash ⟨d.S, ws, lf, true⟩ f).S[p]? = d.S[p]? := fun p hp => by
        rw [hS]
        exact crashGo_ne f ws 0 d.S p fun w hw => by have := (h3 w hw).1; omega
      have c4' : Live n (DiskP.crash ⟨d.S, ws, lf, true⟩ f) := by rw [← hln]; exact c4
      exact ⟨c4', by rw [c3], h.has.agree c1 c2 (fun j j1 j2 => far j (by omega)) (fun c hc => h.has.stop c (by rw [← far _ (Nat.le_refl _)]; exact hc)), rfl, h.q1, h.len2⟩
    | late S1 ws lf h1 h2 h3 h4 h5 h6 h7 h8 =>
      simp only at h5 h6 h7 h8
      refine .inr ⟨rfl, h1, rfl, hm', fun f => ?_⟩
      obtain ⟨c1, c2, c3, c4⟩ := crash_may f hm'
      simp only at c2 c4
      have c4' : Live n (DiskP.crash ⟨S1, ws, lf, true⟩ f) := by rw [← hln, ← h4]; exact c4
      have hS : (DiskP.crash ⟨S1, ws, lf, true⟩ f).S = DiskP.crashGo f 0 ws S1 := by rw [c3]
      have hWq : (DiskP.crash ⟨S1, ws, lf, true⟩ f).W = [] := by rw [c3]
      generalize DiskP.crash ⟨S1, ws, lf, true⟩ f = D at c1 c2 c4' hS hWq ⊢
      have c2' : D.S.length = d.S.length := c2.trans h4
      rcases h8 with rfl | rfl
      · rw [DiskP.crashGo] at hS
        refine .inl ⟨c4', hWq, h.has.agree c1 c2' (fun j j1 j2 => by rw [hS]; exact h5 j (.inl (by omega))) (fun c hc => h.has.stop c (by rw [← h5 _ (.inl (by omega)), ← hS]; exact hc)), rfl, h.q1, h.len2⟩
      · have hp : ((frm + (at0 + sum recs) : Nat) : Int).toNat = frm + (at0 + sum recs) := Int.toNat_natCast _
        rw [DiskP.crashGo, DiskP.crashGo] at hS
        simp only [hp] at hS
        have hin : frm + (at0 + sum recs) < S1.length := by rw [h4]; omega
        have hother : ∀ p, p ≠ frm + (at0 + sum recs) → D.S[p]? = S1[p]? := fun p hpn => by rw [hS, List.getElem?_set_ne (Ne.symm hpn)]
        have hat : D.S[frm + (at0 + sum recs)]? = some ((firstB s (q0 + recs.length)).take (DiskP.kept f 0) ++ (S1.getD (frm + (at0 + sum recs)) []).drop (DiskP.kept f 0)) := by
          rw [hS, List.getElem?_set_self hin]
        by_cases hk : DiskP.kept f 0 = 128
        · refine .inr ?_
          have hfull : D.S[frm + (at0 + sum recs)]? = some (firstB s (q0 + recs.length)) := by
            rw [hat, hk, List.take_of_length_le (by rw [firstB_len]; omega), List.drop_of_length_le (by
              rw [List.getD_eq_getElem?_getD, List.getElem?_eq_getElem hin, Option.getD_some, h3 _ (List.getElem_mem hin)]; omega), List.append_nil]
          have hsp := secs_pos (show s.length ≤ 4000 by omega)
          have hH : Has D.S frm len at0 q0 (recs ++ [s]) := h.has.snoc c1 c2' (fun j j1 j2 => by rw [hother j (by omega)]; exact h5 j (.inl (by omega))) (by omega) hr hq (by
              intro j hj
              rw [recS_len _ (by omega)] at hj
              cases j with
              | zero => rw [recS, Nat.add_zero, Nat.add_assoc]; exact hfull
              | succ j =>
                rw [hother _ (by omega), recS, List.getElem?_cons_succ, ← h6 j (by rw [chunks_len]; omega)]
                congr 1; omega) (fun c hc => noughts_last (by
              rw [hother _ (by omega), Nat.add_assoc frm at0 (sum recs), h7] at hc
              exact (Option.some.inj hc).symm))
          exact ⟨c4', hWq, hH, hend D.S hH, h.q1, h.len2⟩
        · have hlt : DiskP.kept f 0 < 128 := by have := kept_le f 0; omega
          refine .inl ⟨c4', hWq, h.has.agree c1 c2' (fun j j1 j2 => by rw [hother j (by omega)]; exact h5 j (.inl (by omega))) (fun c hc => ?_), rfl, h.q1, h.len2⟩
          rw [Nat.add_assoc, hat] at hc
          have hc' := (Option.some.inj hc).symm
          have hold : S1[frm + (at0 + sum recs)]? = d.S[frm + (at0 + sum recs)]? := h5 _ (.inl (by omega))
          have hget : d.S[frm + (at0 + sum recs)]? = some (S1.getD (frm + (at0 + sum recs)) []) := by
            rw [← hold, List.getD_eq_getElem?_getD, List.getElem?_eq_getElem hin, Option.getD_some]
          have hstop := h.has.stop _ (by rw [Nat.add_assoc]; exact hget)
          have hlast : c.getD 127 0 = (S1.getD (frm + (at0 + sum recs)) []).getD 127 0 := by
            rw [hc', List.getD_eq_getElem?_getD, List.getElem?_append_right (by rw [List.length_take]; omega), List.length_take, firstB_len, Nat.min_eq_left (by omega), List.getElem?_drop, show DiskP.kept f 0 + (127 - DiskP.kept f 0) = 127 by omega, List.getD_eq_getElem?_getD, List.getD_eq_getElem?_getD]
          rw [hlast]; exact hstop
  · refine .inr (.inl ⟨by omega, hr, ?_⟩)
    rw [appendP, if_neg hs, h.log, if_pos (by show len < secs s.length + 1 + (at0 + sum recs); omega)]

/-- a log that is cleared behind its first records -/
theorem Holds.clear {a b : List Bytes} (h : Holds n d frm len at0 q0 (a ++ b) l) (hl : d.left = -1) :
    ∃ d', clearP d ⟨frm, len, at0 + sum a, q0 + a.length⟩ = (d', 0) ∧ Holds n d' frm len at0 q0 a ⟨frm, len, at0 + sum a, q0 + a.length⟩ ∧ d'.left = -1 := by
  have hr := h.has.room
  have hfit := h.has.fits
  rw [sum_append] at hr
  have hln := h.live.len
  have h128 : (noughts 128).length = 128 * 1 := by rw [noughts_len]
  rcases put_cases h.live h128 (Nat.one_pos) (i := frm + (at0 + sum a)) (by omega) with ⟨lf, e1, l1, l2⟩ | ⟨hne, _⟩
  · have hL : Live n ⟨d.S, d.W ++ writes (frm + (at0 + sum a)) (chunks (noughts 128) 1), lf, false⟩ :=
      ⟨h.live.put l1 (fun w hw => by
        obtain ⟨q1, q2, q3⟩ := writes_ok (tl := []) h128 (by rw [List.append_nil]) w hw
        exact ⟨by omega, by omega, q3⟩) false, hln, rfl⟩
    rcases barrier_cases hL with ⟨lf', e2, l3, l4⟩ | ⟨hne, _⟩
    · have hlf' : lf' = -1 := l4 (l2 hl)
      subst hlf'
      refine ⟨_, by rw [clearP, runP_ok e1, runP_ok e2]; rfl, ⟨hL.barrier l3, rfl, ?_, rfl, h.q1, h.len2⟩, rfl⟩
      have hone : chunks (noughts 128) 1 = [noughts 128] := by decide
      have hS : DiskP.done ⟨d.S, d.W ++ writes (frm + (at0 + sum a)) (chunks (noughts 128) 1), lf, false⟩ = DiskP.doneGo d.S (writes (frm + (at0 + sum a)) [noughts 128]) := by
        rw [DiskP.done, h.quiet, List.nil_append, hone]
      have hget := doneGo_writes [noughts 128] (frm + (at0 + sum a)) d.S (by simp; omega)
      refine h.has.cut hL.done_sized (by rw [hL.done_len, hln]) (fun j j1 j2 => ?_) (fun c hc => ?_)
      · show (DiskP.done _)[j]? = _
        rw [hS, hget, if_neg (by omega)]
      · have hc' : (DiskP.done ⟨d.S, d.W ++ writes (frm + (at0 + sum a)) (chunks (noughts 128) 1), lf, false⟩)[frm + at0 + sum a]? = some c := hc
        rw [hS, hget, if_pos (by simp; omega), Nat.add_assoc, Nat.sub_self] at hc'
        exact noughts_last (Option.some.inj hc').symm
    · exact absurd (l2 hl) hne
  · exact absurd hl hne
end
end Go.Proofs.YtojincohnjophaaGreatDoor.LogP

/-! The plain mathematics of layer 21 (keep), part 1: numbers, heads, texts' pages. No program in sight. -/
namespace Go.Proofs.YtojincohnjophaaGreatDoor.KeepP
open DiskP (Bytes Disk Wr Fate noughts)
open LogP (Log zeroL Live okL At Sized chunks writes Holds maxSeq)

/-- a disk's cut -/
structure Cut where
  log : Nat
  pages : Nat
def half (c : Cut) : Nat := c.log + 8 * c.pages
def size (c : Cut) : Nat := 2 + 2 * half c
def okC (c : Cut) : Prop := 2 ≤ c.log ∧ c.log ≤ 400 ∧ 1 ≤ c.pages ∧ c.pages ≤ 100
def start (c : Cut) (h : Nat) : Nat := 2 + h * half c

structure Head where
  gen : Nat
  half : Nat
  seq : Nat
  pages : Nat
def zeroH : Head := ⟨0, 0, 0, 0⟩
def okH (h : Head) : Prop := 1 ≤ h.gen ∧ h.gen ≤ maxSeq ∧ h.half ≤ 1 ∧ 1 ≤ h.seq ∧ h.seq ≤ maxSeq ∧ h.pages < 65536

/-- a number's octets, the highest first -/
def numB (n k : Nat) : Bytes := (List.range k).map fun j => UInt8.ofNat (n / 256 ^ (k - 1 - j))
/-- the number that octets are -/
def countB (l : Bytes) : Nat := l.foldl (fun n b => n * 256 + b.toNat) 0

theorem numB_len (n k : Nat) : (numB n k).length = k := by simp [numB]
theorem numB_succ (n k : Nat) : numB n (k + 1) = numB (n / 256) k ++ [UInt8.ofNat n] := by
  unfold numB
  rw [List.range_succ, List.map_append, List.map_singleton]
  congr 1
  · refine List.map_congr_left fun j hj => ?_
    have := List.mem_range.1 hj
    rw [show k + 1 - 1 - j = (k - 1 - j) + 1 by omega, Nat.pow_succ, Nat.mul_comm, Nat.div_div_eq_div_mul]
  · simp
theorem count_snoc (l : Bytes) (b : UInt8) : countB (l ++ [b]) = countB l * 256 + b.toNat := by simp [countB]
theorem foldl_from (l : Bytes) : ∀ n, l.foldl (fun n b => n * 256 + b.toNat) n = n * 256 ^ l.length + countB l := by
  induction l with
  | nil => intro n; simp [countB]
  | cons b l ih =>
    intro n
    have e : countB (b :: l) = b.toNat * 256 ^ l.length + countB l := by
      have := ih (0 * 256 + b.toNat)
      have e0 : countB (b :: l) = l.foldl (fun n b => n * 256 + b.toNat) (0 * 256 + b.toNat) := rfl
      rw [e0, this, Nat.zero_mul, Nat.zero_add]
    rw [List.foldl_cons, ih, e, List.length_cons, Nat.pow_succ, Nat.add_mul, Nat.mul_assoc, Nat.mul_comm 256, Nat.add_assoc]
theorem count_append (a b : Bytes) : countB (a ++ b) = countB a * 256 ^ b.length + countB b := by
  rw [countB, List.foldl_append, foldl_from]
  rfl
theorem count_num (k : Nat) : ∀ n, countB (numB n k) = n % 256 ^ k := by
  induction k with
  | zero => intro n; simp [numB, countB, Nat.mod_one]
  | succ k ih =>
    intro n
    rw [numB_succ, count_snoc, ih, Nat.pow_succ, Nat.mul_comm (256 ^ k) 256, Nat.mod_mul]
    have : (UInt8.ofNat n).toNat = n % 256 := by simp
    omega
theorem count_lt (l : Bytes) : countB l < 256 ^ l.length := by
  induction l with
  | nil => decide
  | cons b l ih =>
    have hb : b.toNat < 256 := UInt8.toNat_lt b
    have e : countB (b :: l) = b.toNat * 256 ^ l.length + countB l := by
      have := foldl_from l (0 * 256 + b.toNat)
      have e0 : countB (b :: l) = l.foldl (fun n b => n * 256 + b.toNat) (0 * 256 + b.toNat) := rfl
      rw [e0, this, Nat.zero_mul, Nat.zero_add]
    have h2 : b.toNat * 256 ^ l.length ≤ 255 * 256 ^ l.length := Nat.mul_le_mul_right _ (by omega)
    rw [e, List.length_cons, Nat.pow_succ]
    omega
theorem count_noughts (k : Nat) : countB (noughts k) = 0 := by
  induction k with
  | zero => rfl
  | succ k ih =>
    have : noughts (k + 1) = noughts k ++ [0] := by simp [noughts, List.replicate_succ']
    rw [this, count_snoc, ih]
    rfl
/-- octets whose first ones are noughts are a number that is no greater -/
theorem count_cut (l : Bytes) (k : Nat) : countB (noughts k ++ l.drop k) ≤ countB l := by
  have e : countB l = countB (l.take k) * 256 ^ (l.drop k).length + countB (l.drop k) := by
    rw [← count_append, List.take_append_drop]
  rw [count_append, count_noughts, e]
  omega

/-- a head's sector -/
def sectorB (h : Head) : Bytes := numB h.gen 8 ++ numB h.half 1 ++ numB h.seq 8 ++ numB h.pages 2 ++ noughts 108 ++ [1]
theorem sectorB_len (h : Head) : (sectorB h).length = 128 := by
  simp only [sectorB, List.length_append, numB_len, noughts, List.length_replicate, List.length_singleton]
theorem sectorB_last (h : Head) : (sectorB h).getD 127 0 = 1 := by
  rw [List.getD_eq_getElem?_getD, sectorB, List.getElem?_append_right (by simp only [List.length_append, numB_len, noughts, List.length_replicate]; omega)]
  simp only [List.length_append, numB_len, noughts, List.length_replicate]
  rfl
/-- the head that a sector is in its place -/
def readH (s : Bytes) (place : Nat) : Option Head :=
  let h : Head := ⟨countB (s.take 8), (s.getD 8 0).toNat, countB ((s.drop 9).take 8), countB ((s.drop 17).take 2)⟩
  if 1 ≤ h.gen ∧ h.gen ≤ maxSeq ∧ 1 ≤ h.seq ∧ h.seq ≤ maxSeq ∧ h.half ≤ 1 ∧ h.gen % 2 = place ∧ sectorB h = s then some h else none
theorem sector_parts (h : Head) : (sectorB h).take 8 = numB h.gen 8 ∧ (sectorB h).getD 8 0 = UInt8.ofNat h.half ∧ ((sectorB h).drop 9).take 8 = numB h.seq 8 ∧ ((sectorB h).drop 17).take 2 = numB h.pages 2 := by
  obtain ⟨a, ha⟩ : ∃ a, a = numB h.gen 8 := ⟨_, rfl⟩
  obtain ⟨b, hb⟩ : ∃ b, b = numB h.seq 8 := ⟨_, rfl⟩
  obtain ⟨c, hc⟩ : ∃ c, c = numB h.pages 2 := ⟨_, rfl⟩
  have la : a.length = 8 := by rw [ha, numB_len]
  have lb : b.length = 8 := by rw [hb, numB_len]
  have lc : c.length = 2 := by rw [hc, numB_len]
  have e1 : numB h.half 1 = [UInt8.ofNat h.half] := by simp [numB, List.range_succ]
  have e : sectorB h = a ++ ([UInt8.ofNat h.half] ++ (b ++ (c ++ (noughts 108 ++ [1])))) := by
    rw [sectorB, e1, ← ha, ← hb, ← hc]; simp only [List.append_assoc]
  rw [e, ← ha, ← hb, ← hc]
  refine ⟨?_, ?_, ?_, ?_⟩
  · rw [List.take_append_of_le_length (by omega), List.take_of_length_le (by omega)]
  · rw [List.getD_eq_getElem?_getD, List.getElem?_append_right (by omega), la]; rfl
  · rw [show (9 : Nat) = a.length + 1 by omega, ← List.drop_drop, List.drop_left, List.singleton_append, List.drop_succ_cons, List.drop_zero, List.take_append_of_le_length (by omega), List.take_of_length_le (by omega)]
  · rw [show (17 : Nat) = a.length + (1 + b.length) by omega, ← List.drop_drop, List.drop_left, ← List.drop_drop, List.singleton_append, List.drop_succ_cons, List.drop_zero, List.drop_left, List.take_append_of_le_length (by omega), List.take_of_length_le (by omega)]
theorem read_sector {h : Head} (hh : okH h) : readH (sectorB h) (h.gen % 2) = some h := by
  obtain ⟨h1, h2, h3, h4, h5, h6⟩ := hh
  obtain ⟨p1, p2, p3, p4⟩ := sector_parts h
  unfold maxSeq at h2 h5
  have e1 : countB (numB h.gen 8) = h.gen := by rw [count_num]; exact Nat.mod_eq_of_lt (by omega)
  have e2 : (UInt8.ofNat h.half).toNat = h.half := by simp; omega
  have e3 : countB (numB h.seq 8) = h.seq := by rw [count_num]; exact Nat.mod_eq_of_lt (by omega)
  have e4 : countB (numB h.pages 2) = h.pages := by rw [count_num]; exact Nat.mod_eq_of_lt (by omega)
  unfold readH
  simp only [p1, p2, p3, p4, e1, e2, e3, e4]
  rw [if_pos ⟨h1, by unfold maxSeq; omega, h4, by unfold maxSeq; omega, h3, trivial, trivial⟩]
theorem readH_some {s : Bytes} {p : Nat} {h : Head} (e : readH s p = some h) : okH h ∧ h.gen % 2 = p ∧ sectorB h = s ∧ h.gen = countB (s.take 8) := by
  unfold readH at e
  simp only at e
  split at e
  · rename_i hc
    injection e with e
    subst e
    obtain ⟨h1, h2, h3, h4, h5, h6, h7⟩ := hc
    refine ⟨⟨h1, h2, h5, h3, h4, ?_⟩, h6, h7, rfl⟩
    show countB ((s.drop 17).take 2) < 65536
    have hl := count_lt ((s.drop 17).take 2)
    have hle : ((s.drop 17).take 2).length ≤ 2 := List.length_take_le _ _
    exact Nat.lt_of_lt_of_le hl (Nat.le_trans (Nat.pow_le_pow_right (by decide) hle) (by decide))
  · cases e
/-- a sector that is no head, or one that is behind gen g -/
def Old (s : Bytes) (g : Nat) : Prop := s.getD 127 0 ≠ 1 ∨ countB (s.take 8) < g
theorem Old.lt {s : Bytes} {g p : Nat} {h : Head} (ho : Old s g) (e : readH s p = some h) : h.gen < g := by
  obtain ⟨_, _, h3, h4⟩ := readH_some e
  rcases ho with ho | ho
  · exact absurd (h3 ▸ sectorB_last h) ho
  · omega
theorem Old.mono {s : Bytes} {g g' : Nat} (ho : Old s g) (hg : g ≤ g') : Old s g' := ho.imp id fun h => by omega
/-- noughts ahead of what was there -/
theorem Old.cut {s : Bytes} {g k : Nat} (ho : Old s g) (hs : s.length = 128) (hk : k ≤ 128) : Old ((noughts 128).take k ++ s.drop k) g := by
  have hz : (noughts 128).take k = noughts k := by unfold noughts; rw [List.take_replicate, Nat.min_eq_left hk]
  rw [hz]
  by_cases h128 : k = 128
  · refine .inl ?_
    subst h128
    rw [List.drop_of_length_le (by omega), List.append_nil]
    decide
  · rcases ho with ho | ho
    · refine .inl ?_
      rw [List.getD_eq_getElem?_getD, List.getElem?_append_right (by simp [noughts]; omega)]
      simp only [noughts, List.length_replicate]
      rw [List.getElem?_drop, show k + (127 - k) = 127 by omega, ← List.getD_eq_getElem?_getD]
      exact ho
    · refine .inr ?_
      by_cases h8 : k ≤ 8
      · have e : (noughts k ++ s.drop k).take 8 = noughts k ++ (s.take 8).drop k := by
          have lz : (noughts k).length = k := by simp [noughts]
          rw [List.take_append, List.take_of_length_le (by omega), lz, List.drop_take]
        rw [e]
        exact Nat.lt_of_le_of_lt (count_cut _ _) ho
      · have e : (noughts k ++ s.drop k).take 8 = noughts 8 := by
          rw [List.take_append_of_le_length (by simp [noughts]; omega)]
          unfold noughts
          rw [List.take_replicate, Nat.min_eq_left (show 8 ≤ k by omega)]
        rw [e, count_noughts]
        omega

/-- the head that counts and has the greater gen -/
def newestP (s0 s1 : Bytes) : Option Head :=
  match readH s0 0, readH s1 1 with
  | none, none => none
  | some a, none => some a
  | none, some b => some b
  | some a, some b => if a.gen < b.gen then some b else some a
theorem newest_here {S : List Bytes} {h : Head} (hh : okH h) (hat : S[h.gen % 2]? = some (sectorB h)) (ho : ∀ s, S[1 - h.gen % 2]? = some s → Old s h.gen) (hl : 2 ≤ S.length) : newestP (S.getD 0 []) (S.getD 1 []) = some h := by
  have g0 : S[0]? = some (S.getD 0 []) := by rw [List.getD_eq_getElem?_getD, List.getElem?_eq_getElem (by omega), Option.getD_some]
  have g1 : S[1]? = some (S.getD 1 []) := by rw [List.getD_eq_getElem?_getD, List.getElem?_eq_getElem (by omega), Option.getD_some]
  have hr := read_sector hh
  unfold newestP
  rcases Nat.mod_two_eq_zero_or_one h.gen with hp | hp
  · rw [hp] at hat hr ho
    rw [g0] at hat
    have e0 := Option.some.inj hat
    have h1 := ho _ g1
    rw [e0, hr]
    cases e : readH (S.getD 1 []) 1 with
    | none => rfl
    | some b => have := h1.lt e; simp only; rw [if_neg (by omega)]
  · rw [hp] at hat hr ho
    rw [g1] at hat
    have e1 := Option.some.inj hat
    have h0 := ho _ g0
    rw [e1, hr]
    cases e : readH (S.getD 0 []) 0 with
    | none => rfl
    | some a => have := h0.lt e; simp only; rw [if_pos (by omega)]
/-- what is newest -/
theorem newest_is {S : List Bytes} {h : Head} (hl : 2 ≤ S.length) (e : newestP (S.getD 0 []) (S.getD 1 []) = some h) : okH h ∧ S[h.gen % 2]? = some (sectorB h) := by
  have g0 : S[0]? = some (S.getD 0 []) := by rw [List.getD_eq_getElem?_getD, List.getElem?_eq_getElem (by omega), Option.getD_some]
  have g1 : S[1]? = some (S.getD 1 []) := by rw [List.getD_eq_getElem?_getD, List.getElem?_eq_getElem (by omega), Option.getD_some]
  have k0 : ∀ {h}, readH (S.getD 0 []) 0 = some h → okH h ∧ S[h.gen % 2]? = some (sectorB h) := fun e => by
    obtain ⟨q1, q2, q3, _⟩ := readH_some e
    exact ⟨q1, by rw [q2, g0, q3]⟩
  have k1 : ∀ {h}, readH (S.getD 1 []) 1 = some h → okH h ∧ S[h.gen % 2]? = some (sectorB h) := fun e => by
    obtain ⟨q1, q2, q3, _⟩ := readH_some e
    exact ⟨q1, by rw [q2, g1, q3]⟩
  unfold newestP at e
  split at e
  · cases e
  · rename_i a e0 e1; injection e with e; subst e; exact k0 e0
  · rename_i b e0 e1; injection e with e; subst e; exact k1 e1
  · rename_i a b e0 e1
    split at e
    · injection e with e; subst e; exact k1 e1
    · injection e with e; subst e; exact k0 e0

/-! ### Texts -/

/-- a text's cells -/
def piecesK (t : Bytes) (k : Nat) : List Bytes := (List.range k).map fun j => (t.drop (300 * j)).take 300
def cells (n : Nat) : Nat := (n + 299) / 300
def pieces (t : Bytes) : List Bytes := piecesK t (cells t.length)
theorem piecesK_len (t : Bytes) (k : Nat) : (piecesK t k).length = k := by simp [piecesK]
theorem piecesK_snoc (t : Bytes) (k : Nat) : piecesK t (k + 1) = piecesK t k ++ [(t.drop (300 * k)).take 300] := by
  simp [piecesK, List.range_succ]
theorem piecesK_flatten (t : Bytes) (k : Nat) : (piecesK t k).flatten = t.take (300 * k) := by
  induction k with
  | zero => simp [piecesK]
  | succ k ih =>
    rw [piecesK_snoc, List.flatten_append, ih, List.flatten_singleton, show 300 * (k + 1) = 300 * k + 300 by omega, List.take_add]
theorem pieces_flatten (t : Bytes) : (pieces t).flatten = t := by
  rw [pieces, piecesK_flatten, List.take_of_length_le]
  unfold cells
  omega
theorem piecesK_le (t : Bytes) (k : Nat) : ∀ c ∈ piecesK t k, c.length ≤ 300 := by
  intro c hc
  simp only [piecesK, List.mem_map, List.mem_range] at hc
  obtain ⟨j, _, rfl⟩ := hc
  exact List.length_take_le _ _

/-- a text's pages -/
def pagesP (t : Bytes) : List Bytes := (SlotP.fill (pieces t)).map SlotP.lay
theorem fill_pieces (t : Bytes) : (∀ l ∈ SlotP.fill (pieces t), SlotP.fits l = true ∧ l ≠ []) ∧ (SlotP.fill (pieces t)).flatten = pieces t :=
  SlotP.fill_ok _ fun c hc => by have := piecesK_le t _ c hc; omega
theorem pagesP_size (t : Bytes) : ∀ p ∈ pagesP t, p.length = 1024 := by
  intro p hp
  simp only [pagesP, List.mem_map] at hp
  obtain ⟨l, hl, rfl⟩ := hp
  exact SlotP.lay_length l ((fill_pieces t).1 l hl).1
theorem flatten_same {m : Nat} {l : List Bytes} (h : ∀ p ∈ l, p.length = m) : l.flatten.length = m * l.length := by
  induction l with
  | nil => simp
  | cons p l ih =>
    rw [List.flatten_cons, List.length_append, h p (by simp), ih fun q hq => h q (by simp [hq]), List.length_cons, Nat.mul_add]
    omega
theorem flatten_part {m : Nat} : ∀ {l : List Bytes} {i : Nat} {p : Bytes}, (∀ p ∈ l, p.length = m) → l[i]? = some p → (l.flatten.drop (m * i)).take m = p := by
  intro l
  induction l with
  | nil => intro i p _ h; simp at h
  | cons q l ih =>
    intro i p h hi
    have hq := h q (by simp)
    cases i with
    | zero =>
      simp only [List.getElem?_cons_zero, Option.some.injEq] at hi
      subst hi
      rw [Nat.mul_zero, List.drop_zero, List.flatten_cons, ← hq, List.take_left]
    | succ i =>
      rw [List.flatten_cons, show m * (i + 1) = q.length + m * i by rw [hq, Nat.mul_add]; omega, ← List.drop_drop, List.drop_left]
      exact ih (fun p hp => h p (by simp [hp])) (by simpa using hi)
/-- the text of the first pages -/
def page (s : Bytes) (i : Nat) : Bytes := (s.drop (1024 * i)).take 1024
def textsN (s : Bytes) : Nat → Option Bytes
  | 0 => some []
  | i + 1 => match textsN s i with
    | none => none
    | some t => if (SlotP.read (page s i)).2 = 0 then some (t ++ (SlotP.read (page s i)).1.flatten) else none
theorem textsN_none {s : Bytes} {i : Nat} (h : textsN s i = none) : ∀ k, textsN s (i + k) = none := by
  intro k
  induction k with
  | zero => exact h
  | succ k ih => rw [← Nat.add_assoc, textsN, ih]
theorem texts_lay (ls : List (List Bytes)) (hf : ∀ l ∈ ls, SlotP.fits l = true) : ∀ i, i ≤ ls.length → textsN (ls.map SlotP.lay).flatten i = some (ls.take i).flatten.flatten := by
  intro i
  induction i with
  | zero => intro _; simp [textsN]
  | succ i ih =>
    intro hi
    have hlt : i < ls.length := by omega
    have hp : page (ls.map SlotP.lay).flatten i = SlotP.lay ls[i] :=
      flatten_part (fun p hp => by
        simp only [List.mem_map] at hp
        obtain ⟨l, hl, rfl⟩ := hp
        exact SlotP.lay_length l (hf l hl)) (by rw [List.getElem?_map, List.getElem?_eq_getElem hlt]; rfl)
    rw [textsN, ih (by omega)]
    simp only
    rw [hp, SlotP.read_lay _ (hf _ (List.getElem_mem hlt)), if_pos rfl, List.take_succ_eq_append_getElem hlt, List.flatten_append, List.flatten_append, List.flatten_singleton]
theorem texts_pages (t : Bytes) : textsN (pagesP t).flatten (pagesP t).length = some t := by
  rw [pagesP, texts_lay _ (fun l hl => ((fill_pieces t).1 l hl).1) _ (by simp), List.length_map, List.take_length, (fill_pieces t).2, pieces_flatten]
/-- three cells and more are on each page but the last one -/
theorem fillGo_len (cells : List Bytes) : ∀ (lists : List (List Bytes)) (list : List Bytes), (∀ c ∈ cells, c.length ≤ 300) → (∀ c ∈ list, c.length ≤ 300) → 3 * (SlotP.fillGo cells lists list).length ≤ 3 * lists.length + list.length + cells.length + 2 := by
  induction cells with
  | nil =>
    intro lists list _ _
    rw [SlotP.fillGo]
    split
    · omega
    · rename_i h
      have := List.length_pos_iff.2 h
      rw [List.length_append, List.length_singleton]; omega
  | cons c cells ih =>
    intro lists list hc hl
    rw [SlotP.fillGo]
    split
    · have := ih lists (list ++ [c]) (fun d hd => hc d (by simp [hd])) (fun d hd => by
        rcases List.mem_append.1 hd with hd | hd
        · exact hl d hd
        · exact hc d (by simp at hd; simp [hd]))
      rw [List.length_append, List.length_singleton] at this
      rw [List.length_cons]; omega
    · rename_i h
      have h3 : 3 ≤ list.length := by
        rcases Nat.lt_or_ge list.length 3 with hlt | hge
        · refine absurd ?_ h
          have hsum : ∀ m : List Bytes, (∀ d ∈ m, d.length ≤ 300) → SlotP.sumLen m ≤ 300 * m.length := by
            intro m
            induction m with
            | nil => intro _; simp [SlotP.sumLen]
            | cons d m ihm =>
              intro hm
              have h1 := hm d (by simp)
              have h2 := ihm fun e he => hm e (by simp [he])
              rw [SlotP.sumLen_cons, List.length_cons]; omega
          have hall : ∀ d ∈ list ++ [c], d.length ≤ 300 := fun d hd => by
            rcases List.mem_append.1 hd with hd | hd
            · exact hl d hd
            · exact hc d (by simp at hd; simp [hd])
          have hs := hsum _ hall
          rw [List.length_append, List.length_singleton] at hs
          rw [SlotP.fits_iff]
          refine ⟨by rw [List.length_append, List.length_singleton]; omega, fun d hd => by have := hall d hd; omega, ?_⟩
          unfold SlotP.used
          rw [List.length_append, List.length_singleton]
          omega
        · exact hge
      have := ih (lists ++ [list]) [c] (fun d hd => hc d (by simp [hd])) (fun d hd => by simp at hd; subst hd; exact hc d (by simp))
      rw [List.length_append, List.length_singleton, List.length_singleton] at this
      rw [List.length_cons]; omega
theorem pages_few (t : Bytes) : 3 * (pagesP t).length ≤ cells t.length + 2 := by
  have := fillGo_len (pieces t) [] [] (piecesK_le t _) (by simp)
  rw [pagesP, List.length_map, SlotP.fill]
  rw [List.length_nil, List.length_nil] at this
  have e : (pieces t).length = cells t.length := by rw [pieces, piecesK_len]
  omega
end Go.Proofs.YtojincohnjophaaGreatDoor.KeepP

/-! Plain laws of layer 21 (keep), part 2: what is saved, opened, added, and kept through crashes. No program in sight. -/
namespace Go.Proofs.YtojincohnjophaaGreatDoor.KeepP
open DiskP (Bytes Disk Wr Fate noughts)
open LogP (Log zeroL Live okL At Sized chunks writes Holds maxSeq runP)

/-- writes of octets wait, if there are any -/
def putK (d : Disk) (i : Nat) (s : Bytes) : Disk × Nat := if s = [] then (d, 0) else DiskP.put d (i : Int) s
def saveP (d : Disk) (c : Cut) (h : Head) (l : List Bytes) : Disk × Nat :=
  runP d [fun d => putK d (start c h.half + c.log) l.flatten, fun d => putK d (start c h.half) (noughts 128), fun d => putK d (h.gen % 2) (noughts 128), DiskP.barrier, fun d => putK d (h.gen % 2) (sectorB h), DiskP.barrier]
def beginP (c : Cut) (h : Head) : Log := ⟨start c h.half, c.log, 0, h.seq⟩

theorem putK_cases {n : Nat} {d : Disk} (h : Live n d) {s : Bytes} {i k : Nat} (hs : s.length = 128 * k) (hi : i + k ≤ n) :
    (∃ lf, putK d i s = (⟨d.S, d.W ++ writes i (chunks s k), lf, false⟩, 0) ∧ -1 ≤ lf ∧ (d.left = -1 → lf = -1)) ∨
    (d.left ≠ -1 ∧ ∃ ws tl lf, putK d i s = (⟨d.S, d.W ++ ws, lf, true⟩, 14) ∧ -1 ≤ lf ∧ ws ++ tl = writes i (chunks s k)) := by
  unfold putK
  rcases Nat.eq_zero_or_pos k with h0 | h0
  · subst h0
    have : s = [] := List.eq_nil_of_length_eq_zero (by omega)
    subst this
    refine .inl ⟨d.left, ?_, ((DiskP.may_iff d).1 h.may).2.2.1, id⟩
    rw [if_pos rfl]
    have e : writes i (chunks [] 0) = [] := rfl
    rw [e, List.append_nil, ← h.dead]
  · rw [if_neg (fun e => by rw [e] at hs; simp at hs; omega)]
    exact LogP.put_cases h hs h0 hi
/-- the writes of puts -/
def allW : List (Nat × Bytes) → List Wr
  | [] => []
  | p :: ps => writes p.1 (chunks p.2 (p.2.length / 128)) ++ allW ps
def okP (n : Nat) (p : Nat × Bytes) : Prop := ∃ k, p.2.length = 128 * k ∧ p.1 + k ≤ n
theorem puts_cases (ps : List (Nat × Bytes)) : ∀ {n : Nat} {d : Disk} {rest : List (Disk → Disk × Nat)}, Live n d → (∀ p ∈ ps, okP n p) →
    (∃ lf, runP d (ps.map (fun p d => putK d p.1 p.2) ++ rest) = runP ⟨d.S, d.W ++ allW ps, lf, false⟩ rest ∧ -1 ≤ lf ∧ (d.left = -1 → lf = -1) ∧ Live n ⟨d.S, d.W ++ allW ps, lf, false⟩) ∨
    (d.left ≠ -1 ∧ ∃ ws tl lf, runP d (ps.map (fun p d => putK d p.1 p.2) ++ rest) = (⟨d.S, d.W ++ ws, lf, true⟩, 14) ∧ ws ++ tl = allW ps ∧ DiskP.may ⟨d.S, d.W ++ ws, lf, true⟩ = true) := by
  induction ps with
  | nil =>
    intro n d rest h _
    have e : (⟨d.S, d.W ++ allW [], d.left, false⟩ : Disk) = d := by rw [allW, List.append_nil, ← h.dead]
    exact .inl ⟨d.left, by rw [e]; rfl, ((DiskP.may_iff d).1 h.may).2.2.1, id, by rw [e]; exact h⟩
  | cons p ps ih =>
    intro n d rest h hp
    obtain ⟨k, hk, hi⟩ := hp p (by simp)
    have ek : p.2.length / 128 = k := by omega
    rw [List.map_cons, List.cons_append]
    rcases putK_cases h hk hi with ⟨lf, e1, l1, l2⟩ | ⟨l0, ws, tl, lf, e1, l1, hws⟩
    · have hv : Live n ⟨d.S, d.W ++ writes p.1 (chunks p.2 k), lf, false⟩ := ⟨h.put l1 (fun w hw => by
        obtain ⟨q1, q2, q3⟩ := LogP.writes_ok (tl := []) hk (by rw [List.append_nil]) w hw
        exact ⟨by omega, by omega, q3⟩) false, h.len, rfl⟩
      rw [LogP.runP_ok (f := fun d => putK d p.1 p.2) e1]
      rcases ih (rest := rest) hv fun q hq => hp q (by simp [hq]) with ⟨lf', e2, l3, l4, l5⟩ | ⟨l0, ws, tl, lf', e2, hws, hm⟩
      · simp only [List.append_assoc] at e2 l5
        refine .inl ⟨lf', ?_, l3, fun e => l4 (l2 e), ?_⟩
        · rw [e2, allW, ek]
        · rw [allW, ek]; exact l5
      · simp only [List.append_assoc] at e2 hm
        exact .inr ⟨fun e => l0 (l2 e), writes p.1 (chunks p.2 k) ++ ws, tl, lf', e2, by rw [allW, ek, ← hws, List.append_assoc], hm⟩
    · refine .inr ⟨l0, ws, tl ++ allW ps, lf, by rw [LogP.runP_no (f := fun d => putK d p.1 p.2) e1 (by decide)], by rw [allW, ek, ← hws, List.append_assoc], ?_⟩
      exact h.put l1 (fun w hw => by
        obtain ⟨q1, q2, q3⟩ := LogP.writes_ok hk hws w hw
        exact ⟨by omega, by omega, q3⟩) true

/-! ### Save -/

def savePs (c : Cut) (h : Head) (F : Bytes) : List (Nat × Bytes) := [(start c h.half + c.log, F), (start c h.half, noughts 128), (h.gen % 2, noughts 128)]
theorem noughts_chunks : chunks (noughts 128) ((noughts 128).length / 128) = [noughts 128] := by
  have h := LogP.noughts_len 128
  rw [h]
  exact LogP.chunks_one h
theorem allW_save (c : Cut) (h : Head) (F : Bytes) : allW (savePs c h F) = writes (start c h.half + c.log) (chunks F (F.length / 128)) ++ (writes (start c h.half) [noughts 128] ++ writes (h.gen % 2) [noughts 128]) := by
  simp only [savePs, allW, noughts_chunks, List.append_nil]
theorem start_ge (c : Cut) (h : Nat) : 2 ≤ start c h := by unfold start; omega
theorem half_fit {c : Cut} {h : Nat} (hh : h ≤ 1) : start c h + half c ≤ size c := by
  unfold start size
  have : h * half c ≤ 1 * half c := Nat.mul_le_mul_right _ hh
  omega
theorem save_fits {c : Cut} {h : Head} {F : Bytes} {m : Nat} (hc : okC c) (hh : okH h) (hF : F.length = 128 * m) (hm : m ≤ 8 * c.pages) : ∀ p ∈ savePs c h F, okP (size c) p := by
  have hf := half_fit (c := c) hh.2.2.1
  have hs := start_ge c h.half
  unfold half at hf
  obtain ⟨h1, _, h2, _⟩ := hc
  intro p hp
  simp only [savePs, List.mem_cons, List.not_mem_nil, or_false] at hp
  rcases hp with rfl | rfl | rfl
  · exact ⟨m, hF, by show start c h.half + c.log + m ≤ size c; omega⟩
  · exact ⟨1, by simp [noughts], by show start c h.half + 1 ≤ size c; omega⟩
  · exact ⟨1, by simp [noughts], by show h.gen % 2 + 1 ≤ size c; omega⟩
theorem save_get {c : Cut} {h : Head} {F : Bytes} {m : Nat} {S : List Bytes} (hc : okC c) (hh : okH h) (hF : F.length = 128 * m) (hm : m ≤ 8 * c.pages) (hS : S.length = size c) (p : Nat) :
    (DiskP.doneGo S (allW (savePs c h F)))[p]? = if p = h.gen % 2 ∨ p = start c h.half then some (noughts 128) else if start c h.half + c.log ≤ p ∧ p < start c h.half + c.log + m then (chunks F m)[p - (start c h.half + c.log)]? else S[p]? := by
  have hf := half_fit (c := c) hh.2.2.1
  have hs := start_ge c h.half
  have em : F.length / 128 = m := by omega
  unfold half at hf
  obtain ⟨h1, _, h2, _⟩ := hc
  rw [allW_save, LogP.doneGo_append, LogP.doneGo_append, LogP.doneGo_writes _ _ _ (by rw [DiskP.doneGo_len, DiskP.doneGo_len, hS]; simp; omega), LogP.doneGo_writes _ _ _ (by rw [DiskP.doneGo_len, hS]; simp; omega), LogP.doneGo_writes _ _ _ (by rw [hS, LogP.chunks_len]; omega), LogP.chunks_len, em]
  simp only [List.length_singleton]
  by_cases hp : p = h.gen % 2
  · rw [if_pos (by omega), if_pos (.inl hp), hp, Nat.sub_self]; rfl
  · rw [if_neg (by omega)]
    by_cases hq : p = start c h.half
    · rw [if_pos (by omega), if_pos (.inr hq), hq, Nat.sub_self]; rfl
    · rw [if_neg (by omega), if_neg (show ¬ (p = h.gen % 2 ∨ p = start c h.half) by omega)]
theorem save_cases {d : Disk} {c : Cut} {h : Head} {l : List Bytes} {m : Nat} (hl : Live (size c) d) (hc : okC c) (hh : okH h) (hF : l.flatten.length = 128 * m) (hm : m ≤ 8 * c.pages) :
    ∃ d' e, saveP d c h l = (d', e) ∧ DiskP.may d' = true ∧
      ((e = 0 ∧ ∃ lf, d' = ⟨(DiskP.doneGo (DiskP.done d) (allW (savePs c h l.flatten))).set (h.gen % 2) (sectorB h), [], lf, false⟩ ∧ -1 ≤ lf ∧ (d.left = -1 → lf = -1)) ∨
       (e = 14 ∧ d.left ≠ -1 ∧ d'.dead = true ∧ ∃ ws tl lf, d' = ⟨d.S, d.W ++ ws, lf, true⟩ ∧ ws ++ tl = allW (savePs c h l.flatten)) ∨
       (e = 14 ∧ d.left ≠ -1 ∧ d'.dead = true ∧ ∃ ws lf, d' = ⟨DiskP.doneGo (DiskP.done d) (allW (savePs c h l.flatten)), ws, lf, true⟩ ∧ (ws = [] ∨ ws = [⟨((h.gen % 2 : Nat) : Int), sectorB h⟩]))) := by
  have e0 : saveP d c h l = runP d ((savePs c h l.flatten).map (fun p d => putK d p.1 p.2) ++ [DiskP.barrier, fun d => putK d (h.gen % 2) (sectorB h), DiskP.barrier]) := rfl
  rw [e0]
  have hsz : 2 ≤ size c := by unfold size; omega
  rcases puts_cases _ (rest := [DiskP.barrier, fun d => putK d (h.gen % 2) (sectorB h), DiskP.barrier]) hl (save_fits hc hh hF hm) with ⟨lf, e1, l1, l2, hv⟩ | ⟨l0, ws, tl, lf, e1, hws, hm'⟩
  · rw [e1]
    rcases LogP.barrier_cases hv with ⟨lf2, e2, l3, l4⟩ | ⟨l0, e2⟩
    · have hv2 := hv.barrier l3
      have eD : DiskP.done ⟨d.S, d.W ++ allW (savePs c h l.flatten), lf, false⟩ = DiskP.doneGo (DiskP.done d) (allW (savePs c h l.flatten)) := by
        rw [DiskP.done, LogP.doneGo_append]; rfl
      rw [eD] at hv2 e2
      rw [LogP.runP_ok e2]
      rcases putK_cases hv2 (s := sectorB h) (i := h.gen % 2) (k := 1) (by rw [sectorB_len]) (by omega) with ⟨lf3, e3, l5, l6⟩ | ⟨l0, ws, tl, lf3, e3, l5, hws⟩
      · rw [List.nil_append, LogP.chunks_one (sectorB_len h)] at e3
        rw [LogP.runP_ok (f := fun d => putK d (h.gen % 2) (sectorB h)) e3]
        have hv3 : Live (size c) ⟨DiskP.doneGo (DiskP.done d) (allW (savePs c h l.flatten)), writes (h.gen % 2) [sectorB h], lf3, false⟩ := by
          have := hv2.put (ws := writes (h.gen % 2) [sectorB h]) l5 (fun w hw => by
            simp only [writes, List.mem_singleton] at hw; subst hw
            exact ⟨by show (0 : Int) ≤ ((h.gen % 2 : Nat) : Int); omega, by show ((h.gen % 2 : Nat) : Int) < _; omega, sectorB_len h⟩) false
          exact ⟨this, hv2.len, rfl⟩
        rcases LogP.barrier_cases hv3 with ⟨lf4, e4, l7, l8⟩ | ⟨l0, e4⟩
        · have hv4 := hv3.barrier l7
          rw [LogP.runP_ok e4]
          refine ⟨_, _, rfl, hv4.may, .inl ⟨rfl, lf4, ?_, l7, fun e => l8 (l6 (l4 (l2 e)))⟩⟩
          have ht : ((h.gen % 2 : Nat) : Int).toNat = h.gen % 2 := Int.toNat_natCast _
          show (⟨(DiskP.doneGo (DiskP.done d) (allW (savePs c h l.flatten))).set ((h.gen % 2 : Nat) : Int).toNat (sectorB h), [], lf4, false⟩ : Disk) = _
          rw [ht]
        · rw [LogP.runP_no e4 (by decide)]
          have := (DiskP.may_iff _).1 hv3.may
          exact ⟨_, _, rfl, LogP.may_mk this.1 this.2.1 this.2.2.1 this.2.2.2.1 this.2.2.2.2, .inr (.inr ⟨rfl, fun e => l0 (l6 (l4 (l2 e))), rfl, _, _, rfl, .inr rfl⟩)⟩
      · rw [List.nil_append] at e3
        rw [LogP.chunks_one (sectorB_len h), show writes (h.gen % 2) [sectorB h] = [⟨((h.gen % 2 : Nat) : Int), sectorB h⟩] from rfl] at hws
        rw [LogP.runP_no (f := fun d => putK d (h.gen % 2) (sectorB h)) e3 (by decide)]
        have hmw : DiskP.may ⟨DiskP.doneGo (DiskP.done d) (allW (savePs c h l.flatten)), [] ++ ws, lf3, true⟩ = true := hv2.put (ws := ws) l5 (fun w hw => by
          have : w ∈ [(⟨((h.gen % 2 : Nat) : Int), sectorB h⟩ : Wr)] := by rw [← hws]; simp [hw]
          simp only [List.mem_singleton] at this; subst this
          exact ⟨by show (0 : Int) ≤ ((h.gen % 2 : Nat) : Int); omega, by show ((h.gen % 2 : Nat) : Int) < _; omega, sectorB_len h⟩) true
        refine ⟨_, _, rfl, hmw, .inr (.inr ⟨rfl, fun e => l0 (l4 (l2 e)), rfl, ws, lf3, rfl, ?_⟩)⟩
        cases ws with
        | nil => exact .inl rfl
        | cons w ws =>
          rw [List.cons_append, List.cons.injEq] at hws
          have := List.append_eq_nil_iff.1 hws.2
          rw [this.1, hws.1]
          exact .inr rfl
    · rw [LogP.runP_no e2 (by decide)]
      have := (DiskP.may_iff _).1 hv.may
      exact ⟨_, _, rfl, LogP.may_mk this.1 this.2.1 this.2.2.1 this.2.2.2.1 this.2.2.2.2, .inr (.inl ⟨rfl, fun e => l0 (l2 e), rfl, allW (savePs c h l.flatten), [], lf, rfl, List.append_nil _⟩)⟩
  · rw [e1]
    exact ⟨_, _, rfl, hm', .inr (.inl ⟨rfl, l0, rfl, ws, tl, lf, rfl, hws⟩)⟩

/-! ### What is kept -/

structure K where
  cut : Cut
  drive : Disk
  head : Head
  text : Bytes
  records : List Bytes
  log : Log
/-- what is kept is on the disk, and nothing waits -/
structure Kept (k : K) : Prop where
  cut : okC k.cut
  hd : okH k.head
  log : Holds (size k.cut) k.drive (start k.cut k.head.half) k.cut.log 0 k.head.seq k.records k.log
  pages : k.head.pages = (pagesP k.text).length
  few : k.head.pages ≤ k.cut.pages
  here : k.drive.S[k.head.gen % 2]? = some (sectorB k.head)
  other : ∀ s, k.drive.S[1 - k.head.gen % 2]? = some s → Old s k.head.gen
  text : At k.drive.S (start k.cut k.head.half + k.cut.log) (chunks (pagesP k.text).flatten (8 * (pagesP k.text).length))

theorem pages_len (t : Bytes) : (pagesP t).flatten.length = 128 * (8 * (pagesP t).length) := by
  rw [flatten_same (pagesP_size t)]; omega
theorem kept_new {c : Cut} {h : Head} {t : Bytes} {S : List Bytes} {lf : Int} (hc : okC c) (hh : okH h) (hp : h.pages = (pagesP t).length) (hf : h.pages ≤ c.pages) (hS : Sized S) (hn : S.length = size c) (hl : -1 ≤ lf)
    (h1 : S[h.gen % 2]? = some (sectorB h)) (h2 : S[start c h.half]? = some (noughts 128)) (h3 : At S (start c h.half + c.log) (chunks (pagesP t).flatten (8 * (pagesP t).length))) (h4 : ∀ s, S[1 - h.gen % 2]? = some s → Old s h.gen) :
    Kept ⟨c, ⟨S, [], lf, false⟩, h, t, [], beginP c h⟩ := by
  have hfit := half_fit (c := c) hh.2.2.1
  unfold half at hfit
  have hsz : 1 ≤ S.length ∧ S.length ≤ 4000 := by
    rw [hn]
    obtain ⟨_, q2, _, q4⟩ := hc
    unfold size half
    omega
  refine ⟨hc, hh, ⟨⟨LogP.may_mk hsz.1 hsz.2 hl hS (fun w hw => by cases hw), hn, rfl⟩, rfl, ?_, rfl, hh.2.2.2.1, hc.1⟩, hp, hf, h1, h4, h3⟩
  refine LogP.has_none (frm := start c h.half) (len := c.log) (at0 := 0) (q0 := h.seq) hS (by show start c h.half + c.log ≤ S.length; rw [hn]; omega) (by have := hc.1; omega) (by have := hh.2.2.2.2.1; omega) fun s hs => ?_
  have hs' : S[start c h.half]? = some s := hs
  rw [h2] at hs'
  rw [← Option.some.inj hs']
  decide
theorem kept_same {k : K} {S : List Bytes} {lf : Int} (hk : Kept k) (hS : Sized S) (hn : S.length = k.drive.S.length) (hl : -1 ≤ lf) (hp : S[k.head.gen % 2]? = k.drive.S[k.head.gen % 2]?) (ho : ∀ s, S[1 - k.head.gen % 2]? = some s → Old s k.head.gen)
    (hf : ∀ p, start k.cut k.head.half ≤ p → p < start k.cut k.head.half + half k.cut → S[p]? = k.drive.S[p]?) : Kept { k with drive := ⟨S, [], lf, false⟩ } := by
  have hlen := hk.log.live.len
  have hm := (DiskP.may_iff _).1 hk.log.live.may
  have hroom := hk.log.has.room
  unfold half at hf
  refine ⟨hk.cut, hk.hd, ⟨⟨LogP.may_mk (by rw [hn]; exact hm.1) (by rw [hn]; exact hm.2.1) hl hS (fun w hw => by cases hw), by rw [← hlen]; exact hn, rfl⟩, rfl, ?_, hk.log.log, hk.log.q1, hk.log.len2⟩, hk.pages, hk.few, by rw [← hk.here]; exact hp, ho, ?_⟩
  · exact hk.log.has.agree hS hn (fun j j1 j2 => hf j (by omega) (by omega)) fun s hs => hk.log.has.stop s (by rw [← hf _ (by omega) (by omega)]; exact hs)
  · refine hk.text.agree fun j j1 j2 => hf j (by omega) ?_
    rw [LogP.chunks_len] at j2
    have := hk.few
    rw [hk.pages] at this
    omega
theorem Kept.crash {k : K} (hk : Kept k) (f : Fate) : Kept { k with drive := DiskP.crash k.drive f } := by
  rw [DiskP.crash_quiet f hk.log.live.may hk.log.quiet]
  exact kept_same hk hk.log.live.sized rfl (by omega) rfl hk.other fun _ _ _ => rfl
/-! ### Save, of what is kept -/

theorem place_lt (g : Nat) : g % 2 < 2 ∧ 1 - g % 2 < 2 ∧ 1 - g % 2 ≠ g % 2 := by omega
theorem allW_ok {n : Nat} : ∀ {ps : List (Nat × Bytes)}, (∀ p ∈ ps, okP n p) → ∀ w ∈ allW ps, 0 ≤ w.at_ ∧ w.at_ < (n : Int) ∧ w.s.length = 128 := by
  intro ps
  induction ps with
  | nil => intro _ w hw; cases hw
  | cons p ps ih =>
    intro hp w hw
    obtain ⟨k, hk, hi⟩ := hp p (by simp)
    have ek : p.2.length / 128 = k := by omega
    rw [allW, List.mem_append, ek] at hw
    rcases hw with hw | hw
    · obtain ⟨q1, q2, q3⟩ := LogP.writes_ok (tl := []) hk (by rw [List.append_nil]) w hw
      exact ⟨by omega, by omega, q3⟩
    · exact ih (fun q hq => hp q (by simp [hq])) w hw
theorem save_sized {d : Disk} {c : Cut} {h : Head} {F : Bytes} {m : Nat} (hl : Live (size c) d) (hc : okC c) (hh : okH h) (hF : F.length = 128 * m) (hm : m ≤ 8 * c.pages) :
    Sized (DiskP.doneGo (DiskP.done d) (allW (savePs c h F))) ∧ (DiskP.doneGo (DiskP.done d) (allW (savePs c h F))).length = size c :=
  ⟨DiskP.doneGo_size _ (fun w hw => (allW_ok (save_fits hc hh hF hm) w hw).2.2) _ hl.done_sized, by rw [DiskP.doneGo_len, hl.done_len]⟩
theorem sized_set {S : List Bytes} (hS : Sized S) (p : Nat) {s : Bytes} (hs : s.length = 128) : Sized (S.set p s) := fun c hc => by
  rcases List.mem_or_eq_of_mem_set hc with hc | rfl
  · exact hS c hc
  · exact hs
section
variable {d : Disk} {c : Cut} {h : Head} {t : Bytes}
theorem save_text {S : List Bytes} (hc : okC c) (hh : okH h) (hp : h.pages = (pagesP t).length) (hf : h.pages ≤ c.pages) (hS : S.length = size c) :
    At (DiskP.doneGo S (allW (savePs c h (pagesP t).flatten))) (start c h.half + c.log) (chunks (pagesP t).flatten (8 * (pagesP t).length)) := by
  intro j hj
  rw [LogP.chunks_len] at hj
  have hs := start_ge c h.half
  have := hc.1
  rw [save_get hc hh (pages_len t) (by omega) hS, if_neg (by omega), if_pos (by omega), Nat.add_sub_cancel_left]
/-- what is saved is kept -/
theorem save_ok (hl : Live (size c) d) (hc : okC c) (hh : okH h) (hp : h.pages = (pagesP t).length) (hf : h.pages ≤ c.pages) (ho : ∀ s, (DiskP.done d)[1 - h.gen % 2]? = some s → Old s h.gen) {d' : Disk} (e : saveP d c h (pagesP t) = (d', 0)) :
    Kept ⟨c, d', h, t, [], beginP c h⟩ ∧ (d.left = -1 → d'.left = -1) := by
  obtain ⟨d2, e2, h1, _, h3⟩ := save_cases hl hc hh (pages_len t) (by omega)
  rw [e] at h1
  injection h1 with h1 h1'
  subst h1 h1'
  rcases h3 with ⟨_, lf, rfl, l1, l2⟩ | ⟨h0, _⟩ | ⟨h0, _⟩
  · refine ⟨?_, l2⟩
    obtain ⟨hz, hzl⟩ := save_sized hl hc hh (pages_len t) (m := 8 * (pagesP t).length) (by omega)
    have hs := start_ge c h.half
    obtain ⟨p1, p2, p3⟩ := place_lt h.gen
    have hsz : 2 ≤ size c := by unfold size; omega
    have hget := fun p => save_get (p := p) hc hh (pages_len t) (m := 8 * (pagesP t).length) (by omega) hl.done_len
    refine kept_new hc hh hp hf (sized_set hz _ (sectorB_len h)) (by rw [List.length_set]; exact hzl) l1 (by rw [List.getElem?_set_self (by omega)]) ?_ ?_ ?_
    · rw [List.getElem?_set_ne (by omega), hget, if_pos (.inr rfl)]
    · intro j hj
      rw [List.getElem?_set_ne (by omega)]
      exact save_text hc hh hp hf hl.done_len j hj
    · intro s hs'
      rw [List.getElem?_set_ne (by omega), hget, if_neg (by omega), if_neg (by omega)] at hs'
      exact ho s hs'
  · cases h0
  · cases h0
theorem save_err (hl : Live (size c) d) (hc : okC c) (hh : okH h) (hp : h.pages = (pagesP t).length) (hf : h.pages ≤ c.pages) {d' : Disk} {e : Nat} (he : saveP d c h (pagesP t) = (d', e)) (hne : e ≠ 0) : e = 14 ∧ d.left ≠ -1 ∧ DiskP.may d' = true ∧ d'.dead = true := by
  obtain ⟨d2, e2, h1, hm, h3⟩ := save_cases hl hc hh (pages_len t) (by omega)
  rw [he] at h1
  injection h1 with h1 h1'
  subst h1 h1'
  rcases h3 with ⟨h0, _⟩ | ⟨h0, q1, q2, _⟩ | ⟨h0, q1, q2, _⟩
  · exact absurd h0 hne
  · exact ⟨h0, q1, hm, q2⟩
  · exact ⟨h0, q1, hm, q2⟩
end

/-! ### Add -/

theorem append_far {n : Nat} {d : Disk} {l : Log} {s : Bytes} (h : Live n d) (hW : d.W = []) (hok : okL d l) (hs : s.length ≤ 4000) (hr : LogP.secs s.length + 1 + l.at_ ≤ l.len) {d' : Disk} {l' : Log} {e : Nat} (he : LogP.appendP d l s = (d', l', e)) :
    (∀ f : Fate, ∀ p, p < l.frm ∨ l.frm + l.len ≤ p → (if e = 0 then d'.S else (DiskP.crash d' f).S)[p]? = d.S[p]?) ∧ (e = 0 → d'.W = [] ∧ d'.dead = false ∧ -1 ≤ d'.left ∧ Sized d'.S ∧ d'.S.length = d.S.length) := by
  obtain ⟨d2, l2, e2, h1, hA, hm⟩ := LogP.append_cases h hW hok hs hr
  rw [he] at h1
  injection h1 with h1 h1'
  injection h1' with h1' h1''
  subst h1 h1' h1''
  have hp := LogP.secs_pos hs
  cases hA with
  | ok S' lf q1 q2 q3 q4 q5 q6 q7 =>
    exact ⟨fun f p hp' => by rw [if_pos rfl]; exact q5 p (by omega), fun _ => ⟨rfl, rfl, q1, q3, q4⟩⟩
  | early ws lf q1 q2 q3 =>
    refine ⟨fun f p hp' => ?_, fun h0 => by cases h0⟩
    obtain ⟨_, _, c3, _⟩ := LogP.crash_may f hm
    rw [if_neg (by decide), c3]
    exact LogP.crashGo_ne f ws 0 d.S p fun w hw => by have := q3 w hw; omega
  | late S1 ws lf q1 q2 q3 q4 q5 q6 q7 q8 =>
    refine ⟨fun f p hp' => ?_, fun h0 => by cases h0⟩
    obtain ⟨_, _, c3, _⟩ := LogP.crash_may f hm
    rw [if_neg (by decide), c3]
    have e1 : (DiskP.crashGo f 0 ws S1)[p]? = S1[p]? := LogP.crashGo_ne f ws 0 S1 p fun w hw => by
      rcases q8 with rfl | rfl
      · cases hw
      · simp only [List.mem_singleton] at hw; subst hw
        show ((l.frm + l.at_ : Nat) : Int).toNat ≠ p
        rw [Int.toNat_natCast]; omega
    show (DiskP.crashGo f 0 ws S1)[p]? = _
    rw [e1]
    exact q5 p (by omega)

/-- a record that is added to what is kept -/
theorem Kept.add {k : K} (hk : Kept k) (hq : k.head.seq + k.records.length ≤ maxSeq) (s : Bytes) :
    (4000 < s.length ∧ LogP.appendP k.drive k.log s = (DiskP.zero, zeroL, 1)) ∨
    (s.length ≤ 4000 ∧ ¬ LogP.sum k.records + LogP.secs s.length < k.cut.log ∧ LogP.appendP k.drive k.log s = (DiskP.zero, zeroL, 13)) ∨
    (s.length ≤ 4000 ∧ LogP.sum k.records + LogP.secs s.length < k.cut.log ∧ ∃ d' l' e, LogP.appendP k.drive k.log s = (d', l', e) ∧
      ((e = 0 ∧ Kept { k with drive := d', records := k.records ++ [s], log := l' } ∧ (k.drive.left = -1 → d'.left = -1)) ∨
       (e = 14 ∧ k.drive.left ≠ -1 ∧ DiskP.may d' = true ∧ ∀ f : Fate, Kept { k with drive := DiskP.crash d' f } ∨ ∃ l2, Kept { k with drive := DiskP.crash d' f, records := k.records ++ [s], log := l2 }))) := by
  have hfit := half_fit (c := k.cut) hk.hd.2.2.1
  have hst := start_ge k.cut k.head.half
  have hplt := place_lt k.head.gen
  have hlg := hk.log.log
  have hfrm : k.log.frm = start k.cut k.head.half := by rw [hlg]
  have hln : k.log.len = k.cut.log := by rw [hlg]
  have hat : k.log.at_ = 0 + LogP.sum k.records := by rw [hlg]
  have joined : ∀ {D : Disk} {recs : List Bytes} {l : Log}, Holds (size k.cut) D (start k.cut k.head.half) k.cut.log 0 k.head.seq recs l → (∀ p, p < start k.cut k.head.half ∨ start k.cut k.head.half + k.cut.log ≤ p → D.S[p]? = k.drive.S[p]?) →
      Kept { k with drive := D, records := recs, log := l } := fun hH far => by
    refine ⟨hk.cut, hk.hd, hH, hk.pages, hk.few, ?_, fun s hs => hk.other s ?_, ?_⟩
    · show _ = some (sectorB k.head)
      rw [← hk.here]
      exact far _ (.inl (by omega))
    · rw [← far _ (.inl (by omega))]; exact hs
    · exact hk.text.agree fun j j1 j2 => far j (.inr (by omega))
  rcases hk.log.append hq s with h1 | ⟨h1, h2, h3⟩ | ⟨h1, h2, d', l', e, h3, h4⟩
  · exact .inl h1
  · exact .inr (.inl ⟨h1, by omega, h3⟩)
  · refine .inr (.inr ⟨h1, by omega, d', l', e, h3, ?_⟩)
    obtain ⟨far, _⟩ := append_far hk.log.live hk.log.quiet (hk.log.okL hq) h1 (by omega) h3
    rw [hfrm, hln] at far
    rcases h4 with ⟨rfl, hH, hlf⟩ | ⟨rfl, hlf, _, hm, hH⟩
    · exact .inl ⟨rfl, joined hH fun p hp => far ⟨[], 0, 0⟩ p hp, hlf⟩
    · refine .inr ⟨rfl, hlf, hm, fun f => ?_⟩
      rcases hH f with hH | hH
      · exact .inl (joined hH fun p hp => far f p hp)
      · exact .inr ⟨_, joined hH fun p hp => far f p hp⟩

/-! ### Open -/

def openP (d : Disk) (c : Cut) : Option K × Nat :=
  match newestP ((DiskP.done d).getD 0 []) ((DiskP.done d).getD 1 []) with
  | none => (none, 6)
  | some h =>
    if c.pages < h.pages then (none, 15)
    else match textsN (((DiskP.done d).drop (start c h.half + c.log)).take (8 * h.pages)).flatten h.pages with
      | none => (none, 15)
      | some t => (some ⟨c, d, h, t, (LogP.scanP d (beginP c h)).1, (LogP.scanP d (beginP c h)).2.1⟩, 0)
theorem Kept.opened {k : K} (hk : Kept k) : openP k.drive k.cut = (some k, 0) := by
  have hd : DiskP.done k.drive = k.drive.S := by rw [DiskP.done, hk.log.quiet]; rfl
  have hlen := hk.log.live.len
  have hfit := half_fit (c := k.cut) hk.hd.2.2.1
  unfold half at hfit
  have hpg := hk.few
  rw [openP, hd, newest_here hk.hd hk.here hk.other (by rw [hlen]; unfold size; omega)]
  simp only
  rw [if_neg (by omega)]
  have e : ((k.drive.S.drop (start k.cut k.head.half + k.cut.log)).take (8 * k.head.pages)).flatten = (pagesP k.text).flatten := by
    rw [hk.text.is (by rw [LogP.chunks_len, hk.pages]; omega), LogP.chunks_len, hk.pages, Nat.sub_self, List.take_zero, List.append_nil, LogP.chunks_flatten _ _ (pages_len _)]
  rw [e]
  have e2 : textsN (pagesP k.text).flatten k.head.pages = some k.text := by rw [hk.pages]; exact texts_pages _
  rw [e2]
  simp only
  rw [beginP, hk.log.scan]
end Go.Proofs.YtojincohnjophaaGreatDoor.KeepP
