/- The plain mathematics of layer 17 (disk): what a disk is, what is read, written, done by a barrier, kept by a crash. No program in sight. -/
import Derived.Below
namespace Go.Proofs.Yteoiadfcchalfaa.DiskP

abbrev Bytes := List UInt8

structure Wr where
  at_ : Int
  s : Bytes

structure Disk where
  S : List Bytes
  W : List Wr
  left : Int
  dead : Bool

def zero : Disk := ⟨[], [], 0, false⟩

def mayW (n : Nat) (w : Wr) : Bool := decide (0 ≤ w.at_) && decide (w.at_ < (n : Int)) && decide (w.s.length = 128)
def may (d : Disk) : Bool :=
  decide (1 ≤ d.S.length) && decide (d.S.length ≤ 4000) && decide (-1 ≤ d.left) && d.S.all (fun s => decide (s.length = 128)) && d.W.all (mayW d.S.length)

def noughts (n : Nat) : Bytes := List.replicate n 0
def new (n : Nat) : Disk := ⟨List.replicate n (noughts 128), [], -1, false⟩

/-- the sectors, when what waits is done -/
def doneGo (l : List Bytes) (ws : List Wr) : List Bytes := ws.foldl (fun l w => l.set w.at_.toNat w.s) l
def done (d : Disk) : List Bytes := doneGo d.S d.W

/-- is one write, or barrier, more done? -/
def alive (d : Disk) : Bool := !d.dead && !(d.left == 0)
def spent (d : Disk) : Disk := if d.dead || d.left == 0 then { d with dead := true } else if 0 < d.left then { d with left := d.left - 1 } else d

def there (d : Disk) (i n : Int) : Bool := decide (0 ≤ i) && decide (0 ≤ n) && decide (i ≤ d.S.length) && decide (n ≤ d.S.length - i)

/-- the number of the error, and what is read -/
def read (d : Disk) (i n : Int) : Bytes × Nat :=
  if may d = false then ([], 1) else if there d i n = false then ([], 16) else if d.dead then ([], 14)
  else ((((done d).drop i.toNat).take n.toNat).flatten, 0)

/-- sectors of octets -/
def sect (s : Bytes) (k : Nat) : Bytes := (s.drop (128 * k)).take 128

/-- k writes more, of n in all, from sector i on -/
def putGo (s : Bytes) (i : Int) : (k : Nat) → (j : Nat) → Disk → Disk × Nat
  | 0, _, d => (d, 0)
  | k + 1, j, d => if alive d = false then (spent d, 14) else putGo s i k (j + 1) { spent d with W := d.W ++ [⟨i + j, sect s j⟩] }
def put (d : Disk) (i : Int) (s : Bytes) : Disk × Nat :=
  if may d = false || s.length == 0 || s.length % 128 != 0 then (zero, 1)
  else if there d i (s.length / 128 : Nat) = false then (zero, 16)
  else putGo s i (s.length / 128) 0 d

def barrier (d : Disk) : Disk × Nat :=
  if may d = false then (zero, 1)
  else if alive d = false then (spent d, 14)
  else ({ spent d with S := done d, W := [] }, 0)

structure Fate where
  keep : List Bool
  torn : Int
  cut : Int

/-- how many octets of the write i are kept -/
def kept (f : Fate) (i : Nat) : Nat :=
  if (i : Int) = f.torn then (max 0 (min f.cut 128)).toNat else if f.keep.getD i false then 128 else 0

def crashGo (f : Fate) : (i : Nat) → (ws : List Wr) → (l : List Bytes) → List Bytes
  | _, [], l => l
  | i, w :: ws, l => crashGo f (i + 1) ws (l.set w.at_.toNat (w.s.take (kept f i) ++ (l.getD w.at_.toNat []).drop (kept f i)))
def crash (d : Disk) (f : Fate) : Disk := if may d = false then zero else ⟨crashGo f 0 d.W d.S, [], -1, false⟩

def budget (d : Disk) (n : Int) : Disk × Nat := if may d = false || decide (n < -1) then (zero, 1) else ({ d with left := n }, 0)

/-! ### What may be -/

theorem may_iff (d : Disk) : may d = true ↔ 1 ≤ d.S.length ∧ d.S.length ≤ 4000 ∧ -1 ≤ d.left ∧ (∀ s ∈ d.S, s.length = 128) ∧ ∀ w ∈ d.W, 0 ≤ w.at_ ∧ w.at_ < d.S.length ∧ w.s.length = 128 := by
  simp [may, mayW, and_assoc]

end Go.Proofs.Yteoiadfcchalfaa.DiskP
