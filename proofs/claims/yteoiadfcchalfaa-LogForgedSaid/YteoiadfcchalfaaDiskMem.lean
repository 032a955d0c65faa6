/- Disks in memory: a slice of sectors and a slice of writes that read as a disk. -/
import Derived.Test.YteoiadfcchalfaaBase
import Derived.Test.YteoiadfcchalfaaDiskLaw
namespace Go.Proofs.Yteoiadfcchalfaa
open Go.RowKit
open DiskP (Bytes Disk Wr)
set_option linter.unusedVariables false

/-- octets as a string -/
def mkB (l : List UInt8) : ByteArray := ⟨l.toArray⟩
theorem oct_mkB (l : List UInt8) : oct (mkB l) = l := oct_mk l
theorem mkB_oct (s : ByteArray) : mkB (oct s) = s := mk_oct s
theorem mkB_size (l : List UInt8) : (mkB l).size = l.length := size_mk l
theorem mkB_inj {a b : List UInt8} (h : mkB a = mkB b) : a = b := by rw [← oct_mkB a, h, oct_mkB]

/-- sectors as cells -/
def secV (S : List Bytes) : List Value := strs (S.map mkB)
theorem secV_length (S : List Bytes) : (secV S).length = S.length := by simp [secV, strs_length]
theorem secV_get (S : List Bytes) (k : Nat) : (secV S)[k]? = (S[k]?).map fun s => .string (mkB s) := by
  simp [secV, strs, List.getElem?_map]
  rfl
theorem secV_one (S : List Bytes) : ∀ u ∈ secV S, u.oneCell' = true := strs_one _
theorem secV_append (a b : List Bytes) : secV (a ++ b) = secV a ++ secV b := by simp [secV, strs_append]

/-- writes as cells -/
def wrV : List Wr → List Value
  | [] => []
  | w :: l => .int .i64 w.at_ :: .string (mkB w.s) :: wrV l
theorem wrV_append (a b : List Wr) : wrV (a ++ b) = wrV a ++ wrV b := by
  induction a with
  | nil => rfl
  | cons c a ih => simp [wrV, ih]
theorem wrV_length (a : List Wr) : (wrV a).length = a.length * 2 := by
  induction a with
  | nil => rfl
  | cons c a ih => simp [wrV, ih]; omega
theorem wrV_one (l : List Wr) : ∀ u ∈ wrV l, u.oneCell' = true := by
  induction l with
  | nil => intro u h; cases h
  | cons c l ih =>
    intro u h
    simp only [wrV, List.mem_cons] at h
    rcases h with rfl | rfl | h
    · rfl
    · rfl
    · exact ih u h
theorem wrV_get {l : List Wr} {k : Nat} {c : Wr} (h : l[k]? = some c) : (wrV l)[k * 2]? = some (.int .i64 c.at_) ∧ (wrV l)[k * 2 + 1]? = some (.string (mkB c.s)) := by
  induction l generalizing k with
  | nil => simp at h
  | cons d l ih =>
    cases k with
    | zero => simp at h; subst h; exact ⟨rfl, rfl⟩
    | succ k =>
      have := ih (k := k) (by simpa using h)
      rw [show (k + 1) * 2 = k * 2 + 2 by omega]
      simpa [wrV] using this

/-- two slices that read as a disk's sectors and writes; their blocks are some of V -/
structure Dk (w : World) (V : Nat → Prop) (A : Option Addr) (n c : Nat) (B : Option Addr) (m e : Nat) (d : Disk) : Prop where
  sS : Sl w V 1 A n (secV d.S)
  sW : Sl w V 2 B m (wrV d.W)
  nle : n ≤ 1000000000
  mle : m ≤ 1000000000
  cle : n ≤ c
  ele : m ≤ e
  hi : d.left ≤ 9223372036854775807
section
variable {w w' : World} {V V' : Nat → Prop} {A B : Option Addr} {n c m e : Nat} {d : Disk}
theorem Dk.len (h : Dk w V A n c B m e d) : d.S.length = n := by have := h.sS.1; rw [secV_length] at this; omega
theorem Dk.wlen (h : Dk w V A n c B m e d) : d.W.length = m := by have := h.sW.1; rw [wrV_length] at this; omega
theorem Dk.below (h : Dk w V A n c B m e d) (hb : Below w.heap.size w w') : Dk w' V A n c B m e d := ⟨h.sS.below hb, h.sW.below hb, h.nle, h.mle, h.cle, h.ele, h.hi⟩
theorem Dk.keep (h : Dk w V A n c B m e d) (hs : w.heap.size ≤ w'.heap.size) (hk : ∀ b, V b → b < w.heap.size → w'.heap[b]? = w.heap[b]?) : Dk w' V A n c B m e d := ⟨h.sS.keep hs hk, h.sW.keep hs hk, h.nle, h.mle, h.cle, h.ele, h.hi⟩
theorem Dk.mono (h : Dk w V A n c B m e d) (hV : ∀ b, V b → V' b) : Dk w V' A n c B m e d := ⟨h.sS.mono hV, h.sW.mono hV, h.nle, h.mle, h.cle, h.ele, h.hi⟩
theorem Dk.any (h : Dk w V A n c B m e d) : Dk w (fun _ => True) A n c B m e d := h.mono fun _ _ => trivial
theorem Dk.lt (h : Dk w V A n c B m e d) : Dk w (fun b => b < w.heap.size) A n c B m e d := ⟨h.sS.lt, h.sW.lt, h.nle, h.mle, h.cle, h.ele, h.hi⟩
theorem Dk.lt' (h : Dk w V A n c B m e d) : Dk w (fun b => V b ∧ b < w.heap.size) A n c B m e d := ⟨h.sS.lt', h.sW.lt', h.nle, h.mle, h.cle, h.ele, h.hi⟩
theorem Dk.other (h : Dk w V A n c B m e d) {d' : Disk} (hS : d'.S = d.S) (hW : d'.W = d.W) (hl : d'.left ≤ 9223372036854775807) : Dk w V A n c B m e d' := ⟨by rw [hS]; exact h.sS, by rw [hW]; exact h.sW, h.nle, h.mle, h.cle, h.ele, hl⟩
/-- a sector in memory -/
theorem Dk.sec {k : Nat} (h : Dk w V A n c B m e d) (hk : k < n) : ∃ a s, A = some a ∧ d.S[k]? = some s ∧ w.cell? (a.add k) = some (.string (mkB s)) := by
  obtain ⟨a, u, e, hx, hc⟩ := h.sS.at_ hk
  rw [secV_get] at hx
  cases hs : d.S[k]? with
  | none => rw [hs] at hx; cases hx
  | some s =>
    rw [hs] at hx
    simp only [Option.map_some, Option.some.injEq] at hx
    exact ⟨a, s, e, rfl, by rw [hx]; exact hc⟩
/-- a write in memory -/
theorem Dk.wr {k : Nat} (h : Dk w V A n c B m e d) (hk : k < m) :
    ∃ a x, B = some a ∧ d.W[k]? = some x ∧ w.cell? (a.add (k * 2)) = some (.int .i64 x.at_) ∧ w.cell? ⟨(a.add (k * 2)).block, (a.add (k * 2)).off + 1, none⟩ = some (.string (mkB x.s)) := by
  obtain ⟨a, e, _, _, hc⟩ := h.sW.2 (by omega)
  have hl : k < d.W.length := by have := h.wlen; omega
  have := wrV_get (List.getElem?_eq_getElem hl)
  exact ⟨a, d.W[k], e, List.getElem?_eq_getElem hl, hc _ _ this.1, by rw [← Addr.add_succ' _ 0, add_add']; exact hc _ _ this.2⟩
end

/-- a disk as a value -/
abbrev dkv (A : Option Addr) (n c : Nat) (B : Option Addr) (m e : Nat) (lf : Int) (b : Bool) : Value := .agg #[.slice A n c, .slice B m e, .int .i64 lf, .bool b]
/-- a value that reads as a disk -/
def DkV (w : World) (V : Nat → Prop) (v : Value) (d : Disk) : Prop := ∃ A n c B m e, v = dkv A n c B m e d.left d.dead ∧ Dk w V A n c B m e d
theorem DkV.below {w w' : World} {V : Nat → Prop} {v : Value} {d : Disk} (h : DkV w V v d) (hb : Below w.heap.size w w') : DkV w' V v d := by
  obtain ⟨A, n, c, B, m, e, hv, h⟩ := h
  exact ⟨A, n, c, B, m, e, hv, h.below hb⟩
theorem DkV.mono {w : World} {V V' : Nat → Prop} {v : Value} {d : Disk} (h : DkV w V v d) (hV : ∀ b, V b → V' b) : DkV w V' v d := by
  obtain ⟨A, n, c, B, m, e, hv, h⟩ := h
  exact ⟨A, n, c, B, m, e, hv, h.mono hV⟩
theorem DkV.keep {w w' : World} {V : Nat → Prop} {v : Value} {d : Disk} (h : DkV w V v d) (hs : w.heap.size ≤ w'.heap.size) (hk : ∀ b, V b → b < w.heap.size → w'.heap[b]? = w.heap[b]?) : DkV w' V v d := by
  obtain ⟨A, n, c, B, m, e, hv, h⟩ := h
  exact ⟨A, n, c, B, m, e, hv, h.keep hs hk⟩

theorem bcell {B : Nat} {a w : World} (hb : Below B a w) {b o : Nat} {v : Value} (h : b < B) (hc : a.cell? ⟨b, o, none⟩ = some v) : w.cell? ⟨b, o, none⟩ = some v := (hb.cell (p := ⟨b, o, none⟩) h).trans hc

/-- a block that is known whole -/
def Box (w : World) (b : Nat) (T : TypeId) (vs : Array Value) : Prop := w.heap[b]? = some (.cells vs T (0, 0))
section
variable {w w' : World} {b : Nat} {T : TypeId} {vs : Array Value}
theorem Box.cellAt (h : Box w b T vs) {i : Nat} {v : Value} (hi : vs[i]? = some v) : w.cell? ⟨b, i, none⟩ = some v := by
  unfold Box at h
  simp [World.cell?, h, hi]
theorem Box.frozen (h : Box w b T vs) (i : Nat) : w.frozen? ⟨b, i, none⟩ = false := by
  unfold Box at h
  simp [World.frozen?, h]
theorem Box.lt (h : Box w b T vs) : b < w.heap.size := (Array.getElem?_eq_some_iff.1 h).1
theorem Box.new (w : World) (T : TypeId) (vs : Array Value) : Box (w.alloc (.cells vs T)) w.heap.size T vs := heap_alloc_new w _
theorem Box.at (h : Box w b T vs) (hk : w'.heap[b]? = w.heap[b]?) : Box w' b T vs := by unfold Box at *; rw [hk]; exact h
theorem Box.below {B : Nat} (h : Box w b T vs) (hb : Below B w w') (hlt : b < B) : Box w' b T vs := h.at (hb.block b hlt)
theorem Box.belowS (h : Box w b T vs) (hb : Below w.heap.size w w') : Box w' b T vs := h.below hb h.lt
theorem Box.up (h : Box w b T vs) (o : Obj) : Box (w.alloc o) b T vs := h.belowS ((Below.refl _ _).alloc (Nat.le_refl _) o)
theorem Box.drew (h : Box w b T vs) : Box w.drew b T vs := h
theorem Box.other (h : Box w b T vs) {a : Addr} (ha : a.block ≠ b) (u : Value) : Box (w.setCell a u) b T vs := by
  unfold Box at *
  simp only [World.setCell, Array.getElem?_modify]
  rw [if_neg ha, h]
theorem Box.set (h : Box w b T vs) (i : Nat) (u : Value) : Box (w.setCell ⟨b, i, none⟩ u) b T (vs.setIfInBounds i u) := by
  unfold Box at *
  simp [World.setCell, Array.getElem?_modify, h]
theorem Box.cell4 {v0 v1 v2 v3 : Value} (h : Box w b T #[v0, v1, v2, v3]) : w.cell? ⟨b, 0, none⟩ = some v0 ∧ w.cell? ⟨b, 1, none⟩ = some v1 ∧ w.cell? ⟨b, 2, none⟩ = some v2 ∧ w.cell? ⟨b, 3, none⟩ = some v3 :=
  ⟨h.cellAt rfl, h.cellAt rfl, h.cellAt rfl, h.cellAt rfl⟩
theorem Box.set4 {v0 v1 v2 v3 u0 u1 u2 u3 : Value} (h : Box w b T #[v0, v1, v2, v3]) : Box ((((w.setCell ⟨b, 0, none⟩ u0).setCell ⟨b, 1, none⟩ u1).setCell ⟨b, 2, none⟩ u2).setCell ⟨b, 3, none⟩ u3) b T #[u0, u1, u2, u3] :=
  (((h.set 0 u0).set 1 u1).set 2 u2).set 3 u3
end
theorem below_set4 {B b : Nat} {a w : World} {u0 u1 u2 u3 : Value} (h : Below B a w) (hb : B ≤ b) : Below B a ((((w.setCell ⟨b, 0, none⟩ u0).setCell ⟨b, 1, none⟩ u1).setCell ⟨b, 2, none⟩ u2).setCell ⟨b, 3, none⟩ u3) :=
  (((h.setCell hb u0).setCell hb u1).setCell hb u2).setCell hb u3
end Go.Proofs.Yteoiadfcchalfaa
