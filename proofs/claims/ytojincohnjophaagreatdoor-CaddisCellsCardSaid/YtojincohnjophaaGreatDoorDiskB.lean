/- The walks of layer 17: slices.Clone of sectors, done, Barrier, Budget. (merged: DiskMem DiskA DiskB) -/
import Derived.Test.YtojincohnjophaaGreatDoorTreePure
import Derived.Test.YtojincohnjophaaGreatDoorKeepLaw
/-! Disks in memory: a slice of sectors and a slice of writes that read as a disk. -/
namespace Go.Proofs.YtojincohnjophaaGreatDoor
open Go.RowKit
open DiskP (Bytes Disk Wr)
set_option linter.unusedVariables false

/-- octets as a string -/
def mkB (l : List UInt8) : ByteArray := ⟨l.toArray⟩
theorem oct_mkB (l : List UInt8) : oct (mkB l) = l := oct_mk l
theorem mkB_oct (s : ByteArray) : mkB (oct s) = s := mk_oct s
theorem mkB_size (l : List UInt8) : (mkB l).size = l.length := size_mk l
/-- sectors as cells -/
def secV (S : List Bytes) : List Value := strs (S.map mkB)
theorem secV_length (S : List Bytes) : (secV S).length = S.length := by simp [secV, strs_length]
theorem secV_get (S : List Bytes) (k : Nat) : (secV S)[k]? = (S[k]?).map fun s => .string (mkB s) := by
  simp [secV, strs, List.getElem?_map]
  rfl
theorem secV_one (S : List Bytes) : ∀ u ∈ secV S, u.oneCell' = true := strs_one _
/-- writes as cells -/
def wrV : List Wr → List Value
  | [] => []
  | w :: l => .int .i64 w.at_ :: .string (mkB w.s) :: wrV l
theorem wrV_append (a b : List Wr) : wrV (a ++ b) = wrV a ++ wrV b := by
  induction a with
  | nil => rfl
  | cons c a ih => simp [wrV, ih]
theorem wrV_length (a : List Wr) : (wrV a).length = a.length * 2 := by
  induction a with
  | nil => rfl
  | cons c a ih => simp [wrV, ih]; omega
theorem wrV_get {l : List Wr} {k : Nat} {c : Wr} (h : l[k]? = some c) : (wrV l)[k * 2]? = some (.int .i64 c.at_) ∧ (wrV l)[k * 2 + 1]? = some (.string (mkB c.s)) := by
  induction l generalizing k with
  | nil => simp at h
  | cons d l ih =>
    cases k with
    | zero => simp at h; subst h; exact ⟨rfl, rfl⟩
    | succ k =>
      have := ih (k := k) (by simpa using h)
      rw [show (k + 1) * 2 = k * 2 + 2 by omega]
      simpa [wrV] using this

/-- two slices that read as a disk's sectors and writes; their blocks are some of V -/
structure Dk (w : World) (V : Nat → Prop) (A : Option Addr) (n c : Nat) (B : Option Addr) (m e : Nat) (d : Disk) : Prop where
  sS : Sl w V 1 A n (secV d.S)
  sW : Sl w V 2 B m (wrV d.W)
  nle : n ≤ 1000000000
  mle : m ≤ 1000000000
  cle : n ≤ c
  ele : m ≤ e
  hi : d.left ≤ 9223372036854775807
section
variable {w w' : World} {V V' : Nat → Prop} {A B : Option Addr} {n c m e : Nat} {d : Disk}
theorem Dk.len (h : Dk w V A n c B m e d) : d.S.length = n := by have := h.sS.1; rw [secV_length] at this; omega
theorem Dk.wlen (h : Dk w V A n c B m e d) : d.W.length = m := by have := h.sW.1; rw [wrV_length] at this; omega
theorem Dk.below (h : Dk w V A n c B m e d) (hb : Below w.heap.size w w') : Dk w' V A n c B m e d := ⟨h.sS.below hb, h.sW.below hb, h.nle, h.mle, h.cle, h.ele, h.hi⟩
theorem Dk.keep (h : Dk w V A n c B m e d) (hs : w.heap.size ≤ w'.heap.size) (hk : ∀ b, V b → b < w.heap.size → w'.heap[b]? = w.heap[b]?) : Dk w' V A n c B m e d := ⟨h.sS.keep hs hk, h.sW.keep hs hk, h.nle, h.mle, h.cle, h.ele, h.hi⟩
theorem Dk.mono (h : Dk w V A n c B m e d) (hV : ∀ b, V b → V' b) : Dk w V' A n c B m e d := ⟨h.sS.mono hV, h.sW.mono hV, h.nle, h.mle, h.cle, h.ele, h.hi⟩
theorem Dk.any (h : Dk w V A n c B m e d) : Dk w (fun _ => True) A n c B m e d := h.mono fun _ _ => trivial
theorem Dk.lt (h : Dk w V A n c B m e d) : Dk w (fun b => b < w.heap.size) A n c B m e d := ⟨h.sS.lt, h.sW.lt, h.nle, h.mle, h.cle, h.ele, h.hi⟩
theorem Dk.lt' (h : Dk w V A n c B m e d) : Dk w (fun b => V b ∧ b < w.heap.size) A n c B m e d := ⟨h.sS.lt', h.sW.lt', h.nle, h.mle, h.cle, h.ele, h.hi⟩
theorem Dk.other (h : Dk w V A n c B m e d) {d' : Disk} (hS : d'.S = d.S) (hW : d'.W = d.W) (hl : d'.left ≤ 9223372036854775807) : Dk w V A n c B m e d' := ⟨by rw [hS]; exact h.sS, by rw [hW]; exact h.sW, h.nle, h.mle, h.cle, h.ele, hl⟩
/-- a sector in memory -/
theorem Dk.sec {k : Nat} (h : Dk w V A n c B m e d) (hk : k < n) : ∃ a s, A = some a ∧ d.S[k]? = some s ∧ w.cell? (a.add k) = some (.string (mkB s)) := by
  obtain ⟨a, u, e, hx, hc⟩ := h.sS.at_ hk
  rw [secV_get] at hx
  cases hs : d.S[k]? with
  | none => rw [hs] at hx; cases hx
  | some s =>
    rw [hs] at hx
    simp only [Option.map_some, Option.some.injEq] at hx
    exact ⟨a, s, e, rfl, by rw [hx]; exact hc⟩
/-- a write in memory -/
theorem Dk.wr {k : Nat} (h : Dk w V A n c B m e d) (hk : k < m) :
    ∃ a x, B = some a ∧ d.W[k]? = some x ∧ w.cell? (a.add (k * 2)) = some (.int .i64 x.at_) ∧ w.cell? ⟨(a.add (k * 2)).block, (a.add (k * 2)).off + 1, none⟩ = some (.string (mkB x.s)) := by
  obtain ⟨a, e, _, _, hc⟩ := h.sW.2 (by omega)
  have hl : k < d.W.length := by have := h.wlen; omega
  have := wrV_get (List.getElem?_eq_getElem hl)
  exact ⟨a, d.W[k], e, List.getElem?_eq_getElem hl, hc _ _ this.1, by rw [← Addr.add_succ' _ 0, add_add']; exact hc _ _ this.2⟩
end

/-- a disk as a value -/
abbrev dkv (A : Option Addr) (n c : Nat) (B : Option Addr) (m e : Nat) (lf : Int) (b : Bool) : Value := .agg #[.slice A n c, .slice B m e, .int .i64 lf, .bool b]
/-- a value that reads as a disk -/
def DkV (w : World) (V : Nat → Prop) (v : Value) (d : Disk) : Prop := ∃ A n c B m e, v = dkv A n c B m e d.left d.dead ∧ Dk w V A n c B m e d
theorem DkV.below {w w' : World} {V : Nat → Prop} {v : Value} {d : Disk} (h : DkV w V v d) (hb : Below w.heap.size w w') : DkV w' V v d := by
  obtain ⟨A, n, c, B, m, e, hv, h⟩ := h
  exact ⟨A, n, c, B, m, e, hv, h.below hb⟩
theorem DkV.mono {w : World} {V V' : Nat → Prop} {v : Value} {d : Disk} (h : DkV w V v d) (hV : ∀ b, V b → V' b) : DkV w V' v d := by
  obtain ⟨A, n, c, B, m, e, hv, h⟩ := h
  exact ⟨A, n, c, B, m, e, hv, h.mono hV⟩
theorem DkV.keep {w w' : World} {V : Nat → Prop} {v : Value} {d : Disk} (h : DkV w V v d) (hs : w.heap.size ≤ w'.heap.size) (hk : ∀ b, V b → b < w.heap.size → w'.heap[b]? = w.heap[b]?) : DkV w' V v d := by
  obtain ⟨A, n, c, B, m, e, hv, h⟩ := h
  exact ⟨A, n, c, B, m, e, hv, h.keep hs hk⟩

theorem bcell {B : Nat} {a w : World} (hb : Below B a w) {b o : Nat} {v : Value} (h : b < B) (hc : a.cell? ⟨b, o, none⟩ = some v) : w.cell? ⟨b, o, none⟩ = some v := (hb.cell (p := ⟨b, o, none⟩) h).trans hc

/-- a block that is known whole -/
def Box (w : World) (b : Nat) (T : TypeId) (vs : Array Value) : Prop := w.heap[b]? = some (.cells vs T (0, 0))
section
variable {w w' : World} {b : Nat} {T : TypeId} {vs : Array Value}
theorem Box.cellAt (h : Box w b T vs) {i : Nat} {v : Value} (hi : vs[i]? = some v) : w.cell? ⟨b, i, none⟩ = some v := by
  unfold Box at h
  simp [World.cell?, h, hi]
theorem Box.frozen (h : Box w b T vs) (i : Nat) : w.frozen? ⟨b, i, none⟩ = false := by
  unfold Box at h
  simp [World.frozen?, h]
theorem Box.lt (h : Box w b T vs) : b < w.heap.size := (Array.getElem?_eq_some_iff.1 h).1
theorem Box.new (w : World) (T : TypeId) (vs : Array Value) : Box (w.alloc (.cells vs T)) w.heap.size T vs := heap_alloc_new w _
theorem Box.at (h : Box w b T vs) (hk : w'.heap[b]? = w.heap[b]?) : Box w' b T vs := by unfold Box at *; rw [hk]; exact h
theorem Box.below {B : Nat} (h : Box w b T vs) (hb : Below B w w') (hlt : b < B) : Box w' b T vs := h.at (hb.block b hlt)
theorem Box.belowS (h : Box w b T vs) (hb : Below w.heap.size w w') : Box w' b T vs := h.below hb h.lt
theorem Box.up (h : Box w b T vs) (o : Obj) : Box (w.alloc o) b T vs := h.belowS ((Below.refl _ _).alloc (Nat.le_refl _) o)
theorem Box.drew (h : Box w b T vs) : Box w.drew b T vs := h
theorem Box.other (h : Box w b T vs) {a : Addr} (ha : a.block ≠ b) (u : Value) : Box (w.setCell a u) b T vs := by
  unfold Box at *
  simp only [World.setCell, Array.getElem?_modify]
  rw [if_neg ha, h]
theorem Box.set (h : Box w b T vs) (i : Nat) (u : Value) : Box (w.setCell ⟨b, i, none⟩ u) b T (vs.setIfInBounds i u) := by
  unfold Box at *
  simp [World.setCell, Array.getElem?_modify, h]
theorem Box.cell4 {v0 v1 v2 v3 : Value} (h : Box w b T #[v0, v1, v2, v3]) : w.cell? ⟨b, 0, none⟩ = some v0 ∧ w.cell? ⟨b, 1, none⟩ = some v1 ∧ w.cell? ⟨b, 2, none⟩ = some v2 ∧ w.cell? ⟨b, 3, none⟩ = some v3 :=
  ⟨h.cellAt rfl, h.cellAt rfl, h.cellAt rfl, h.cellAt rfl⟩
theorem Box.set4 {v0 v1 v2 v3 u0 u1 u2 u3 : Value} (h : Box w b T #[v0, v1, v2, v3]) : Box ((((w.setCell ⟨b, 0, none⟩ u0).setCell ⟨b, 1, none⟩ u1).setCell ⟨b, 2, none⟩ u2).setCell ⟨b, 3, none⟩ u3) b T #[u0, u1, u2, u3] :=
  (((h.set 0 u0).set 1 u1).set 2 u2).set 3 u3
end
theorem below_set4 {B b : Nat} {a w : World} {u0 u1 u2 u3 : Value} (h : Below B a w) (hb : B ≤ b) : Below B a ((((w.setCell ⟨b, 0, none⟩ u0).setCell ⟨b, 1, none⟩ u1).setCell ⟨b, 2, none⟩ u2).setCell ⟨b, 3, none⟩ u3) :=
  (((h.setCell hb u0).setCell hb u1).setCell hb u2).setCell hb u3
end Go.Proofs.YtojincohnjophaaGreatDoor

/-! The walks of layer 17's first functions: there, spend, May. -/
namespace Go.Proofs.YtojincohnjophaaGreatDoor
open Go.RowKit
open DiskP (Bytes Disk Wr)
set_option linter.unusedVariables false

set_option maxRecDepth 100000 in
set_option maxHeartbeats 800000 in
theorem there_any (A : Option Addr) (n c : Nat) (B : Option Addr) (m e : Nat) (d : Disk) (V : Nat → Prop) (i k : Int) (w : World) (h : Dk w V A n c B m e d) (hi : -9223372036854775808 ≤ i) (hi2 : i ≤ 9223372036854775807) :
    Calls Tryz.prog 99 #[dkv A n c B m e d.left d.dead, .int .i64 i, .int .i64 k] w fun e w' => e = .returned (.bool (DiskP.there d i k)) ∧ Below w.heap.size w w' := by
  have hlen := h.len
  have hn := h.nle
  obtain ⟨R, hR⟩ : ∃ R, R = DiskP.there d i k := ⟨_, rfl⟩
  rw [← hR]
  have hR' : R = (decide (0 ≤ i) && decide (0 ≤ k) && decide (i ≤ (n : Int)) && decide (k ≤ (n : Int) - i)) := by rw [hR, DiskP.there, hlen]
  clear hR hlen h
  have HR := hide hR'
  clear hR'
  obtain ⟨lf, hlf⟩ : ∃ lf, lf = d.left := ⟨_, rfl⟩
  obtain ⟨dd, hdd⟩ : ∃ dd, dd = d.dead := ⟨_, rfl⟩
  rw [← hlf, ← hdd]
  clear hlf hdd
  have hb : Below w.heap.size w (w.alloc (.cells #[.slice A n c, .slice B m e, .int .i64 lf, .bool dd] 54)) := (Below.refl _ _).alloc (Nat.le_refl _) _
  go_enter Tryz.func99, Tryz.ntmps99
  by_cases h1 : 0 ≤ i
  · by_cases h2 : 0 ≤ k
    · by_cases h3 : i ≤ (n : Int)
      · go_wp2_with fail
        go_ret
        exact ⟨by rw [HR.out]; simp [h1, h2, h3], hb⟩
      · go_wp2_with fail
        go_ret
        exact ⟨by rw [HR.out, decide_eq_false (show ¬ i ≤ (n : Int) by omega)]; simp, hb⟩
    · go_wp2_with fail
      go_ret
      exact ⟨by rw [HR.out, decide_eq_false (show ¬ 0 ≤ k by omega)]; simp, hb⟩
  · go_wp2_with fail
    go_ret
    exact ⟨by rw [HR.out, decide_eq_false (show ¬ 0 ≤ i by omega)]; simp, hb⟩

theorem spent_dead (d : Disk) (h : d.dead = true) : DiskP.spent d = { d with dead := true } := by simp [DiskP.spent, h]
theorem spent_out (d : Disk) (h : d.left = 0) : DiskP.spent d = { d with dead := true } := by simp [DiskP.spent, h]
theorem spent_one (d : Disk) (h : d.dead = false) (h0 : 0 < d.left) : DiskP.spent d = { d with left := d.left - 1 } := by
  have h1 : ¬ d.left = 0 := by omega
  simp [DiskP.spent, h, h0, h1]
theorem spent_any (d : Disk) (h : d.dead = false) (h1 : d.left < 0) : DiskP.spent d = d := by
  have h2 : ¬ d.left = 0 := by omega
  have h3 : ¬ 0 < d.left := by omega
  simp [DiskP.spent, h, h2, h3]

set_option maxRecDepth 100000 in
set_option maxHeartbeats 800000 in
theorem spend_any (A : Option Addr) (n c : Nat) (B : Option Addr) (m e : Nat) (d : Disk) (w : World) (h1 : -1 ≤ d.left) (h2 : d.left ≤ 9223372036854775807) :
    Calls Tryz.prog 95 #[dkv A n c B m e d.left d.dead] w fun q w' =>
      q = .returned (.tuple #[dkv A n c B m e (DiskP.spent d).left (DiskP.spent d).dead, .bool (DiskP.alive d)]) ∧ Below w.heap.size w w' := by
  have hb : ∀ x y, Below w.heap.size w ((w.alloc (.cells x 54)).alloc (.cells y 54)) := fun x y => ((Below.refl _ _).alloc (Nat.le_refl _) _).alloc (by simp) _
  have HB := hide hb
  clear hb
  obtain ⟨R, hR⟩ : ∃ R, R = DiskP.spent d := ⟨_, rfl⟩
  obtain ⟨Q, hQ⟩ : ∃ Q, Q = DiskP.alive d := ⟨_, rfl⟩
  have ha : Q = (!d.dead && !(d.left == 0)) := hQ
  rw [← hR, ← hQ]
  have s1 := spent_dead d
  have s2 := spent_out d
  have s3 := spent_one d
  have s4 := spent_any d
  rw [← hR] at s1 s2 s3 s4
  clear hR hQ
  obtain ⟨S, W, lf, dd⟩ := d
  simp only at *
  have HA := hide ha
  clear ha
  cases dd with
  | true =>
    have HR := hide (s1 rfl)
    clear s1 s2 s3 s4
    go_enter Tryz.func95, Tryz.ntmps95
    go_wp2_with fail
    exact bodyPost_ret (v := .tuple #[dkv A n c B m e lf true, .bool false]) (by simp [results, Tryz.results95, go_sem]) rfl ⟨by rw [HR.out, HA.out]; rfl, HB.out _ _⟩
  | false =>
    by_cases h0 : lf = 0
    · subst h0
      have HR := hide (s2 rfl)
      clear s1 s2 s3 s4
      go_enter Tryz.func95, Tryz.ntmps95
      go_wp2_with fail
      exact bodyPost_ret (v := .tuple #[dkv A n c B m e 0 true, .bool false]) (by simp [results, Tryz.results95, go_sem]) rfl ⟨by rw [HR.out, HA.out]; rfl, HB.out _ _⟩
    · have hq : Q = true := by rw [HA.out]; simp [h0]
      have HQ := hide hq
      clear hq
      by_cases hp : 0 < lf
      · have HR := hide (s3 rfl hp)
        clear s1 s2 s3 s4
        go_enter Tryz.func95, Tryz.ntmps95
        go_wp2_with fail
        exact bodyPost_ret (v := .tuple #[dkv A n c B m e (lf - 1) false, .bool true]) (by simp [results, Tryz.results95, go_sem]) rfl ⟨by rw [HR.out, HQ.out], HB.out _ _⟩
      · have HR := hide (s4 rfl (by omega))
        clear s1 s2 s3 s4
        go_enter Tryz.func95, Tryz.ntmps95
        go_wp2_with fail
        exact bodyPost_ret (v := .tuple #[dkv A n c B m e lf false, .bool true]) (by simp [results, Tryz.results95, go_sem]) rfl ⟨by rw [HR.out, HQ.out], HB.out _ _⟩

/-! ### May -/

def AllS (S : List Bytes) (k : Nat) : Prop := ∀ s ∈ S.take k, s.length = 128
theorem allS_zero (S : List Bytes) : AllS S 0 := by intro s hs; simp at hs
theorem allS_succ {S : List Bytes} {k : Nat} {s : Bytes} (h : AllS S k) (hs : S[k]? = some s) (hl : s.length = 128) : AllS S (k + 1) := by
  have h1 : k < S.length := (List.getElem?_eq_some_iff.1 hs).1
  have h2 : S[k] = s := (List.getElem?_eq_some_iff.1 hs).2
  intro x hx
  rw [List.take_succ_eq_append_getElem h1, h2] at hx
  rcases List.mem_append.1 hx with hx | hx
  · exact h x hx
  · simp at hx; subst hx; exact hl
def AllW (n : Nat) (W : List Wr) (k : Nat) : Prop := ∀ w ∈ W.take k, 0 ≤ w.at_ ∧ w.at_ < (n : Int) ∧ w.s.length = 128
theorem allW_zero (n : Nat) (W : List Wr) : AllW n W 0 := by intro s hs; simp at hs
theorem allW_succ {n : Nat} {W : List Wr} {k : Nat} {x : Wr} (h : AllW n W k) (hs : W[k]? = some x) (hl : 0 ≤ x.at_ ∧ x.at_ < (n : Int) ∧ x.s.length = 128) : AllW n W (k + 1) := by
  have h1 : k < W.length := (List.getElem?_eq_some_iff.1 hs).1
  have h2 : W[k] = x := (List.getElem?_eq_some_iff.1 hs).2
  intro y hy
  rw [List.take_succ_eq_append_getElem h1, h2] at hy
  rcases List.mem_append.1 hy with hy | hy
  · exact h y hy
  · simp at hy; subst hy; exact hl
theorem may_long {d : Disk} {k : Nat} {s : Bytes} (h : d.S[k]? = some s) (hl : ¬ s.length = 128) : DiskP.may d = false := by
  rw [Bool.eq_false_iff]; intro hm
  exact hl (((DiskP.may_iff d).1 hm).2.2.2.1 s (List.mem_of_getElem? h))
theorem may_wrong {d : Disk} {k : Nat} {x : Wr} (h : d.W[k]? = some x) (hl : ¬ (0 ≤ x.at_ ∧ x.at_ < (d.S.length : Int) ∧ x.s.length = 128)) : DiskP.may d = false := by
  rw [Bool.eq_false_iff]; intro hm
  exact hl (((DiskP.may_iff d).1 hm).2.2.2.2 x (List.mem_of_getElem? h))
theorem may_out {d : Disk} (h : d.S.length < 1 ∨ 4000 < d.S.length ∨ d.left < -1) : DiskP.may d = false := by
  rw [Bool.eq_false_iff]; intro hm
  have := (DiskP.may_iff d).1 hm
  omega

set_option maxRecDepth 100000 in
set_option maxHeartbeats 1600000 in
theorem may_any (A : Option Addr) (n c : Nat) (B : Option Addr) (m e : Nat) (d : Disk) (V : Nat → Prop) (w : World) (h : Dk w V A n c B m e d) :
    Calls Tryz.prog 33 #[dkv A n c B m e d.left d.dead] w fun q w' => q = .returned (.bool (DiskP.may d)) ∧ Below w.heap.size w w' := by
  have hlen := h.len
  have hwlen := h.wlen
  have hn := h.nle
  have hm := h.mle
  have hmo := may_out (d := d)
  have hml := fun k s => may_long (d := d) (k := k) (s := s)
  have hmw := fun k x => may_wrong (d := d) (k := k) (x := x)
  have hmi := (DiskP.may_iff d).2
  obtain ⟨R, hR⟩ : ∃ R, R = DiskP.may d := ⟨_, rfl⟩
  rw [← hR] at hmo hml hmw hmi ⊢
  clear hR
  rw [hlen] at hmo hmw hmi
  obtain ⟨lf, hlf⟩ : ∃ lf, lf = d.left := ⟨_, rfl⟩
  obtain ⟨dd, hdd⟩ : ∃ dd, dd = d.dead := ⟨_, rfl⟩
  rw [← hlf] at hmo hmi ⊢
  rw [← hdd]
  clear hlf hdd
  have hb : Below w.heap.size w (w.alloc (.cells #[.slice A n c, .slice B m e, .int .i64 lf, .bool dd] 54)) := (Below.refl _ _).alloc (Nat.le_refl _) _
  have hL := h.below hb
  have HML := hide hml
  have HMW := hide hmw
  have HLEN := hide hlen
  have HWLEN := hide hwlen
  clear hml hmw hlen hwlen h
  by_cases h0 : n < 1
  · have HR := hide (hmo (.inl h0))
    clear hmo hmi
    go_enter Tryz.func33, Tryz.ntmps33
    go_wp2_with fail
    go_ret
    exact ⟨by rw [HR.out]; rfl, hb⟩
  by_cases h1 : 4000 < n
  · have HR := hide (hmo (.inr (.inl h1)))
    clear hmo hmi
    go_enter Tryz.func33, Tryz.ntmps33
    go_wp2_with fail
    go_ret
    exact ⟨by rw [HR.out]; rfl, hb⟩
  by_cases h2 : lf < -1
  · have HR := hide (hmo (.inr (.inr h2)))
    clear hmo hmi
    go_enter Tryz.func33, Tryz.ntmps33
    go_wp2_with fail
    go_ret
    exact ⟨by rw [HR.out]; rfl, hb⟩
  have HMI := hide hmi
  clear hmo hmi
  go_enter Tryz.func33, Tryz.ntmps33
  go_wp2_with fail
  go_loop [25] (fun i => ∃ k : Nat, k ≤ n ∧ i = .int .i64 k ∧ AllS d.S k) (fun i => n - (intOf i).toNat)
  case atStart => exact ⟨0, Nat.zero_le _, rfl, allS_zero _⟩
  case round =>
    obtain ⟨k, hk, rfl, hall⟩ := hrel
    by_cases hlt : k < n
    · obtain ⟨a, s, hA, hs, hc⟩ := hL.sec hlt
      subst hA
      obtain ⟨bs, hbs⟩ : ∃ bs, bs = mkB s := ⟨_, rfl⟩
      rw [← hbs] at hc
      have hsz : bs.size = s.length := by rw [hbs, mkB_size]
      by_cases h128 : s.length = 128
      · have hz : bs.size = 128 := by omega
        have hall' := allS_succ hall hs h128
        have HZ : Hid ((bs.size : Int) = 128) := by rw [hz]; rfl
        have hne : ((bs.size : Int) != 128) = false := by rw [hz]; rfl
        clear hsz hs hbs hz h128 HZ
        go_wp2_with fail
        go_round
        case rel => exact ⟨k + 1, by omega, by go_num, hall'⟩
        case measure => simp [intOf]; omega
      · have HR := hide (HML.out k s hs h128)
        have hne : ((bs.size : Int) != 128) = true := by simp; omega
        clear hsz hs hbs h128
        go_wp2_with fail
        go_ret
        exact ⟨by rw [HR.out]; rfl, hb⟩
    · have hkn : k = n := by omega
      subst hkn
      have hallS : ∀ s ∈ d.S, s.length = 128 := by
        have : d.S.take k = d.S := List.take_of_length_le (by have := HLEN.out; omega)
        rw [← this]; exact hall
      have HALL := hide hallS
      clear hallS hall hlt
      go_wp2_with fail
      go_loopw [36] (fun i wr => ∃ j : Nat, j ≤ m ∧ i = .int .i64 j ∧ AllW k d.W j ∧ Below (w.heap.size + 1) (w.alloc (.cells #[.slice A k c, .slice B m e, .int .i64 lf, .bool dd] 54)) wr) (fun i _ => m - (intOf i).toNat)
      case atStart => exact ⟨0, Nat.zero_le _, rfl, allW_zero _ _, Below.refl _ _⟩
      case round =>
        obtain ⟨j, hj, rfl, hall, hbr⟩ := hrel
        have hbw := hb.trans (hbr.mono (Nat.le_succ _))
        by_cases hlt : j < m
        · have hz : w.heap.size < wr.heap.size := by have := hbr.size; rw [World.size_alloc] at this; omega
          have hcS : wr.cell? ⟨w.heap.size, 0, none⟩ = some (.slice A k c) := bcell hbr (by omega) (by simp [go_sem])
          obtain ⟨a, x, hA, hx, hc1, hc2⟩ := (hL.below (by rw [World.size_alloc]; exact hbr)).wr hlt
          subst hA
          obtain ⟨bs, hbs⟩ : ∃ bs, bs = mkB x.s := ⟨_, rfl⟩
          rw [← hbs] at hc2
          have hsz : bs.size = x.s.length := by rw [hbs, mkB_size]
          by_cases hok : 0 ≤ x.at_ ∧ x.at_ < (k : Int) ∧ x.s.length = 128
          · have hall' := allW_succ hall hx hok
            obtain ⟨g1, g2, g3⟩ := hok
            have hne : ((bs.size : Int) != 128) = false := by rw [hsz, g3]; rfl
            have f1 : decide (x.at_ < 0) = false := by simp; omega
            have f2 : decide ((k : Int) ≤ x.at_) = false := by simp; omega
            clear hsz hx hbs g3 hall
            go_wp2_with fail
            go_roundw
            case rel => exact ⟨j + 1, by omega, by go_num, hall', hbr.alloc hz _⟩
            case measure => simp [intOf]; omega
          · have HR := hide (HMW.out j x hx hok)
            by_cases g1 : 0 ≤ x.at_
            · by_cases g2 : x.at_ < (k : Int)
              · have hne : ((bs.size : Int) != 128) = true := by simp; omega
                have f1 : decide (x.at_ < 0) = false := by simp; omega
                have f2 : decide ((k : Int) ≤ x.at_) = false := by simp; omega
                clear hsz hx hbs hok hall
                go_wp2_with fail
                go_ret
                exact ⟨by rw [HR.out]; rfl, hbw.alloc hbw.size _⟩
              · have f1 : decide (x.at_ < 0) = false := by simp; omega
                have f2 : decide ((k : Int) ≤ x.at_) = true := by simp; omega
                clear hsz hx hbs hok hall
                go_wp2_with fail
                go_ret
                exact ⟨by rw [HR.out]; rfl, hbw.alloc hbw.size _⟩
            · have f1 : decide (x.at_ < 0) = true := by simp; omega
              clear hsz hx hbs hok hall
              go_wp2_with fail
              go_ret
              exact ⟨by rw [HR.out]; rfl, hbw.alloc hbw.size _⟩
        · have hjm : j = m := by omega
          subst hjm
          have hallW : ∀ x ∈ d.W, 0 ≤ x.at_ ∧ x.at_ < (k : Int) ∧ x.s.length = 128 := by
            have : d.W.take j = d.W := List.take_of_length_le (by have := HWLEN.out; omega)
            rw [← this]; exact hall
          have HR := hide (HMI.out ⟨by omega, by omega, by omega, HALL.out, hallW⟩)
          clear hallW hall hlt
          go_wp2_with fail
          go_ret
          exact ⟨by rw [HR.out]; rfl, hbw⟩
end Go.Proofs.YtojincohnjophaaGreatDoor

/-! The walks of layer 17: slices.Clone of sectors, done, Barrier, Budget. -/
namespace Go.Proofs.YtojincohnjophaaGreatDoor
open Go.RowKit
open DiskP (Bytes Disk Wr)
set_option linter.unusedVariables false

/-- an append of a slice of strings whose cells are known -/
theorem app_str {w : World} {ops : Array Oper} {rest : List Oper} {o : Oper} {a : Act} {Q : Exit → Act → World → Prop} (hgd : o.guard = none) (s x : Operand)
    (ho : o.op = .call { callee := .builtin .append, args := #[s, x], argTypes := #[22, 22] })
    (base : Nat) (v : Value) (n : Nat) (xs : List Value) (hown : w.ownsRow base 9 1 v n xs) (hs : a.eval s = v)
    (V : Nat → Prop) (A : Option Addr) (m c : Nat) (news : List Value) (hx : a.eval x = .slice A m c) (hr : Sl w V 1 A m news) (h1 : ∀ u ∈ news, u.oneCell' = true) (hn : n + m ≤ 1000000000000) (hbase : base ≤ w.heap.size)
    (h : ∀ v' w', Apd w w' base 9 1 v v' (n + m) (xs ++ news) → wpList Tryz.prog ops Q rest (a.put o.dst v') w') : wpList Tryz.prog ops Q (o :: rest) a w := by
  obtain ⟨i0, hi, hz0, hz1, hz2⟩ := info_parts Tryz.info9
  exact wp_app (P := Tryz.prog) hgd s x 22 ho base 9 i0 (.string .empty) 1 16 Tryz.underlying22 hi hz0 hz1 hz2 rfl (by decide) v n xs hown hs V A m c news hx hr h1 (by simp only [maxLen]; omega) (by omega) hbase h

theorem own_form {w : World} {base : Nat} {e : TypeId} {size n : Nat} {v : Value} {xs : List Value} (h : w.ownsRow base e size v n xs) (hn : 0 < n) : ∃ g cap, v = .slice (some ⟨g, 0, none⟩) n cap ∧ base ≤ g ∧ g < w.heap.size ∧ n ≤ cap := by
  rcases h.2 with ⟨rfl, rfl⟩ | ⟨g, cap, cur, rfl, hb, hg, hnc, _⟩
  · omega
  · exact ⟨g, cap, rfl, hb, (Array.getElem?_eq_some_iff.1 hg).1, hnc⟩

set_option maxRecDepth 100000 in
set_option maxHeartbeats 800000 in
theorem clone_str (A : Option Addr) (n c : Nat) (xs : List Value) (V : Nat → Prop) (w : World) (h : Sl w V 1 A n xs) (hn : n ≤ 1000000000) (h1 : ∀ u ∈ xs, u.oneCell' = true) :
    Calls Tryz.prog 38 #[.slice A n c] w fun e w' => ∃ v, e = .returned v ∧ w'.ownsRow w.heap.size 9 1 v n xs ∧ Below w.heap.size w w' := by
  have heq : ∀ w, (binOp .eql 22 (.slice A n c) (.slice none 0 0)).run Tryz.prog w = .ok (.bool A.isNone) w := fun w => by
    have := Lib.run_eql_slice_nil (P := Tryz.prog) w 22 9 A n c 0 0 Tryz.underlying22
    simpa using this
  have hone := h1
  have HO := hide hone
  clear h1 hone
  rcases A with _ | a
  · have hz : n = 0 := by
      rcases Nat.eq_zero_or_pos n with h0 | h0
      · exact h0
      · obtain ⟨a, e, _⟩ := h.2 h0; cases e
    subst hz
    have hx : xs = [] := List.eq_nil_of_length_eq_zero (by simpa using h.1)
    subst hx
    clear h
    go_enter Tryz.func38, Tryz.ntmps38
    go_wp2_with fail
    go_ret
    exact ⟨_, rfl, World.ownsRow_nil w _ _ _, Below.refl _ _⟩
  · have hb : Below w.heap.size w (w.alloc (.cells #[] 9)) := (Below.refl _ _).alloc (Nat.le_refl _) _
    have ho : (w.alloc (.cells #[] 9)).ownsRow w.heap.size 9 1 (.slice (some ⟨w.heap.size, 0, none⟩) 0 0) 0 [] := World.ownsRow_made w #[] 0 (Nat.le_refl _) (Nat.zero_le _) (by simp)
    have hs := h.below hb
    clear h
    go_enter Tryz.func38, Tryz.ntmps38
    go_wp2_with (at_builtin; refine app_str rfl _ _ rfl w.heap.size _ _ _ ho rfl _ _ _ _ xs rfl hs HO.out (by omega) (by simp) ?_; intro v' w2 hA)
    have hb2 := hA.below ho hb (Nat.le_refl _) (by simp)
    have ho2 := hA.own
    rw [Nat.zero_add, List.nil_append] at ho2
    go_ret
    exact ⟨_, rfl, ho2, hb2⟩

/-! ### done -/

theorem own_mono {w : World} {base base' : Nat} {e : TypeId} {size n : Nat} {v : Value} {xs : List Value} (h : w.ownsRow base e size v n xs) (hb : base' ≤ base) : w.ownsRow base' e size v n xs :=
  ⟨h.1, h.2.imp id fun ⟨g, cap, cur, a, b, c⟩ => ⟨g, cap, cur, a, Nat.le_trans hb b, c⟩⟩

theorem doneGo_take {S : List Bytes} {W : List Wr} {k : Nat} {x : Wr} (h : W[k]? = some x) : DiskP.doneGo S (W.take (k + 1)) = (DiskP.doneGo S (W.take k)).set x.at_.toNat x.s := by
  have h1 : k < W.length := (List.getElem?_eq_some_iff.1 h).1
  have h2 : W[k] = x := (List.getElem?_eq_some_iff.1 h).2
  rw [List.take_succ_eq_append_getElem h1, h2]
  simp [DiskP.doneGo, List.foldl_append]
theorem secV_set (S : List Bytes) (k : Nat) (s : Bytes) : (secV S).set k (.string (mkB s)) = secV (S.set k s) := by
  simp only [secV, strs, List.map_set]

set_option maxRecDepth 100000 in
set_option maxHeartbeats 1600000 in
theorem done_any (A : Option Addr) (n c : Nat) (B : Option Addr) (m e : Nat) (d : Disk) (V : Nat → Prop) (w : World) (h : Dk w V A n c B m e d) (hm : DiskP.may d = true) :
    Calls Tryz.prog 96 #[dkv A n c B m e d.left d.dead] w fun q w' => ∃ v, q = .returned v ∧ w'.ownsRow w.heap.size 9 1 v n (secV (DiskP.done d)) ∧ Below w.heap.size w w' := by
  have hlen := h.len
  have hwlen := h.wlen
  have hn := h.nle
  have hmle := h.mle
  have hmw := ((DiskP.may_iff d).1 hm).2.2.2.2
  have hn1 := ((DiskP.may_iff d).1 hm).1
  rw [hlen] at hmw hn1
  clear hm
  obtain ⟨lf, hlf⟩ : ∃ lf, lf = d.left := ⟨_, rfl⟩
  obtain ⟨dd, hdd⟩ : ∃ dd, dd = d.dead := ⟨_, rfl⟩
  rw [← hlf, ← hdd]
  clear hlf hdd
  have hb : Below w.heap.size w (w.alloc (.cells #[.slice A n c, .slice B m e, .int .i64 lf, .bool dd] 54)) := (Below.refl _ _).alloc (Nat.le_refl _) _
  have hL := h.lt.below hb
  have HMW := hide hmw
  have HLEN := hide hlen
  have HWLEN := hide hwlen
  clear hmw hlen hwlen h
  go_enter Tryz.func96, Tryz.ntmps96
  go_wp2_with fail
  refine (clone_str A n c _ _ _ hL.sS hn (secV_one _)).mono ?_
  rintro q w1 ⟨v1, rfl, ho1, hb1⟩
  obtain ⟨g, cap, hv1, hg1, hg2⟩ := ho1.form (by omega)
  subst hv1
  have hc1 : w1.cell? ⟨w.heap.size, 1, none⟩ = some (.slice B m e) := bcell hb1 (by simp) (by simp [go_sem])
  have hbw1 := hb.trans (hb1.mono hb.size)
  have hL1 := hL.below hb1
  rw [World.size_alloc] at ho1 hb1 hg1
  go_wp2_with fail
  go_loopw [12] (fun i wr => ∃ j : Nat, j ≤ m ∧ i = .int .i64 j ∧ wr.ownsRow (w.heap.size + 1) 9 1 (.slice (some ⟨g, 0, none⟩) n cap) n (secV (DiskP.doneGo d.S (d.W.take j))) ∧ Below (w.heap.size + 1) w1 wr) (fun i _ => m - (intOf i).toNat)
  case atStart => exact ⟨0, Nat.zero_le _, rfl, ho1, Below.refl _ _⟩
  case round =>
    obtain ⟨j, hj, rfl, hown, hbr⟩ := hrel
    by_cases hlt : j < m
    · have hz : w1.heap.size ≤ wr.heap.size := hbr.size
      have hgr : g < wr.heap.size := by omega
      obtain ⟨a, x, hA, hx, hcx1, hcx2⟩ := (hL1.keep hbr.size fun b hv _ => hbr.block b (by omega)).wr hlt
      subst hA
      obtain ⟨y1, y2, y3⟩ := HMW.out x (List.mem_of_getElem? hx)
      obtain ⟨p, hp⟩ : ∃ p : Nat, x.at_ = p := ⟨x.at_.toNat, by omega⟩
      have hpn : p < n := by omega
      rw [hp] at hcx1
      obtain ⟨bs, hbs⟩ : ∃ bs, bs = mkB x.s := ⟨_, rfl⟩
      rw [← hbs] at hcx2
      have hc : ∃ u, wr.cell? ⟨g, p, none⟩ = some u := by
        rw [hown.cellAt p (by omega)]
        exact ⟨_, List.getElem?_eq_getElem (by have := hown.1; omega)⟩
      obtain ⟨u, hc⟩ := hc
      have hf := hown.frozenAt p
      have hst := (hown.stored p (.string bs)).1.alloc (.cells #[.int .i64 p, .string bs] 98)
      have e : (secV (DiskP.doneGo d.S (d.W.take j))).set p (.string bs) = secV (DiskP.doneGo d.S (d.W.take (j + 1))) := by
        rw [doneGo_take hx, hbs, secV_set, hp, Int.toNat_natCast]
      rw [e] at hst
      have HST := hide hst
      have HBR := hide ((hbr.setCell (p := ⟨g, p, none⟩) (by show w.heap.size + 1 ≤ g; exact hg1) (.string bs)).alloc (by simp; omega) (.cells #[.int .i64 p, .string bs] 98))
      clear hst e hown hx y1 y2 y3 hp hbs hbr
      go_wp2_with fail
      go_roundw
      case rel => exact ⟨j + 1, by omega, by go_num, HST.out, HBR.out⟩
      case measure => simp [intOf]; omega
    · have hjm : j = m := by omega
      subst hjm
      rw [List.take_of_length_le (by have := HWLEN.out; omega)] at hown
      go_wp2_with fail
      go_ret
      exact ⟨_, rfl, own_mono hown (Nat.le_succ _), hbw1.trans (hbr.mono (Nat.le_succ _))⟩

/-! ### Barrier -/

theorem spent_S (d : Disk) : (DiskP.spent d).S = d.S := by
  unfold DiskP.spent
  repeat (first | rfl | split)
theorem spent_W (d : Disk) : (DiskP.spent d).W = d.W := by
  unfold DiskP.spent
  repeat (first | rfl | split)
theorem spent_hi (d : Disk) (h : d.left ≤ 9223372036854775807) : (DiskP.spent d).left ≤ 9223372036854775807 := by
  unfold DiskP.spent
  split
  · exact h
  · split
    · show d.left - 1 ≤ _; omega
    · exact h
theorem may_left {d : Disk} (h : DiskP.may d = true) : -1 ≤ d.left := ((DiskP.may_iff d).1 h).2.2.1

set_option maxRecDepth 100000 in
set_option maxHeartbeats 1600000 in
theorem barrier_any (A : Option Addr) (n c : Nat) (B : Option Addr) (m e : Nat) (d : Disk) (V : Nat → Prop) (w : World) (h : Dk w V A n c B m e d) (hm : DiskP.may d = true) :
    Calls Tryz.prog 61 #[dkv A n c B m e d.left d.dead] w fun q w' => ∃ v, q = .returned (.tuple #[v, .int .i64 ((DiskP.barrier d).2 : Nat)]) ∧ DkV w' (fun b => V b ∨ w.heap.size ≤ b) v (DiskP.barrier d).1 ∧ Below w.heap.size w w' := by
  have hl := may_left hm
  have hhi := h.hi
  have hB1 := Box.new w 54 #[.slice A n c, .slice B m e, .int .i64 d.left, .bool d.dead]
  have hB2 := hB1.up (.cells #[.slice none 0 0, .slice none 0 0, .int .i64 0, .bool false] 54)
  have hB3 := Box.new (w.alloc (.cells #[.slice A n c, .slice B m e, .int .i64 d.left, .bool d.dead] 54)) 54 #[.slice none 0 0, .slice none 0 0, .int .i64 0, .bool false]
  rw [World.size_alloc] at hB3
  have hb : Below w.heap.size w ((w.alloc (.cells #[.slice A n c, .slice B m e, .int .i64 d.left, .bool d.dead] 54)).alloc (.cells #[.slice none 0 0, .slice none 0 0, .int .i64 0, .bool false] 54)) := ((Below.refl _ _).alloc (Nat.le_refl _) _).alloc (by simp) _
  obtain ⟨lf, hlf⟩ : ∃ lf, lf = d.left := ⟨_, rfl⟩
  obtain ⟨dd, hdd⟩ : ∃ dd, dd = d.dead := ⟨_, rfl⟩
  have hma := fun w1 hD => may_any A n c B m e d V w1 hD
  have hsp := fun w1 => spend_any A n c B m e d w1 hl hhi
  have hdo := fun w1 hD => done_any A n c B m e d V w1 hD hm
  rw [hm] at hma
  rw [← hlf, ← hdd] at hB1 hB2 hB3 hb hma hsp hdo ⊢
  have hD := h.below hb
  cases ha : DiskP.alive d with
  | false =>
    have hR : DiskP.barrier d = (DiskP.spent d, 14) := by rw [DiskP.barrier, hm, ha]; rfl
    rw [hR]
    have hfin : ∀ w', Below w.heap.size w w' → DkV w' (fun b => V b ∨ w.heap.size ≤ b) (dkv A n c B m e (DiskP.spent d).left (DiskP.spent d).dead) (DiskP.spent d) := fun w' hb' =>
      ⟨A, n, c, B, m, e, rfl, ((h.below hb').mono fun _ hv => .inl hv).other (spent_S d) (spent_W d) (spent_hi d hhi)⟩
    rw [ha] at hsp
    obtain ⟨lf', hlf'⟩ : ∃ lf, lf = (DiskP.spent d).left := ⟨_, rfl⟩
    obtain ⟨dd', hdd'⟩ : ∃ dd, dd = (DiskP.spent d).dead := ⟨_, rfl⟩
    rw [← hlf', ← hdd'] at hsp hfin
    have HF := hide hfin
    have HMA := hide hma
    have HSP := hide hsp
    clear hfin hma hsp hdo hlf hdd hlf' hdd' hR ha
    go_enter Tryz.func61, Tryz.ntmps61
    go_wp2_with fail
    refine (HMA.out _ hD).mono ?_
    rintro q w1 ⟨rfl, hb1⟩
    have kB1 := hB2.belowS hb1
    have kB2 := hB3.belowS hb1
    have hbw1 := hb.trans (hb1.mono hb.size)
    obtain ⟨p0, p1, p2, p3⟩ := kB1.cell4
    go_wp2_with fail
    refine (HSP.out _).mono ?_
    rintro q w2 ⟨rfl, hb2⟩
    clear p0 p1 p2 p3
    have kB3 := kB2.belowS hb2
    have hbw2 := hbw1.trans (hb2.mono hbw1.size)
    obtain ⟨p0, p1, p2, p3⟩ := kB3.cell4
    have f0 := kB3.frozen 0
    have f1 := kB3.frozen 1
    have f2 := kB3.frozen 2
    have f3 := kB3.frozen 3
    have hlt := kB3.lt
    go_wp2_with fail
    have kB4 := (kB3.set4 (u0 := .slice A n c) (u1 := .slice B m e) (u2 := .int .i64 lf') (u3 := .bool dd')).up (.cells #[.slice A n c, .slice B m e, .int .i64 lf', .bool dd'] 54)
    have hbF := (below_set4 (u0 := .slice A n c) (u1 := .slice B m e) (u2 := .int .i64 lf') (u3 := .bool dd') hbw2 (Nat.le_succ w.heap.size)).alloc (by simp; exact hbw2.size) (.cells #[.slice A n c, .slice B m e, .int .i64 lf', .bool dd'] 54)
    obtain ⟨s0, s1, s2, s3⟩ := kB4.cell4
    exact bodyPost_ret (v := .tuple #[dkv A n c B m e lf' dd', .int .i64 14]) (by simp [results, Tryz.results61, go_sem, s0, s1, s2, s3]) rfl ⟨_, rfl, HF.out _ hbF, hbF⟩
  | true =>
    have hR : DiskP.barrier d = (⟨DiskP.done d, [], (DiskP.spent d).left, (DiskP.spent d).dead⟩, 0) := by rw [DiskP.barrier, hm, ha]; rfl
    rw [hR]
    have hdl : (DiskP.done d).length = n := by rw [DiskP.done, DiskP.doneGo_len]; exact h.len
    have hn1 : 0 < n := by have := ((DiskP.may_iff d).1 hm).1; rw [h.len] at this; omega
    have hnle := h.nle
    have hhi2 := spent_hi d hhi
    rw [ha] at hsp
    obtain ⟨lf', hlf'⟩ : ∃ lf, lf = (DiskP.spent d).left := ⟨_, rfl⟩
    obtain ⟨dd', hdd'⟩ : ∃ dd, dd = (DiskP.spent d).dead := ⟨_, rfl⟩
    rw [← hlf'] at hhi2
    rw [← hlf', ← hdd'] at hsp ⊢
    show Calls Tryz.prog 61 #[dkv A n c B m e lf dd] w fun q w' => ∃ v, q = .returned (.tuple #[v, .int .i64 0]) ∧ DkV w' (fun b => V b ∨ w.heap.size ≤ b) v ⟨DiskP.done d, [], lf', dd'⟩ ∧ Below w.heap.size w w'
    have HMA := hide hma
    have HSP := hide hsp
    have HDO := hide hdo
    have HDL := hide hdl
    clear hma hsp hdo hlf hdd hlf' hdd' hR ha hdl
    go_enter Tryz.func61, Tryz.ntmps61
    go_wp2_with fail
    refine (HMA.out _ hD).mono ?_
    rintro q w1 ⟨rfl, hb1⟩
    have kA1 := hB2.belowS hb1
    have kB1 := hB3.belowS hb1
    have hbw1 := hb.trans (hb1.mono hb.size)
    obtain ⟨p0, p1, p2, p3⟩ := kA1.cell4
    go_wp2_with fail
    refine (HSP.out _).mono ?_
    rintro q w2 ⟨rfl, hb2⟩
    clear p0 p1 p2 p3
    have kA2 := (kA1.belowS hb2).up (.cells #[.slice A n c, .slice B m e, .int .i64 lf', .bool dd'] 54)
    have kB2 := (kB1.belowS hb2).up (.cells #[.slice A n c, .slice B m e, .int .i64 lf', .bool dd'] 54)
    have kC2 := Box.new w2 54 #[.slice A n c, .slice B m e, .int .i64 lf', .bool dd']
    have hbw2 := (hbw1.trans (hb2.mono hbw1.size)).alloc (hbw1.trans (hb2.mono hbw1.size)).size (.cells #[.slice A n c, .slice B m e, .int .i64 lf', .bool dd'] 54)
    have hlt2 : w.heap.size + 1 < w2.heap.size := by have h1 := (kB1.belowS hb2).lt; exact h1
    obtain ⟨p0, p1, p2, p3⟩ := kA2.cell4
    go_wp2_with fail
    refine (HDO.out _ (h.below hbw2)).mono ?_
    rintro q w3 ⟨v3, rfl, ho3, hb3⟩
    obtain ⟨g, cap, hv3, hg1, hg2, hgc⟩ := own_form ho3 hn1
    subst hv3
    clear p0 p1 p2 p3
    have kB3 := kB2.belowS hb3
    have kC3 := kC2.belowS hb3
    have hbw3 := hbw2.trans (hb3.mono hbw2.size)
    obtain ⟨p0, p1, p2, p3⟩ := kC3.cell4
    obtain ⟨q0, q1, q2, q3⟩ := kB3.cell4
    have f0 := kC3.frozen 0
    have f1 := kC3.frozen 1
    have f2 := kC3.frozen 2
    have f3 := kC3.frozen 3
    have g0 := kB3.frozen 0
    have g1 := kB3.frozen 1
    have g2 := kB3.frozen 2
    have g3 := kB3.frozen 3
    have hlt3 : w2.heap.size < w3.heap.size := kC3.lt
    go_wp2_with fail
    have kC4 := (((kB3.other (a := ⟨w2.heap.size, 0, none⟩) (by simp; omega) (.slice (some ⟨g, 0, none⟩) n cap)).other (a := ⟨w2.heap.size, 1, none⟩) (by simp; omega) (.slice none 0 0)).set4 (u0 := .slice (some ⟨g, 0, none⟩) n cap) (u1 := .slice none 0 0) (u2 := .int .i64 lf') (u3 := .bool dd'))
    have hbF := below_set4 (b := w.heap.size + 1) (u0 := .slice (some ⟨g, 0, none⟩) n cap) (u1 := .slice none 0 0) (u2 := .int .i64 lf') (u3 := .bool dd') ((hbw3.setCell (p := ⟨w2.heap.size, 0, none⟩) (by simp; omega) (.slice (some ⟨g, 0, none⟩) n cap)).setCell (p := ⟨w2.heap.size, 1, none⟩) (by simp; omega) (.slice none 0 0)) (by omega)
    rw [World.size_alloc] at ho3 hg1
    have ho4 := ownsRow_setCell_below (ownsRow_setCell_below (ownsRow_setCell_below (ownsRow_setCell_below (ownsRow_setCell_below (ownsRow_setCell_below ho3 (a := ⟨w2.heap.size, 0, none⟩) (by simp) (.slice (some ⟨g, 0, none⟩) n cap)) (a := ⟨w2.heap.size, 1, none⟩) (by simp) (.slice none 0 0))
      (a := ⟨w.heap.size + 1, 0, none⟩) (by simp; omega) (.slice (some ⟨g, 0, none⟩) n cap)) (a := ⟨w.heap.size + 1, 1, none⟩) (by simp; omega) (.slice none 0 0)) (a := ⟨w.heap.size + 1, 2, none⟩) (by simp; omega) (.int .i64 lf')) (a := ⟨w.heap.size + 1, 3, none⟩) (by simp; omega) (.bool dd')
    obtain ⟨s0, s1, s2, s3⟩ := kC4.cell4
    refine bodyPost_ret (v := .tuple #[dkv (some ⟨g, 0, none⟩) n cap none 0 0 lf' dd', .int .i64 0]) (by simp [results, Tryz.results61, go_sem, s0, s1, s2, s3]) rfl ⟨_, rfl, ⟨_, _, _, _, _, _, rfl, ⟨(Sl.of_own ho4).mono fun b hb => .inr (by omega), Sl.nil, hnle, by omega, hgc, Nat.le_refl _, hhi2⟩⟩, hbF⟩

/-! ### Budget -/

end Go.Proofs.YtojincohnjophaaGreatDoor
