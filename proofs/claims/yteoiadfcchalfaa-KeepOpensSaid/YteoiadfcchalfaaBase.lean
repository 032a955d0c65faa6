/- What all walks of this seat share: a slice value that reads as a list of cells ('Sl'), kept over whatever happens elsewhere in memory. -/
import Derived.Handy
import Derived.Lib.Hide
import Derived.Deep.Draws
import Derived.Deep.AppendLies
import Derived.Maps.AppendAt
import Derived.Lib.AppendStr
import Derived.Deep.DeepMust
import Derived.WalkSpells
import Derived.WalkLawsBesides
import Derived.Deep.QuietTactic
import Derived.BigQuiet
import Derived.Deep.LoopGhost
import Derived.Deep.DeepFit
import Derived.Outline
import Derived.Test.YteoiadfcchalfaaRows
namespace Go.Proofs.Yteoiadfcchalfaa
open Go.RowKit

theorem hide {p : Prop} (h : p) : Hid p := h
theorem below_drewN {B : Nat} {a w : World} (h : Below B a w) (n : Nat) : Below B a (w.drewN n) := ⟨h.os, h.tape, h.output, h.size, h.block⟩

theorem drewN_some {w : World} {n m : Nat} : ∃ q, (w.drewN n).drewN m = w.drewN q := ⟨n + m, World.drewN_drewN _ _ _⟩

theorem blk_add (a : Addr) (n : Nat) : (a.add n).block = a.block := by unfold Addr.add; split <;> rfl
theorem add_add' (a : Addr) (i j : Nat) : (a.add i).add j = a.add (i + j) := by
  unfold Addr.add
  by_cases hi : i = 0 <;> by_cases hj : j = 0 <;> simp [hi, hj, Nat.add_assoc]

/-- The slice value with address A and length n reads as the cells xs (size for each element); its block is one of V. -/
def Sl (w : World) (V : Nat → Prop) (size : Nat) (A : Option Addr) (n : Nat) (xs : List Value) : Prop :=
  xs.length = n * size ∧ (0 < n → ∃ a, A = some a ∧ V a.block ∧ a.block < w.heap.size ∧ ∀ j u, xs[j]? = some u → w.cell? (a.add j) = some u)

section
variable {w w' : World} {V V' : Nat → Prop} {size n : Nat} {A : Option Addr} {xs : List Value}

theorem Sl.lt (h : Sl w V size A n xs) : Sl w (fun b => b < w.heap.size) size A n xs :=
  ⟨h.1, fun hn => by
    obtain ⟨a, e, hv, hb, hc⟩ := h.2 hn
    exact ⟨a, e, hb, hb, hc⟩⟩
theorem Sl.lt' (h : Sl w V size A n xs) : Sl w (fun b => V b ∧ b < w.heap.size) size A n xs :=
  ⟨h.1, fun hn => by
    obtain ⟨a, e, hv, hb, hc⟩ := h.2 hn
    exact ⟨a, e, ⟨hv, hb⟩, hb, hc⟩⟩
theorem Sl.nil : Sl w V size A 0 [] := ⟨by simp, fun h => absurd h (by omega)⟩
theorem Sl.keep (h : Sl w V size A n xs) (hs : w.heap.size ≤ w'.heap.size) (hk : ∀ b, V b → b < w.heap.size → w'.heap[b]? = w.heap[b]?) : Sl w' V size A n xs :=
  ⟨h.1, fun hn => by
    obtain ⟨a, e, hv, hb, hc⟩ := h.2 hn
    refine ⟨a, e, hv, by omega, fun j u hu => ?_⟩
    rw [World.cell?_of_block (w := w) (w' := w') (a := a.add j) (by rw [blk_add]; exact hk _ hv hb)]
    exact hc j u hu⟩
theorem Sl.below (h : Sl w V size A n xs) (hb : Below w.heap.size w w') : Sl w' V size A n xs := h.keep hb.size fun b _ hlt => hb.block b hlt
theorem Sl.drew (h : Sl w V size A n xs) : Sl w.drew V size A n xs := h
theorem Sl.drewN (h : Sl w V size A n xs) (k : Nat) : Sl (w.drewN k) V size A n xs := h
theorem Sl.mono (h : Sl w V size A n xs) (hV : ∀ b, V b → V' b) : Sl w V' size A n xs :=
  ⟨h.1, fun hn => by
    obtain ⟨a, e, hv, hb, hc⟩ := h.2 hn
    exact ⟨a, e, hV _ hv, hb, hc⟩⟩
theorem Sl.any (h : Sl w V size A n xs) : Sl w (fun _ => True) size A n xs := h.mono fun _ _ => trivial
theorem Sl.at_ {k : Nat} (h : Sl w V 1 A n xs) (hk : k < n) : ∃ a u, A = some a ∧ xs[k]? = some u ∧ w.cell? (a.add k) = some u := by
  obtain ⟨a, e, _, _, hc⟩ := h.2 (by omega)
  have hl : k < xs.length := by have := h.1; omega
  exact ⟨a, xs[k], e, List.getElem?_eq_getElem hl, hc k _ (List.getElem?_eq_getElem hl)⟩
theorem Sl.cut {k m cap : Nat} (h : Sl w V size A n xs) (hk : k ≤ m) (hm : m ≤ n) (hc : m ≤ cap) :
    Sl w V size (if cap = k then A else A.map (·.add (k * size))) (m - k) ((xs.drop (k * size)).take ((m - k) * size)) := by
  have hl := h.1
  have h1 : m * size ≤ n * size := Nat.mul_le_mul_right _ hm
  have h2 : k * size ≤ m * size := Nat.mul_le_mul_right _ hk
  refine ⟨by rw [List.length_take, List.length_drop, hl, Nat.sub_mul]; omega, fun hn => ?_⟩
  obtain ⟨a, rfl, hv, hb, hcell⟩ := h.2 (by omega)
  rw [if_neg (by omega)]
  refine ⟨a.add (k * size), rfl, by rw [blk_add]; exact hv, by rw [blk_add]; exact hb, fun j u hu => ?_⟩
  rw [add_add']
  refine hcell _ u ?_
  rw [List.getElem?_take] at hu
  split at hu
  · rwa [List.getElem?_drop] at hu
  · cases hu
theorem Sl.of_own {base : Nat} {e : TypeId} {c : Nat} (h : w.ownsRow base e size (.slice A n c) n xs) : Sl w (fun b => base ≤ b) size A n xs := by
  refine ⟨h.1, fun hn => ?_⟩
  obtain ⟨g, cap, hv, hb, hlt⟩ := h.form hn
  have hA : A = some ⟨g, 0, none⟩ := by injection hv
  subst hA
  exact ⟨_, rfl, hb, hlt, h.cells (g := g) rfl⟩
end

/-- a list of strings as cells -/
def strs (ss : List ByteArray) : List Value := ss.map Value.string
theorem strs_append (a b : List ByteArray) : strs (a ++ b) = strs a ++ strs b := by simp [strs]
theorem strs_length (a : List ByteArray) : (strs a).length = a.length := by simp [strs]
theorem strs_nil : strs [] = [] := rfl
theorem Sl.str {w : World} {V : Nat → Prop} {A : Option Addr} {n k : Nat} {ss : List ByteArray} (h : Sl w V 1 A n (strs ss)) (hk : k < n) :
    ∃ a s, A = some a ∧ ss[k]? = some s ∧ w.cell? (a.add k) = some (.string s) := by
  obtain ⟨a, u, e, hx, hc⟩ := h.at_ hk
  rw [strs, List.getElem?_map] at hx
  cases hs : ss[k]? with
  | none => rw [hs] at hx; cases hx
  | some s =>
    rw [hs] at hx
    simp only [Option.map_some, Option.some.injEq] at hx
    exact ⟨a, s, e, rfl, by rw [hx]; exact hc⟩
theorem Sl.len {w : World} {V : Nat → Prop} {A : Option Addr} {n : Nat} {ss : List ByteArray} (h : Sl w V 1 A n (strs ss)) : ss.length = n := by
  have := h.1; rw [strs_length] at this; simpa using this

/-- octets of a string -/
abbrev oct (s : ByteArray) : List UInt8 := s.data.toList
theorem oct_length (s : ByteArray) : (oct s).length = s.size := by simp [oct]
theorem oct_mk (l : List UInt8) : oct ⟨l.toArray⟩ = l := by simp [oct]
theorem mk_oct (s : ByteArray) : (⟨(oct s).toArray⟩ : ByteArray) = s := by cases s; simp [oct]
theorem oct_inj {a b : ByteArray} (h : oct a = oct b) : a = b := by rw [← mk_oct a, ← mk_oct b, h]
theorem size_mk (l : List UInt8) : (⟨l.toArray⟩ : ByteArray).size = l.length := by rw [← oct_length, oct_mk]
theorem oct_extract (s : ByteArray) (a b : Nat) : oct (s.extract a b) = ((oct s).drop a).take (b - a) := by
  simp [oct, ByteArray.data_extract, Array.toList_extract, List.extract_eq_take_drop]

/-- noughts -/
def zeroBytes (n : Nat) : ByteArray := ⟨(List.replicate n (0 : UInt8)).toArray⟩
theorem oct_zeroBytes (n : Nat) : oct (zeroBytes n) = List.replicate n 0 := oct_mk _
theorem size_zeroBytes (n : Nat) : (zeroBytes n).size = n := by rw [← oct_length, oct_zeroBytes, List.length_replicate]

theorem ret_int {k : IntKind} {a b : Int} (h : a = b) : Ending.returned (.int k a) = .returned (.int k b) := by rw [h]
theorem ret_bool {a b : Bool} (h : a = b) : Ending.returned (.bool a) = .returned (.bool b) := by rw [h]
theorem ret_str {a b : ByteArray} (h : a = b) : Ending.returned (.string a) = .returned (.string b) := by rw [h]

/-- octets as cells -/
def bytesV (l : List UInt8) : List Value := l.map fun b => .int .u8 (b.toNat : Int)
theorem bytesV_length (l : List UInt8) : (bytesV l).length = l.length := by simp [bytesV]
theorem bytesV_append (a b : List UInt8) : bytesV (a ++ b) = bytesV a ++ bytesV b := by simp [bytesV]
theorem bytesV_one (l : List UInt8) : ∀ u ∈ bytesV l, u.oneCell' = true := by
  intro u hu
  simp only [bytesV, List.mem_map] at hu
  obtain ⟨b, _, rfl⟩ := hu
  rfl
theorem strs_one (l : List ByteArray) : ∀ u ∈ strs l, u.oneCell' = true := by
  intro u hu
  simp only [strs, List.mem_map] at hu
  obtain ⟨b, _, rfl⟩ := hu
  rfl

/-- 'string(b)' of a slice that reads as the octets l -/
theorem conv_str {P : Program} {w : World} {V : Nat → Prop} {A : Option Addr} {n c : Nat} {l : List UInt8} (h : Sl w V 1 A n (bytesV l)) (src dst e : TypeId)
    (hs : P.underlying src = some (.slice e)) (he : P.underlying e = some (.int .u8)) (hd : P.underlying dst = some .string) :
    (convert src dst (.slice A n c)).run P w = .ok (.string ⟨l.toArray⟩) w := by
  have hl : l.length = n := by have := h.1; rw [bytesV_length] at this; omega
  subst hl
  rcases A with _ | a
  · have hz : l.length = 0 := by
      rcases Nat.eq_zero_or_pos l.length with h0 | h0
      · exact h0
      · obtain ⟨a, e, _⟩ := h.2 h0; cases e
    rw [run_convert_bytes_string w src dst e none l.length c hs he hd]
    have : l = [] := List.eq_nil_of_length_eq_zero hz
    subst this
    simp [Conv.bytesToString, Sem.run_pure]; rfl
  · refine run_convert_bytes_back w src dst e a c l hs he hd fun j hj => ?_
    obtain ⟨a', ea, _, _, hc⟩ := h.2 (by omega)
    injection ea with ea; subst ea
    refine hc j _ ?_
    rw [bytesV, List.getElem?_map, List.getElem?_eq_getElem hj]; rfl

theorem own_shape {w : World} {base : Nat} {e : TypeId} {size n : Nat} {v : Value} {xs : List Value} (h : w.ownsRow base e size v n xs) : ∃ A c, v = .slice A n c := by
  rcases h.2 with ⟨rfl, rfl⟩ | ⟨g, cap, cur, rfl, _⟩
  · exact ⟨_, _, rfl⟩
  · exact ⟨_, _, rfl⟩
theorem toList_cmp {a b : ByteArray} : (a.toList == b.toList) = decide (oct a = oct b) := by
  rw [ByteArray.toList_eq, ByteArray.toList_eq, Bool.eq_iff_iff]; simp
theorem own_drewN {w : World} {base : Nat} {e : TypeId} {size n : Nat} {v : Value} {xs : List Value} (h : w.ownsRow base e size v n xs) (k : Nat) : (w.drewN k).ownsRow base e size v n xs := h
theorem own_below {w w' : World} {base : Nat} {e : TypeId} {size n : Nat} {v : Value} {xs : List Value} (h : w.ownsRow base e size v n xs) (hb : Below w.heap.size w w') : w'.ownsRow base e size v n xs :=
  h.kept (row := none) ⟨hb.os, hb.tape, hb.output, hb.size, fun k hk _ => hb.block k hk⟩ (by cases hv : v.ownBlock <;> simp)

/-! ### Append onto a row of one's own -/

/-- What an append onto a row of one's own leaves. -/
structure Apd (w w' : World) (base : Nat) (e : TypeId) (size : Nat) (v v' : Value) (n : Nat) (xs : List Value) : Prop where
  own : w'.ownsRow base e size v' n xs
  grown : w.grownBy w' v.ownBlock
  at_ : v'.ownBlock = v.ownBlock ∨ ∃ g, v'.ownBlock = some g ∧ w.heap.size ≤ g

theorem Apd.below {w0 w w' : World} {base B : Nat} {e : TypeId} {size : Nat} {v v' : Value} {n m : Nat} {xs ys : List Value} (h : Apd w w' base e size v v' n xs) (ho : w.ownsRow base e size v m ys) (hb : Below B w0 w) (hB : B ≤ base) (hs : B ≤ w.heap.size) : Below B w0 w' :=
  hb.grown h.grown hs fun k hk => Nat.le_trans hB (ho.lt k hk).1

section
variable {P : Program} {w : World} {ops : Array Oper} {rest : List Oper} {o : Oper} {a : Act} {Q : Exit → Act → World → Prop}

/-- the source reads as news -/
theorem wp_app (hgd : o.guard = none) (s x : Operand) (t : TypeId) (ho : o.op = .call { callee := .builtin .append, args := #[s, x], argTypes := #[t, t] })
    (base : Nat) (e : TypeId) (i : TypeInfo) (z : Value) (size bytes : Nat) (ht : P.underlying t = some (.slice e)) (hi : P.info? e = some i) (hz : i.zero = some z)
    (hsize : i.size = size) (hby : i.bytes = bytes) (hzs : z.cells.size = size) (hsz : 0 < size)
    (v : Value) (n : Nat) (xs : List Value) (hown : w.ownsRow base e size v n xs) (hs : a.eval s = v)
    (V : Nat → Prop) (A : Option Addr) (m c : Nat) (news : List Value) (hx : a.eval x = .slice A m c) (hr : Sl w V size A m news) (h1 : ∀ u ∈ news, u.oneCell' = true)
    (h63 : n + m ≤ maxLen) (hbytes : (n + m) * bytes ≤ 140737488355328) (hbase : base ≤ w.heap.size)
    (h : ∀ v' w', Apd w w' base e size v v' (n + m) (xs ++ news) → wpList P ops Q rest (a.put o.dst v') w') : wpList P ops Q (o :: rest) a w := by
  rcases A with _ | ad
  · have hm : m = 0 := by
      rcases Nat.eq_zero_or_pos m with h0 | h0
      · exact h0
      · obtain ⟨a, e, _⟩ := hr.2 h0; cases e
    subst hm
    have hn : news = [] := List.eq_nil_of_length_eq_zero (by simpa using hr.1)
    subst hn
    refine wpList_plain hgd fun K hK => ?_
    have hrun : (Builtin.append_ #[t, t] o.type #[v, .slice none 0 c]).run P w = .ok v w := by
      rcases hown.2 with ⟨rfl, rfl⟩ | ⟨g, cap, cur, rfl, _, _, hnc, _⟩
      · simp [Builtin.append_, run_underlying ht, sizeOf, typeInfo, hi, Builtin.lenOf, Builtin.firstCells]
      · simp [Builtin.append_, run_underlying ht, sizeOf, typeInfo, hi, Builtin.lenOf, Builtin.firstCells, hnc, storeCells]
    unfold Oper.wp execOp
    simp only [ho, resolve, invoke, builtin, Sem.run_bind, Sem.run_pure, Result.andThen_ok, List.map_toArray, List.map_cons, List.map_nil, hs, hx, hrun]
    exact hK _ _ (h v w ⟨by simpa using hown, World.grownBy.refl w _, .inl rfl⟩)
  · have hcells : ∀ j u, news[j]? = some u → w.cell? (ad.add j) = some u := by
      intro j u hu
      have hp : 0 < m := by
        rcases Nat.eq_zero_or_pos m with h0 | h0
        · have h2 := (List.getElem?_eq_some_iff.1 hu).1
          rw [hr.1, h0] at h2; omega
        · exact h0
      obtain ⟨a', e', _, _, hc⟩ := hr.2 hp
      injection e' with e'; subst e'
      exact hc j u hu
    exact wpList_append_own_at w hgd s x t ho base e i z size bytes ht hi hz hsize hby hzs hsz v n xs hs hown ad m c news hx hr.1 hcells h1 h63 hbytes hbase
      fun v' w' q1 q2 _ q4 => h v' w' ⟨q1, q2, q4.imp id fun q => ⟨_, q, Nat.le_refl _⟩⟩

/-- the source is a block that was just laid -/
theorem wp_app_new (hgd : o.guard = none) (s x : Operand) (t : TypeId) (ho : o.op = .call { callee := .builtin .append, args := #[s, x], argTypes := #[t, t] })
    (base : Nat) (e : TypeId) (i : TypeInfo) (z : Value) (size bytes : Nat) (ht : P.underlying t = some (.slice e)) (hi : P.info? e = some i) (hz : i.zero = some z)
    (hsize : i.size = size) (hby : i.bytes = bytes) (hzs : z.cells.size = size) (hsz : 0 < size)
    (v : Value) (n : Nat) (xs : List Value) (hown : w.ownsRow base e size v n xs) (hs : a.eval s = v)
    (m c : Nat) (news : List Value) (hx : a.eval x = .slice (some ⟨w.heap.size, 0, none⟩) m c) (hm : news.length = m * size) (h1 : ∀ u ∈ news, u.oneCell' = true)
    (h63 : n + m ≤ maxLen) (hbytes : (n + m) * bytes ≤ 140737488355328) (hbase : base ≤ w.heap.size)
    (h : ∀ v' w', Apd w w' base e size v v' (n + m) (xs ++ news) → wpList P ops Q rest (a.put o.dst v') w') : wpList P ops Q (o :: rest) a (w.alloc (.cells news.toArray e)) := by
  refine wpList_append_own_at _ hgd s x t ho base e i z size bytes ht hi hz hsize hby hzs hsz v n xs hs (hown.alloc _) ⟨w.heap.size, 0, none⟩ m c news hx hm ?_ h1 h63 hbytes (by simp; omega)
    fun v' w' q1 q2 _ q4 => h v' w' ⟨q1, (World.grownBy_alloc w _ _).trans q2, q4.imp id fun q => ⟨_, q, by simp⟩⟩
  have := World.news_of_block (w := w.alloc (.cells news.toArray e)) (B := w.heap.size) (cs := news.toArray) (t := e) (fr := (0, 0)) (heap_alloc_new w _)
  simpa using this

/-- 'append(b, s...)', s a string -/
theorem wp_app_string (hgd : o.guard = none) (sl x : Operand) (t u : TypeId) (ho : o.op = .call { callee := .builtin .append, args := #[sl, x], argTypes := #[t, u] })
    (base : Nat) (e : TypeId) (i : TypeInfo) (ht : P.underlying t = some (.slice e)) (hu : P.underlying u = some .string) (hi : P.info? e = some i) (hz : i.zero = some (.int .u8 0))
    (hsize : i.size = 1) (hby : i.bytes = 1)
    (v : Value) (n : Nat) (l : List UInt8) (hown : w.ownsRow base e 1 v n (bytesV l)) (hs : a.eval sl = v) (q : ByteArray) (hx : a.eval x = .string q)
    (h63 : n + q.size ≤ 140737488355328) (hbase : base ≤ w.heap.size)
    (h : ∀ v' w', w'.ownsRow base e 1 v' (n + q.size) (bytesV (l ++ oct q)) → w.grownBy w' v.ownBlock → wpList P ops Q rest (a.put o.dst v') w') : wpList P ops Q (o :: rest) a w := by
  refine Lib.wpList_append_own_string w hgd sl x t u ho base e i ht hu hi hz hsize hby v n (bytesV l) hs hown q hx (by simp only [maxLen]; omega) h63 hbase fun v' w' q1 q2 _ => h v' w' ?_ q2
  rw [bytesV_append]
  exact q1
end

theorem Try.info5 : (Try.prog.info? 5).map (fun i => (i.zero, i.size, i.bytes)) = some (some (.int .u8 0), 1, 1) := by kernel_rfl
theorem Try.info9 : (Try.prog.info? 9).map (fun i => (i.zero, i.size, i.bytes)) = some (some (.string .empty), 1, 16) := by kernel_rfl


/-- 'l = append(l, q)', l a []string of one's own -/
theorem wp_app_str {w : World} {ops : Array Oper} {rest : List Oper} {o : Oper} {a : Act} {Q : Exit → Act → World → Prop} (hgd : o.guard = none) (s x : Operand)
    (ho : o.op = .call { callee := .builtin .append, args := #[s, x], argTypes := #[22, 22] })
    (base : Nat) (v : Value) (n : Nat) (ss : List ByteArray) (hown : w.ownsRow base 9 1 v n (strs ss)) (hs : a.eval s = v)
    (q : ByteArray) (hx : a.eval x = .slice (some ⟨w.heap.size, 0, none⟩) 1 1) (hn : n ≤ 1000000000000) (hbase : base ≤ w.heap.size)
    (h : ∀ v' w', Apd w w' base 9 1 v v' (n + 1) (strs (ss ++ [q])) → wpList Try.prog ops Q rest (a.put o.dst v') w') : wpList Try.prog ops Q (o :: rest) a (w.alloc (.cells #[.string q] 9)) := by
  obtain ⟨i0, hi, hz0, hz1, hz2⟩ := info_parts Try.info9
  have := wp_app_new (P := Try.prog) (w := w) (rest := rest) (Q := Q) (ops := ops) hgd s x 22 ho base 9 i0 (.string .empty) 1 16 Try.underlying22 hi hz0 hz1 hz2 rfl (by decide) v n (strs ss) hown hs 1 1 [.string q] hx rfl
    (by simp [Value.oneCell']) (by simp only [maxLen]; omega) (by omega) hbase
  refine this fun v' w' hA => h v' w' ?_
  rw [strs_append]
  exact hA

end Go.Proofs.Yteoiadfcchalfaa
