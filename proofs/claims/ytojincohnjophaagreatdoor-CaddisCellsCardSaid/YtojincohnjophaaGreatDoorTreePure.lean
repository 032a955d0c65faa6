/- The plain side of layer 20: trees of cells, what may be, put and del, with no program in sight. -/
import Derived.Handy
import Derived.Lib.Hide
import Derived.Deep.Draws
import Derived.Deep.AppendLies
import Derived.Maps.AppendAt
import Derived.Lib.AppendStr
import Derived.Deep.DeepMust
import Derived.WalkSpells
import Derived.WalkLawsBesides
import Derived.Deep.QuietTactic
import Derived.BigQuiet
import Derived.Deep.LoopGhost
import Derived.Deep.DeepFit
import Derived.Outline
import Derived.Test.YtojincohnjophaaGreatDoorRows
import GoSem.Op.String
import Derived.Lib.Strings
/-! What all walks of this seat share: a slice value that reads as a list of cells ('Sl'), kept over whatever happens elsewhere in memory. -/
namespace Go.Proofs.YtojincohnjophaaGreatDoor
open Go.RowKit

theorem hide {p : Prop} (h : p) : Hid p := h
theorem below_drewN {B : Nat} {a w : World} (h : Below B a w) (n : Nat) : Below B a (w.drewN n) := ⟨h.os, h.tape, h.output, h.size, h.block⟩

theorem drewN_some {w : World} {n m : Nat} : ∃ q, (w.drewN n).drewN m = w.drewN q := ⟨n + m, World.drewN_drewN _ _ _⟩

theorem blk_add (a : Addr) (n : Nat) : (a.add n).block = a.block := by unfold Addr.add; split <;> rfl
theorem add_add' (a : Addr) (i j : Nat) : (a.add i).add j = a.add (i + j) := by
  unfold Addr.add
  by_cases hi : i = 0 <;> by_cases hj : j = 0 <;> simp [hi, hj, Nat.add_assoc]

/-- The slice value with address A and length n reads as the cells xs (size for each element); its block is one of V. -/
def Sl (w : World) (V : Nat → Prop) (size : Nat) (A : Option Addr) (n : Nat) (xs : List Value) : Prop :=
  xs.length = n * size ∧ (0 < n → ∃ a, A = some a ∧ V a.block ∧ a.block < w.heap.size ∧ ∀ j u, xs[j]? = some u → w.cell? (a.add j) = some u)

section
variable {w w' : World} {V V' : Nat → Prop} {size n : Nat} {A : Option Addr} {xs : List Value}

theorem Sl.lt (h : Sl w V size A n xs) : Sl w (fun b => b < w.heap.size) size A n xs :=
  ⟨h.1, fun hn => by
    obtain ⟨a, e, hv, hb, hc⟩ := h.2 hn
    exact ⟨a, e, hb, hb, hc⟩⟩
theorem Sl.lt' (h : Sl w V size A n xs) : Sl w (fun b => V b ∧ b < w.heap.size) size A n xs :=
  ⟨h.1, fun hn => by
    obtain ⟨a, e, hv, hb, hc⟩ := h.2 hn
    exact ⟨a, e, ⟨hv, hb⟩, hb, hc⟩⟩
theorem Sl.nil : Sl w V size A 0 [] := ⟨by simp, fun h => absurd h (by omega)⟩
theorem Sl.keep (h : Sl w V size A n xs) (hs : w.heap.size ≤ w'.heap.size) (hk : ∀ b, V b → b < w.heap.size → w'.heap[b]? = w.heap[b]?) : Sl w' V size A n xs :=
  ⟨h.1, fun hn => by
    obtain ⟨a, e, hv, hb, hc⟩ := h.2 hn
    refine ⟨a, e, hv, by omega, fun j u hu => ?_⟩
    rw [World.cell?_of_block (w := w) (w' := w') (a := a.add j) (by rw [blk_add]; exact hk _ hv hb)]
    exact hc j u hu⟩
theorem Sl.below (h : Sl w V size A n xs) (hb : Below w.heap.size w w') : Sl w' V size A n xs := h.keep hb.size fun b _ hlt => hb.block b hlt
theorem Sl.drew (h : Sl w V size A n xs) : Sl w.drew V size A n xs := h
theorem Sl.drewN (h : Sl w V size A n xs) (k : Nat) : Sl (w.drewN k) V size A n xs := h
theorem Sl.mono (h : Sl w V size A n xs) (hV : ∀ b, V b → V' b) : Sl w V' size A n xs :=
  ⟨h.1, fun hn => by
    obtain ⟨a, e, hv, hb, hc⟩ := h.2 hn
    exact ⟨a, e, hV _ hv, hb, hc⟩⟩
theorem Sl.any (h : Sl w V size A n xs) : Sl w (fun _ => True) size A n xs := h.mono fun _ _ => trivial
theorem Sl.at_ {k : Nat} (h : Sl w V 1 A n xs) (hk : k < n) : ∃ a u, A = some a ∧ xs[k]? = some u ∧ w.cell? (a.add k) = some u := by
  obtain ⟨a, e, _, _, hc⟩ := h.2 (by omega)
  have hl : k < xs.length := by have := h.1; omega
  exact ⟨a, xs[k], e, List.getElem?_eq_getElem hl, hc k _ (List.getElem?_eq_getElem hl)⟩
theorem Sl.cut {k m cap : Nat} (h : Sl w V size A n xs) (hk : k ≤ m) (hm : m ≤ n) (hc : m ≤ cap) :
    Sl w V size (if cap = k then A else A.map (·.add (k * size))) (m - k) ((xs.drop (k * size)).take ((m - k) * size)) := by
  have hl := h.1
  have h1 : m * size ≤ n * size := Nat.mul_le_mul_right _ hm
  have h2 : k * size ≤ m * size := Nat.mul_le_mul_right _ hk
  refine ⟨by rw [List.length_take, List.length_drop, hl, Nat.sub_mul]; omega, fun hn => ?_⟩
  obtain ⟨a, rfl, hv, hb, hcell⟩ := h.2 (by omega)
  rw [if_neg (by omega)]
  refine ⟨a.add (k * size), rfl, by rw [blk_add]; exact hv, by rw [blk_add]; exact hb, fun j u hu => ?_⟩
  rw [add_add']
  refine hcell _ u ?_
  rw [List.getElem?_take] at hu
  split at hu
  · rwa [List.getElem?_drop] at hu
  · cases hu
theorem Sl.of_own {base : Nat} {e : TypeId} {c : Nat} (h : w.ownsRow base e size (.slice A n c) n xs) : Sl w (fun b => base ≤ b) size A n xs := by
  refine ⟨h.1, fun hn => ?_⟩
  obtain ⟨g, cap, hv, hb, hlt⟩ := h.form hn
  have hA : A = some ⟨g, 0, none⟩ := by injection hv
  subst hA
  exact ⟨_, rfl, hb, hlt, h.cells (g := g) rfl⟩
end

/-- a list of strings as cells -/
def strs (ss : List ByteArray) : List Value := ss.map Value.string
theorem strs_append (a b : List ByteArray) : strs (a ++ b) = strs a ++ strs b := by simp [strs]
theorem strs_length (a : List ByteArray) : (strs a).length = a.length := by simp [strs]
theorem Sl.str {w : World} {V : Nat → Prop} {A : Option Addr} {n k : Nat} {ss : List ByteArray} (h : Sl w V 1 A n (strs ss)) (hk : k < n) :
    ∃ a s, A = some a ∧ ss[k]? = some s ∧ w.cell? (a.add k) = some (.string s) := by
  obtain ⟨a, u, e, hx, hc⟩ := h.at_ hk
  rw [strs, List.getElem?_map] at hx
  cases hs : ss[k]? with
  | none => rw [hs] at hx; cases hx
  | some s =>
    rw [hs] at hx
    simp only [Option.map_some, Option.some.injEq] at hx
    exact ⟨a, s, e, rfl, by rw [hx]; exact hc⟩
theorem Sl.len {w : World} {V : Nat → Prop} {A : Option Addr} {n : Nat} {ss : List ByteArray} (h : Sl w V 1 A n (strs ss)) : ss.length = n := by
  have := h.1; rw [strs_length] at this; simpa using this

/-- octets of a string -/
abbrev oct (s : ByteArray) : List UInt8 := s.data.toList
theorem oct_length (s : ByteArray) : (oct s).length = s.size := by simp [oct]
theorem oct_mk (l : List UInt8) : oct ⟨l.toArray⟩ = l := by simp [oct]
theorem mk_oct (s : ByteArray) : (⟨(oct s).toArray⟩ : ByteArray) = s := by cases s; simp [oct]
theorem oct_inj {a b : ByteArray} (h : oct a = oct b) : a = b := by rw [← mk_oct a, ← mk_oct b, h]
theorem size_mk (l : List UInt8) : (⟨l.toArray⟩ : ByteArray).size = l.length := by rw [← oct_length, oct_mk]
theorem oct_extract (s : ByteArray) (a b : Nat) : oct (s.extract a b) = ((oct s).drop a).take (b - a) := by
  simp [oct, ByteArray.data_extract, Array.toList_extract, List.extract_eq_take_drop]

/-- noughts -/
def zeroBytes (n : Nat) : ByteArray := ⟨(List.replicate n (0 : UInt8)).toArray⟩
theorem oct_zeroBytes (n : Nat) : oct (zeroBytes n) = List.replicate n 0 := oct_mk _
theorem size_zeroBytes (n : Nat) : (zeroBytes n).size = n := by rw [← oct_length, oct_zeroBytes, List.length_replicate]

theorem ret_int {k : IntKind} {a b : Int} (h : a = b) : Ending.returned (.int k a) = .returned (.int k b) := by rw [h]
theorem ret_bool {a b : Bool} (h : a = b) : Ending.returned (.bool a) = .returned (.bool b) := by rw [h]
theorem ret_str {a b : ByteArray} (h : a = b) : Ending.returned (.string a) = .returned (.string b) := by rw [h]

/-- octets as cells -/
def bytesV (l : List UInt8) : List Value := l.map fun b => .int .u8 (b.toNat : Int)
theorem bytesV_length (l : List UInt8) : (bytesV l).length = l.length := by simp [bytesV]
theorem bytesV_append (a b : List UInt8) : bytesV (a ++ b) = bytesV a ++ bytesV b := by simp [bytesV]
theorem strs_one (l : List ByteArray) : ∀ u ∈ strs l, u.oneCell' = true := by
  intro u hu
  simp only [strs, List.mem_map] at hu
  obtain ⟨b, _, rfl⟩ := hu
  rfl

/-- 'string(b)' of a slice that reads as the octets l -/
theorem conv_str {P : Program} {w : World} {V : Nat → Prop} {A : Option Addr} {n c : Nat} {l : List UInt8} (h : Sl w V 1 A n (bytesV l)) (src dst e : TypeId)
    (hs : P.underlying src = some (.slice e)) (he : P.underlying e = some (.int .u8)) (hd : P.underlying dst = some .string) :
    (convert src dst (.slice A n c)).run P w = .ok (.string ⟨l.toArray⟩) w := by
  have hl : l.length = n := by have := h.1; rw [bytesV_length] at this; omega
  subst hl
  rcases A with _ | a
  · have hz : l.length = 0 := by
      rcases Nat.eq_zero_or_pos l.length with h0 | h0
      · exact h0
      · obtain ⟨a, e, _⟩ := h.2 h0; cases e
    rw [run_convert_bytes_string w src dst e none l.length c hs he hd]
    have : l = [] := List.eq_nil_of_length_eq_zero hz
    subst this
    simp [Conv.bytesToString, Sem.run_pure]; rfl
  · refine run_convert_bytes_back w src dst e a c l hs he hd fun j hj => ?_
    obtain ⟨a', ea, _, _, hc⟩ := h.2 (by omega)
    injection ea with ea; subst ea
    refine hc j _ ?_
    rw [bytesV, List.getElem?_map, List.getElem?_eq_getElem hj]; rfl

theorem own_shape {w : World} {base : Nat} {e : TypeId} {size n : Nat} {v : Value} {xs : List Value} (h : w.ownsRow base e size v n xs) : ∃ A c, v = .slice A n c := by
  rcases h.2 with ⟨rfl, rfl⟩ | ⟨g, cap, cur, rfl, _⟩
  · exact ⟨_, _, rfl⟩
  · exact ⟨_, _, rfl⟩
theorem toList_cmp {a b : ByteArray} : (a.toList == b.toList) = decide (oct a = oct b) := by
  rw [ByteArray.toList_eq, ByteArray.toList_eq, Bool.eq_iff_iff]; simp
theorem own_drewN {w : World} {base : Nat} {e : TypeId} {size n : Nat} {v : Value} {xs : List Value} (h : w.ownsRow base e size v n xs) (k : Nat) : (w.drewN k).ownsRow base e size v n xs := h
theorem own_below {w w' : World} {base : Nat} {e : TypeId} {size n : Nat} {v : Value} {xs : List Value} (h : w.ownsRow base e size v n xs) (hb : Below w.heap.size w w') : w'.ownsRow base e size v n xs :=
  h.kept (row := none) ⟨hb.os, hb.tape, hb.output, hb.size, fun k hk _ => hb.block k hk⟩ (by cases hv : v.ownBlock <;> simp)

/-! ### Append onto a row of one's own -/

/-- What an append onto a row of one's own leaves. -/
structure Apd (w w' : World) (base : Nat) (e : TypeId) (size : Nat) (v v' : Value) (n : Nat) (xs : List Value) : Prop where
  own : w'.ownsRow base e size v' n xs
  grown : w.grownBy w' v.ownBlock
  at_ : v'.ownBlock = v.ownBlock ∨ ∃ g, v'.ownBlock = some g ∧ w.heap.size ≤ g

theorem Apd.below {w0 w w' : World} {base B : Nat} {e : TypeId} {size : Nat} {v v' : Value} {n m : Nat} {xs ys : List Value} (h : Apd w w' base e size v v' n xs) (ho : w.ownsRow base e size v m ys) (hb : Below B w0 w) (hB : B ≤ base) (hs : B ≤ w.heap.size) : Below B w0 w' :=
  hb.grown h.grown hs fun k hk => Nat.le_trans hB (ho.lt k hk).1

section
variable {P : Program} {w : World} {ops : Array Oper} {rest : List Oper} {o : Oper} {a : Act} {Q : Exit → Act → World → Prop}

/-- the source reads as news -/
theorem wp_app (hgd : o.guard = none) (s x : Operand) (t : TypeId) (ho : o.op = .call { callee := .builtin .append, args := #[s, x], argTypes := #[t, t] })
    (base : Nat) (e : TypeId) (i : TypeInfo) (z : Value) (size bytes : Nat) (ht : P.underlying t = some (.slice e)) (hi : P.info? e = some i) (hz : i.zero = some z)
    (hsize : i.size = size) (hby : i.bytes = bytes) (hzs : z.cells.size = size) (hsz : 0 < size)
    (v : Value) (n : Nat) (xs : List Value) (hown : w.ownsRow base e size v n xs) (hs : a.eval s = v)
    (V : Nat → Prop) (A : Option Addr) (m c : Nat) (news : List Value) (hx : a.eval x = .slice A m c) (hr : Sl w V size A m news) (h1 : ∀ u ∈ news, u.oneCell' = true)
    (h63 : n + m ≤ maxLen) (hbytes : (n + m) * bytes ≤ 140737488355328) (hbase : base ≤ w.heap.size)
    (h : ∀ v' w', Apd w w' base e size v v' (n + m) (xs ++ news) → wpList P ops Q rest (a.put o.dst v') w') : wpList P ops Q (o :: rest) a w := by
  rcases A with _ | ad
  · have hm : m = 0 := by
      rcases Nat.eq_zero_or_pos m with h0 | h0
      · exact h0
      · obtain ⟨a, e, _⟩ := hr.2 h0; cases e
    subst hm
    have hn : news = [] := List.eq_nil_of_length_eq_zero (by simpa using hr.1)
    subst hn
    refine wpList_plain hgd fun K hK => ?_
    have hrun : (Builtin.append_ #[t, t] o.type #[v, .slice none 0 c]).run P w = .ok v w := by
      rcases hown.2 with ⟨rfl, rfl⟩ | ⟨g, cap, cur, rfl, _, _, hnc, _⟩
      · simp [Builtin.append_, run_underlying ht, sizeOf, typeInfo, hi, Builtin.lenOf, Builtin.firstCells]
      · simp [Builtin.append_, run_underlying ht, sizeOf, typeInfo, hi, Builtin.lenOf, Builtin.firstCells, hnc, storeCells]
    unfold Oper.wp execOp
    simp only [ho, resolve, invoke, builtin, Sem.run_bind, Sem.run_pure, Result.andThen_ok, List.map_toArray, List.map_cons, List.map_nil, hs, hx, hrun]
    exact hK _ _ (h v w ⟨by simpa using hown, World.grownBy.refl w _, .inl rfl⟩)
  · have hcells : ∀ j u, news[j]? = some u → w.cell? (ad.add j) = some u := by
      intro j u hu
      have hp : 0 < m := by
        rcases Nat.eq_zero_or_pos m with h0 | h0
        · have h2 := (List.getElem?_eq_some_iff.1 hu).1
          rw [hr.1, h0] at h2; omega
        · exact h0
      obtain ⟨a', e', _, _, hc⟩ := hr.2 hp
      injection e' with e'; subst e'
      exact hc j u hu
    exact wpList_append_own_at w hgd s x t ho base e i z size bytes ht hi hz hsize hby hzs hsz v n xs hs hown ad m c news hx hr.1 hcells h1 h63 hbytes hbase
      fun v' w' q1 q2 _ q4 => h v' w' ⟨q1, q2, q4.imp id fun q => ⟨_, q, Nat.le_refl _⟩⟩

/-- the source is a block that was just laid -/
theorem wp_app_new (hgd : o.guard = none) (s x : Operand) (t : TypeId) (ho : o.op = .call { callee := .builtin .append, args := #[s, x], argTypes := #[t, t] })
    (base : Nat) (e : TypeId) (i : TypeInfo) (z : Value) (size bytes : Nat) (ht : P.underlying t = some (.slice e)) (hi : P.info? e = some i) (hz : i.zero = some z)
    (hsize : i.size = size) (hby : i.bytes = bytes) (hzs : z.cells.size = size) (hsz : 0 < size)
    (v : Value) (n : Nat) (xs : List Value) (hown : w.ownsRow base e size v n xs) (hs : a.eval s = v)
    (m c : Nat) (news : List Value) (hx : a.eval x = .slice (some ⟨w.heap.size, 0, none⟩) m c) (hm : news.length = m * size) (h1 : ∀ u ∈ news, u.oneCell' = true)
    (h63 : n + m ≤ maxLen) (hbytes : (n + m) * bytes ≤ 140737488355328) (hbase : base ≤ w.heap.size)
    (h : ∀ v' w', Apd w w' base e size v v' (n + m) (xs ++ news) → wpList P ops Q rest (a.put o.dst v') w') : wpList P ops Q (o :: rest) a (w.alloc (.cells news.toArray e)) := by
  refine wpList_append_own_at _ hgd s x t ho base e i z size bytes ht hi hz hsize hby hzs hsz v n xs hs (hown.alloc _) ⟨w.heap.size, 0, none⟩ m c news hx hm ?_ h1 h63 hbytes (by simp; omega)
    fun v' w' q1 q2 _ q4 => h v' w' ⟨q1, (World.grownBy_alloc w _ _).trans q2, q4.imp id fun q => ⟨_, q, by simp⟩⟩
  have := World.news_of_block (w := w.alloc (.cells news.toArray e)) (B := w.heap.size) (cs := news.toArray) (t := e) (fr := (0, 0)) (heap_alloc_new w _)
  simpa using this

end

theorem Tryz.info5 : (Tryz.prog.info? 5).map (fun i => (i.zero, i.size, i.bytes)) = some (some (.int .u8 0), 1, 1) := by kernel_rfl
theorem Tryz.info9 : (Tryz.prog.info? 9).map (fun i => (i.zero, i.size, i.bytes)) = some (some (.string .empty), 1, 16) := by kernel_rfl


/-- 'l = append(l, q)', l a []string of one's own -/
theorem wp_app_str {w : World} {ops : Array Oper} {rest : List Oper} {o : Oper} {a : Act} {Q : Exit → Act → World → Prop} (hgd : o.guard = none) (s x : Operand)
    (ho : o.op = .call { callee := .builtin .append, args := #[s, x], argTypes := #[22, 22] })
    (base : Nat) (v : Value) (n : Nat) (ss : List ByteArray) (hown : w.ownsRow base 9 1 v n (strs ss)) (hs : a.eval s = v)
    (q : ByteArray) (hx : a.eval x = .slice (some ⟨w.heap.size, 0, none⟩) 1 1) (hn : n ≤ 1000000000000) (hbase : base ≤ w.heap.size)
    (h : ∀ v' w', Apd w w' base 9 1 v v' (n + 1) (strs (ss ++ [q])) → wpList Tryz.prog ops Q rest (a.put o.dst v') w') : wpList Tryz.prog ops Q (o :: rest) a (w.alloc (.cells #[.string q] 9)) := by
  obtain ⟨i0, hi, hz0, hz1, hz2⟩ := info_parts Tryz.info9
  have := wp_app_new (P := Tryz.prog) (w := w) (rest := rest) (Q := Q) (ops := ops) hgd s x 22 ho base 9 i0 (.string .empty) 1 16 Tryz.underlying22 hi hz0 hz1 hz2 rfl (by decide) v n (strs ss) hown hs 1 1 [.string q] hx rfl
    (by simp [Value.oneCell']) (by simp only [maxLen]; omega) (by omega) hbase
  refine this fun v' w' hA => h v' w' ?_
  rw [strs_append]
  exact hA

end Go.Proofs.YtojincohnjophaaGreatDoor

/-! The plain side of layer 20: trees of cells, what may be, put and del, with no program in sight. -/
namespace Go.Proofs.YtojincohnjophaaGreatDoor.TreeP
set_option linter.unusedVariables false

/-! ### Keys in order -/
/-- the order of octets -/
def kl (a b : ByteArray) : Bool := Op.bytesLess a.toList b.toList

theorem bl_irrefl : ∀ x : List UInt8, Op.bytesLess x x = false
  | [] => rfl
  | a :: x => by simp [Op.bytesLess, bl_irrefl x]
theorem bl_trans : ∀ {x y z : List UInt8}, Op.bytesLess x y = true → Op.bytesLess y z = true → Op.bytesLess x z = true
  | _, [], _, h, _ => by simp [Op.bytesLess] at h
  | _, _ :: _, [], _, h => by simp [Op.bytesLess] at h
  | [], _ :: _, _ :: _, _, _ => rfl
  | a :: x, b :: y, c :: z, h1, h2 => by
    simp only [Op.bytesLess, Bool.or_eq_true, Bool.and_eq_true, decide_eq_true_eq, beq_iff_eq] at *
    rcases h1 with h1 | ⟨rfl, h1⟩
    · rcases h2 with h2 | ⟨rfl, h2⟩
      · left; exact UInt8.lt_trans h1 h2
      · left; exact h1
    · rcases h2 with h2 | ⟨rfl, h2⟩
      · left; exact h2
      · right; exact ⟨rfl, bl_trans h1 h2⟩
theorem bl_total : ∀ {x y : List UInt8}, Op.bytesLess x y = false → Op.bytesLess y x = false → x = y
  | [], [], _, _ => rfl
  | [], _ :: _, h, _ => by simp [Op.bytesLess] at h
  | _ :: _, [], _, h => by simp [Op.bytesLess] at h
  | a :: x, b :: y, h1, h2 => by
    simp only [Op.bytesLess, Bool.or_eq_false_iff, Bool.and_eq_false_iff, decide_eq_false_iff_not] at *
    have e : a = b := by
      have h3 := UInt8.not_lt.1 h1.1
      have h4 := UInt8.not_lt.1 h2.1
      exact UInt8.le_antisymm h4 h3
    subst e
    simp only [beq_self_eq_true, Bool.true_eq_false, false_or] at h1 h2
    rw [bl_total h1.2 h2.2]

theorem toList_inj {a b : ByteArray} (h : a.toList = b.toList) : a = b := by
  rw [ByteArray.toList_eq, ByteArray.toList_eq] at h
  cases a; cases b; simpa using h
theorem kl_irrefl (a : ByteArray) : kl a a = false := bl_irrefl _
theorem kl_trans {a b c : ByteArray} (h : kl a b = true) (g : kl b c = true) : kl a c = true := bl_trans h g
theorem kl_total {a b : ByteArray} (h : kl a b = false) (g : kl b a = false) : a = b := toList_inj (bl_total h g)
theorem kl_asymm {a b : ByteArray} (h : kl a b = true) : kl b a = false := by
  rw [Bool.eq_false_iff]; intro g
  have := kl_trans h g
  rw [kl_irrefl] at this; cases this
theorem kl_ne {a b : ByteArray} (h : kl a b = true) : a ≠ b := by
  rintro rfl; rw [kl_irrefl] at h; cases h
/-- a ≤ b < c -/
theorem kl_le_lt {a b c : ByteArray} (h : kl b a = false) (g : kl b c = true) : kl a c = true := by
  cases e : kl a b with
  | true => exact kl_trans e g
  | false => rw [kl_total e h]; exact g
/-- a < b ≤ c -/
theorem kl_lt_le {a b c : ByteArray} (h : kl a b = true) (g : kl c b = false) : kl a c = true := by
  cases e : kl b c with
  | true => exact kl_trans h e
  | false => rw [← kl_total e g]; exact h
theorem kl_le_le {a b c : ByteArray} (h : kl b a = false) (g : kl c b = false) : kl c a = false := by
  rw [Bool.eq_false_iff]; intro e
  have := kl_lt_le e h
  rw [g] at this; cases this
theorem kl_empty (a : ByteArray) : kl a .empty = false := by
  unfold kl
  rw [show ByteArray.empty.toList = [] by rw [ByteArray.toList_eq]; rfl]
  cases a.toList <;> rfl
theorem toList_beq {a b : ByteArray} : (a.toList == b.toList) = decide (a = b) := by
  rw [Bool.eq_iff_iff]; simp only [beq_iff_eq, decide_eq_true_eq]
  exact ⟨toList_inj, fun h => by rw [h]⟩

/-! ### Cells in order -/
abbrev Cell := ByteArray × ByteArray

/-- rising -/
def Rise : List Cell → Prop
  | [] => True
  | c :: l => (∀ d ∈ l, kl c.1 d.1 = true) ∧ Rise l
theorem rise_append {a b : List Cell} : Rise (a ++ b) ↔ Rise a ∧ Rise b ∧ ∀ x ∈ a, ∀ y ∈ b, kl x.1 y.1 = true := by
  induction a with
  | nil => simp [Rise]
  | cons c a ih =>
    simp only [List.cons_append, Rise, ih, List.mem_append, List.mem_cons]
    constructor
    · rintro ⟨h1, h2, h3, h4⟩
      refine ⟨⟨fun d hd => h1 d (.inl hd), h2⟩, h3, ?_⟩
      rintro x (rfl | hx) y hy
      · exact h1 y (.inr hy)
      · exact h4 x hx y hy
    · rintro ⟨⟨h1, h2⟩, h3, h4⟩
      refine ⟨?_, h2, h3, fun x hx y hy => h4 x (.inr hx) y hy⟩
      rintro d (hd | hd)
      · exact h1 d hd
      · exact h4 c (.inl rfl) d hd
/-- cells, rising, with one -/
def withC (l : List Cell) (c : Cell) : List Cell := l.filter (fun d => kl d.1 c.1) ++ c :: l.filter (fun d => kl c.1 d.1)
/-- a key's value -/
def get (l : List Cell) (k : ByteArray) : Option ByteArray := (l.find? fun d => decide (d.1 = k)).map (·.2)

theorem filter_all {p : Cell → Bool} {l : List Cell} (h : ∀ d ∈ l, p d = true) : l.filter p = l := List.filter_eq_self.2 h
theorem filter_none {p : Cell → Bool} {l : List Cell} (h : ∀ d ∈ l, p d = false) : l.filter p = [] := by
  rw [List.filter_eq_nil_iff]; intro d hd; rw [h d hd]; simp
theorem withC_mid {a b m : List Cell} {c : Cell} (ha : ∀ d ∈ a, kl d.1 c.1 = true) (hb : ∀ d ∈ b, kl c.1 d.1 = true) : withC (a ++ m ++ b) c = a ++ withC m c ++ b := by
  unfold withC
  rw [List.filter_append, List.filter_append, List.filter_append, List.filter_append]
  rw [filter_all ha, filter_all hb, filter_none (l := a) (fun d hd => kl_asymm (ha d hd)), filter_none (l := b) (fun d hd => kl_asymm (hb d hd))]
  simp
theorem mem_withC {l : List Cell} {c d : Cell} : d ∈ withC l c ↔ d = c ∨ (d ∈ l ∧ d.1 ≠ c.1) := by
  unfold withC
  simp only [List.mem_append, List.mem_filter, List.mem_cons]
  constructor
  · rintro (⟨h1, h2⟩ | rfl | ⟨h1, h2⟩)
    · exact .inr ⟨h1, kl_ne h2⟩
    · exact .inl rfl
    · exact .inr ⟨h1, (kl_ne h2).symm⟩
  · rintro (rfl | ⟨h1, h2⟩)
    · exact .inr (.inl rfl)
    · cases e : kl d.1 c.1 with
      | true => exact .inl ⟨h1, rfl⟩
      | false =>
        refine .inr (.inr ⟨h1, ?_⟩)
        cases e2 : kl c.1 d.1 with
        | true => rfl
        | false => exact absurd (kl_total e e2) h2
theorem rise_filter {l : List Cell} (p : Cell → Bool) (h : Rise l) : Rise (l.filter p) := by
  induction l with
  | nil => simp [Rise]
  | cons c l ih =>
    rw [List.filter_cons]
    split
    · exact ⟨fun d hd => h.1 d (List.mem_filter.1 hd).1, ih h.2⟩
    · exact ih h.2
theorem rise_withC {l : List Cell} (c : Cell) (h : Rise l) : Rise (withC l c) := by
  unfold withC
  rw [rise_append]
  refine ⟨rise_filter _ h, ⟨fun d hd => (List.mem_filter.1 hd).2, rise_filter _ h⟩, fun x hx y hy => ?_⟩
  have h1 := (List.mem_filter.1 hx).2
  rcases List.mem_cons.1 hy with rfl | hy
  · exact h1
  · exact kl_trans h1 (List.mem_filter.1 hy).2
theorem get_none {l : List Cell} {k : ByteArray} : get l k = none ↔ ∀ d ∈ l, d.1 ≠ k := by
  unfold get
  rw [Option.map_eq_none_iff, List.find?_eq_none]; simp
theorem length_withC {l : List Cell} {c : Cell} (h : Rise l) : (withC l c).length = if (get l c.1).isSome then l.length else l.length + 1 := by
  have key : ∀ l : List Cell, Rise l → (l.filter (fun d => kl d.1 c.1)).length + (l.filter (fun d => kl c.1 d.1)).length + (if (get l c.1).isSome then 1 else 0) = l.length := by
    intro l
    induction l with
    | nil => intro _; simp [get]
    | cons x l ih =>
      intro h
      have ih' := ih h.2
      simp only [List.filter_cons, List.length_cons]
      cases e1 : kl x.1 c.1 with
      | true =>
        rw [kl_asymm e1]
        have hg : get (x :: l) c.1 = get l c.1 := by simp [get, kl_ne e1]
        rw [hg]; simp; omega
      | false =>
        cases e2 : kl c.1 x.1 with
        | true =>
          have hg : get (x :: l) c.1 = get l c.1 := by simp [get, (kl_ne e2).symm]
          rw [hg]; simp; omega
        | false =>
          have e := kl_total e1 e2
          have hg : get (x :: l) c.1 = some x.2 := by simp [get, e]
          have hn : get l c.1 = none := get_none.2 fun d hd e3 => by
            have := h.1 d hd; rw [e3, e, kl_irrefl] at this; cases this
          rw [hn] at ih'
          rw [hg]; simp at *; omega
  have := key l h
  unfold withC
  rw [List.length_append, List.length_cons]
  split <;> rename_i h1 <;> simp only [h1] at this <;> simp at this <;> omega
/-! ### Trees -/
inductive Kt where
  | mk (cells : List Cell) (keys : List ByteArray) (kids : List Kt)

def Kt.cells : Kt → List Cell | .mk c _ _ => c
def Kt.keys : Kt → List ByteArray | .mk _ k _ => k
def Kt.kids : Kt → List Kt | .mk _ _ k => k

theorem ind {P : Kt → Prop} (h : ∀ cells keys kids, (∀ k ∈ kids, P k) → P (.mk cells keys kids)) (t : Kt) : P t :=
  Kt.rec (motive_1 := P) (motive_2 := fun l => ∀ k ∈ l, P k) (fun cells keys kids ih => h cells keys kids ih) (fun k hk => absurd hk List.not_mem_nil)
    (fun x l hx hl k hk => by
      rcases List.mem_cons.1 hk with rfl | hk
      · exact hx
      · exact hl k hk) t

mutual
  /-- all cells, from the left -/
  def flat : Kt → List Cell
    | .mk cells _ kids => cells ++ flatL kids
  def flatL : List Kt → List Cell
    | [] => []
    | k :: l => flat k ++ flatL l
end
theorem flatL_append (a b : List Kt) : flatL (a ++ b) = flatL a ++ flatL b := by
  induction a with
  | nil => simp [flatL]
  | cons k a ih => simp [flatL, ih]

mutual
  def height : Kt → Nat
    | .mk _ _ kids => heightL kids + 1
  def heightL : List Kt → Nat
    | [] => 0
    | k :: l => max (height k) (heightL l)
end
/-- from lo on, ahead of hi -/
def InB (lo hi : Option ByteArray) (c : Cell) : Prop := (∀ l, lo = some l → kl c.1 l = false) ∧ (∀ u, hi = some u → kl c.1 u = true)

mutual
  /-- a tree that may be, of height h, whose leaf has ml cells or more, whose inner knot mi kids or more, all cells of which lie between lo and hi -/
  def Inv (ml mi h : Nat) (lo hi : Option ByteArray) : Kt → Prop
    | .mk cells keys kids => (kids = [] ∧ keys = [] ∧ h = 1 ∧ ml ≤ cells.length ∧ cells.length ≤ 4 ∧ Rise cells ∧ ∀ c ∈ cells, InB lo hi c) ∨
        (cells = [] ∧ mi ≤ kids.length ∧ kids.length ≤ 4 ∧ 2 ≤ h ∧ InvL (h - 1) lo hi keys kids)
  def InvL (h : Nat) (lo hi : Option ByteArray) (keys : List ByteArray) : List Kt → Prop
    | [] => False
    | kid :: kids => match keys with
      | [] => kids = [] ∧ Inv 2 2 h lo hi kid
      | k :: ks => Inv 2 2 h lo (some k) kid ∧ InvL h (some k) hi ks kids
end

end Go.Proofs.YtojincohnjophaaGreatDoor.TreeP
