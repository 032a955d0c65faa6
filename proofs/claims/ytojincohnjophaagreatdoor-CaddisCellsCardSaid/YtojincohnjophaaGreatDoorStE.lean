/- The parser of statements: the map of its functions, statement (seat c). -/
import Derived.Test.YtojincohnjophaaGreatDoorStC
import Derived.MapKept
import Derived.Carry
import Derived.Deep.DeepCutAuto
/-! The parser of statements: where, choose (seat c). -/
namespace Go.Proofs.YtojincohnjophaaGreatDoor
open Go.RowKit
set_option linter.unusedVariables false

/-- What the parser's functions leave behind a condition: it has taken all. -/
def WhPost (b : Nat) (w : World) (A : Option Addr) (c : Nat) (op tb : ByteArray) (ts : List Tok) (q : Ending) (w' : World) : Prop :=
  ∃ g, q = .returned (.bool true) ∧ w.heap.size ≤ g ∧ Box w' g 107 twoCells ∧ Exc b w w' ∧ Sp w' b A 8 c 8 op tb ⟨#[61]⟩ (.slice (some ⟨g, 0, none⟩) 2 2) ts
set_option maxRecDepth 100000 in
set_option maxHeartbeats 1600000 in
theorem where_8 (b : Nat) (A : Option Addr) (c : Nat) (op tb : ByteArray) (ts : List Tok) (h4 : ts[4]? = some (1, ⟨#[87, 72, 69, 82, 69]⟩)) (h0 : ts[5]? = some (1, ⟨#[107]⟩)) (h1 : ts[6]? = some (4, ⟨#[61]⟩)) (h2 : ts[7]? = some (2, ⟨#[49]⟩)) (hc : 8 ≤ c) (w : World) (h : Sp w b A 8 c 4 op tb .empty (.slice none 0 0) ts) :
    Calls Tryz.prog 156 #[.pointer (some ⟨b, 0, none⟩)] w (WhPost b w A c op tb ts) := by
  have HT := hide (stake_any b A 8 c 4 op tb .empty (.slice none 0 0) ts ⟨#[87, 72, 69, 82, 69]⟩ (by omega) w h)
  rw [takes_at h4, show isB 1 ⟨#[87, 72, 69, 82, 69]⟩ ⟨#[87, 72, 69, 82, 69]⟩ = true by decide] at HT
  have HE := hide (fun ww hh => sexpr_8 b A c op tb ts h0 h1 h2 hc ww hh)
  clear h h4 h0 h1 h2
  go_enter Tryz.func156, Tryz.ntmps156
  go_wp2_with fail
  refine HT.out.mono ?_
  rintro q w1 ⟨rfl, hx1, hp1⟩
  simp only [if_true] at hp1
  have HX1 := hide hx1
  have HP1 := hide hp1
  clear hx1 hp1
  go_wp2_with fail
  refine (HE.out _ HP1.out).mono ?_
  rintro q w2 ⟨g, rfl, hg, kG, hx2, hp2⟩
  have HX2 := hide (HX1.out.trans hx2)
  have hgw : w.heap.size ≤ g := Nat.le_trans HX1.out.size hg
  have HP2 := hide hp2
  have HG := hide kG
  clear hx2 hp2 kG
  go_wp2_with fail
  go_ret
  exact ⟨g, rfl, hgw, HG.out, HX2.out, HP2.out⟩
set_option maxRecDepth 100000 in
set_option maxHeartbeats 1600000 in
theorem choose_8 (b : Nat) (A : Option Addr) (c : Nat) (ts : List Tok) (t1 : ts[1]? = some (4, ⟨#[42]⟩)) (t2 : ts[2]? = some (1, ⟨#[70, 82, 79, 77]⟩)) (t3 : ts[3]? = some (1, ⟨#[116]⟩)) (h4 : ts[4]? = some (1, ⟨#[87, 72, 69, 82, 69]⟩)) (h0 : ts[5]? = some (1, ⟨#[107]⟩)) (h1 : ts[6]? = some (4, ⟨#[61]⟩)) (h2 : ts[7]? = some (2, ⟨#[49]⟩)) (hc : 8 ≤ c) (w : World) (h : Sp w b A 8 c 1 .empty .empty .empty (.slice none 0 0) ts) :
    Calls Tryz.prog 114 #[.pointer (some ⟨b, 0, none⟩)] w (WhPost b w A c ⟨#[115, 101, 108, 101, 99, 116]⟩ ⟨#[116]⟩ ts) := by
  have hb := h.box.lt
  have f2 := h.box.frozen 2
  have k2 : w.cell? ⟨b, 2, none⟩ = some (.string .empty) := h.box.cellAt rfl
  have hP1 := h.setOp ⟨#[115, 101, 108, 101, 99, 116]⟩
  have HX1 := hide ((Exc.refl b w).set 2 (.string ⟨#[115, 101, 108, 101, 99, 116]⟩))
  have hall : AllTaken ts 1 [⟨#[42]⟩, ⟨#[70, 82, 79, 77]⟩] := by
    intro k u hu
    match k, hu with
    | 0, hu => obtain rfl := Option.some.inj hu; rw [takes_at t1]; decide
    | 1, hu => obtain rfl := Option.some.inj hu; rw [takes_at t2]; decide
    | k + 2, hu => simp at hu
  have esz : (w.setCell ⟨b, 2, none⟩ (.string ⟨#[115, 101, 108, 101, 99, 116]⟩)).heap.size = w.heap.size := by simp [World.setCell]
  have hsl := words_new (w.setCell ⟨b, 2, none⟩ (.string ⟨#[115, 101, 108, 101, 99, 116]⟩)) b (by rw [esz]; exact hb) [⟨#[42]⟩, ⟨#[70, 82, 79, 77]⟩] 9
  rw [esz] at hsl
  have HW := hide (words_any b A 8 c 1 ⟨#[115, 101, 108, 101, 99, 116]⟩ .empty .empty (.slice none 0 0) ts [⟨#[42]⟩, ⟨#[70, 82, 79, 77]⟩] (some ⟨w.heap.size, 0, none⟩) 2 2 (by omega) (by omega) _ (hP1.below ((Below.refl _ _).alloc (Nat.le_refl _) (.cells (strs [⟨#[42]⟩, ⟨#[70, 82, 79, 77]⟩]).toArray 9))) hsl hall)
  have HXW := hide (HX1.out.alloc (.cells (strs [⟨#[42]⟩, ⟨#[70, 82, 79, 77]⟩]).toArray 9))
  have HN := hide (fun ww hh => pname_t b A 8 c 3 ⟨#[115, 101, 108, 101, 99, 116]⟩ .empty .empty (.slice none 0 0) ts (by omega) t3 ww hh)
  have HE := hide (fun ww hh => where_8 b A c ⟨#[115, 101, 108, 101, 99, 116]⟩ ⟨#[116]⟩ ts h4 h0 h1 h2 hc ww hh)
  clear h h4 h0 h1 h2 t1 t2 t3 hP1 hall hsl esz
  go_enter Tryz.func114, Tryz.ntmps114
  go_wp2_with fail
  refine HW.out.mono ?_
  rintro q w1 ⟨rfl, hx1, hp1⟩
  have HX2 := hide (HXW.out.trans hx1)
  have HP1 := hide hp1
  clear hx1 hp1
  go_wp2_with fail
  refine (HN.out _ HP1.out).mono ?_
  rintro q w2 ⟨rfl, hx2, hp2⟩
  have HX3 := hide (HX2.out.trans hx2)
  have HP2 := hide hp2
  clear hx2 hp2
  go_wp2_with fail
  refine (HE.out _ HP2.out).mono ?_
  rintro q w3 ⟨g, rfl, hg, kG, hx3, hp3⟩
  have HX4 := hide (HX3.out.trans hx3)
  have hgw : w.heap.size ≤ g := Nat.le_trans HX3.out.size hg
  have HP3 := hide hp3
  have HG := hide kG
  clear hx3 hp3 kG
  go_wp2_with fail
  go_ret
  exact ⟨g, rfl, hgw, HG.out, HX4.out, HP3.out⟩
end Go.Proofs.YtojincohnjophaaGreatDoor

/-! The parser of statements: the map of its functions, statement (seat c). -/
namespace Go.Proofs.YtojincohnjophaaGreatDoor
open Go.RowKit
set_option linter.unusedVariables false

def entsGo : Nat → List (ByteArray × Value) → List MapEntry
  | _, [] => []
  | k, x :: l => ⟨.string x.1, x.2, k⟩ :: entsGo (k + 1) l
theorem entsGo_snoc : ∀ (l : List (ByteArray × Value)) (k : Nat) (x : ByteArray × Value), entsGo k (l ++ [x]) = entsGo k l ++ [⟨.string x.1, x.2, k + l.length⟩]
  | [], k, x => rfl
  | y :: l, k, x => by
    have := entsGo_snoc l (k + 1) x
    simp only [List.cons_append, entsGo, this, List.length_cons]
    rw [show k + 1 + l.length = k + (l.length + 1) by omega]
/-- The map in block m holds just these. -/
def Fns (w : World) (m : Nat) (l : List (ByteArray × Value)) : Prop := w.heap[m]? = some (.map (entsGo 0 l).toArray l.length)
theorem Fns.at {w w' : World} {m : Nat} {l : List (ByteArray × Value)} (h : Fns w m l) (hk : w'.heap[m]? = w.heap[m]?) : Fns w' m l := by unfold Fns at *; rw [hk]; exact h
theorem Fns.lt {w : World} {m : Nat} {l : List (ByteArray × Value)} (h : Fns w m l) : m < w.heap.size := (Array.getElem?_eq_some_iff.1 h).1
theorem beq_ne {s t : ByteArray} (h : s ≠ t) : (s == t) = false := by
  rw [Bool.eq_false_iff]
  intro e
  apply h
  have e2 : (s.data == t.data) = true := e
  cases s
  cases t
  simp at e2
  simp [e2]
theorem find_none (s : ByteArray) : ∀ (l : List (ByteArray × Value)) (k i : Nat), (∀ x ∈ l, s ≠ x.1) → Instr.findNow .string (.string s) (entsGo k l) i = some none
  | [], _, _, _ => rfl
  | x :: l, k, i, h => by
    have h1 : (s == x.1) = false := beq_ne (h x (by simp))
    simp only [entsGo, Instr.findNow, Instr.sameNow, h1]
    exact find_none s l (k + 1) (i + 1) fun y hy => h y (by simp [hy])
theorem run_key (w : World) (s : ByteArray) (e : Bool) : (Instr.checkKey e 10000 9 (.string s)).run Tryz.prog w = .ok () w :=
  MapKept.run_checkKey Tryz.underlying9 (by trivial) e 9999
theorem run_put {w : World} {m : Nat} {l : List (ByteArray × Value)} (h : Fns w m l) (s : ByteArray) (v : Value) (hn : ∀ x ∈ l, s ≠ x.1) :
    (Instr.mapUpdate 206 (.map (some m)) (.string s) v).run Tryz.prog w = .ok () { w with heap := w.heap.setIfInBounds m (.map (entsGo 0 (l ++ [(s, v)])).toArray (l ++ [(s, v)]).length) } := by
  have e1 := find_none s l 0 0 hn
  have e2 : (entsGo 0 (l ++ [(s, v)])).toArray = (entsGo 0 l).toArray.push ⟨.string s, v, l.length⟩ := by rw [entsGo_snoc]; simp
  rw [e2]
  simp [Instr.mapUpdate, run_underlying Tryz.underlying206, MapKept.run_getObj_map h, run_key, Instr.findKey, run_underlying Tryz.underlying9, e1, MapKept.run_setObj_map _ h, Result.andThen]
/-- An entry is laid in the map. -/
theorem wp_ins {w : World} {ops : Array Oper} {rest : List Oper} {o : Oper} {a : Act} {Q : Exit → Act → World → Prop} (hgd : o.guard = none) (mo ko xo : Operand)
    (ho : o.op = .insert 206 mo ko xo) {m : Nat} {l : List (ByteArray × Value)} (h : Fns w m l) (s : ByteArray) (v : Value) (hm : a.eval mo = .map (some m)) (hk : a.eval ko = .string s) (hx : a.eval xo = v) (hn : (l.all fun x => decide (s ≠ x.1)) = true)
    (hq : ∀ w', Fns w' m (l ++ [(s, v)]) → Exc m w w' → wpList Tryz.prog ops Q rest (a.put o.dst undef) w') : wpList Tryz.prog ops Q (o :: rest) a w := by
  refine wpList_plain hgd fun K hK => ?_
  have hr : (execOp a.eval o).run Tryz.prog w = .ok .skip { w with heap := w.heap.setIfInBounds m (.map (entsGo 0 (l ++ [(s, v)])).toArray (l ++ [(s, v)]).length) } := by
    unfold execOp
    rw [ho]
    simp only [hm, hk, hx]
    have e := run_put h s v (fun x hx => by simpa using List.all_eq_true.1 hn x hx)
    simp [e, Result.andThen]
  unfold Oper.wp
  rw [hr]
  refine hK _ _ (hq _ ?_ ⟨rfl, rfl, rfl, by simp, fun k hk hne => ?_⟩)
  · have := h.lt
    unfold Fns
    simp [this]
  · simp [hne.symm]
theorem run_get {w : World} {m : Nat} {l : List (ByteArray × Value)} (h : Fns w m l) (s : ByteArray) (i : Nat) (v : Value) (hf : Instr.findNow .string (.string s) (entsGo 0 l) 0 = some (some (i, v))) :
    (Instr.lookup 206 (.map (some m)) (.string s) true).run Tryz.prog w = .ok (.tuple #[v, .bool true]) w := by
  simp [Instr.lookup, run_underlying Tryz.underlying206, MapKept.run_getObj_map h, run_key, Instr.findKey, run_underlying Tryz.underlying9, hf, Result.andThen]
set_option maxRecDepth 100000 in
set_option maxHeartbeats 3200000 in
theorem statement_8 (b : Nat) (A : Option Addr) (c : Nat) (ts : List Tok) (t0 : ts[0]? = some (1, ⟨#[83, 69, 76, 69, 67, 84]⟩)) (t1 : ts[1]? = some (4, ⟨#[42]⟩)) (t2 : ts[2]? = some (1, ⟨#[70, 82, 79, 77]⟩)) (t3 : ts[3]? = some (1, ⟨#[116]⟩)) (h4 : ts[4]? = some (1, ⟨#[87, 72, 69, 82, 69]⟩)) (h0 : ts[5]? = some (1, ⟨#[107]⟩)) (h1 : ts[6]? = some (4, ⟨#[61]⟩)) (h2 : ts[7]? = some (2, ⟨#[49]⟩)) (hc : 8 ≤ c) (w : World) (h : Sp w b A 8 c 0 .empty .empty .empty (.slice none 0 0) ts) :
    Calls Tryz.prog 76 #[.pointer (some ⟨b, 0, none⟩)] w (WhPost b w A c ⟨#[115, 101, 108, 101, 99, 116]⟩ ⟨#[116]⟩ ts) := by
  have hb := h.box.lt
  have H := hide h
  have HI := hide t0
  have HC := hide (fun ww hh => choose_8 b A c ts t1 t2 t3 h4 h0 h1 h2 hc ww hh)
  have hX : Exc w.heap.size w (w.alloc (.map #[] 0)) := Exc.of ((Below.refl _ _).alloc (Nat.le_refl _) _)
  have hM : Fns (w.alloc (.map #[] 0)) w.heap.size [] := heap_alloc_new w _
  have hmm := @run_makeMap Tryz.prog
  clear h t0 t1 t2 t3 h4 h0 h1 h2
  go_enter Tryz.func76, Tryz.ntmps76
  go_upto_region 2 with (first
      | (with_reducible refine wp_ins rfl (.tmp 6) (.const (.string ⟨#[67, 82, 69, 65, 84, 69]⟩)) (.tmp 8) rfl hM _ _ rfl rfl rfl (by kernel_rfl) ?_; intro wN hM2 hX2; have hX := hX.trans hX2; have hM := hM2; clear hM2 hX2)
      | (with_reducible refine wp_ins rfl (.tmp 6) (.const (.string ⟨#[68, 82, 79, 80]⟩)) (.tmp 10) rfl hM _ _ rfl rfl rfl (by kernel_rfl) ?_; intro wN hM2 hX2; have hX := hX.trans hX2; have hM := hM2; clear hM2 hX2)
      | (with_reducible refine wp_ins rfl (.tmp 6) (.const (.string ⟨#[73, 78, 83, 69, 82, 84]⟩)) (.tmp 12) rfl hM _ _ rfl rfl rfl (by kernel_rfl) ?_; intro wN hM2 hX2; have hX := hX.trans hX2; have hM := hM2; clear hM2 hX2)
      | (with_reducible refine wp_ins rfl (.tmp 6) (.const (.string ⟨#[85, 80, 68, 65, 84, 69]⟩)) (.tmp 14) rfl hM _ _ rfl rfl rfl (by kernel_rfl) ?_; intro wN hM2 hX2; have hX := hX.trans hX2; have hM := hM2; clear hM2 hX2)
      | (with_reducible refine wp_ins rfl (.tmp 6) (.const (.string ⟨#[68, 69, 76, 69, 84, 69]⟩)) (.tmp 16) rfl hM _ _ rfl rfl rfl (by kernel_rfl) ?_; intro wN hM2 hX2; have hX := hX.trans hX2; have hM := hM2; clear hM2 hX2)
      | (with_reducible refine wp_ins rfl (.tmp 6) (.const (.string ⟨#[83, 69, 76, 69, 67, 84]⟩)) (.tmp 18) rfl hM _ _ rfl rfl rfl (by kernel_rfl) ?_; intro wN hM2 hX2; have hX := hX.trans hX2; have hM := hM2; clear hM2 hX2)
      | (with_reducible refine wp_ins rfl (.tmp 6) (.const (.string ⟨#[71, 82, 65, 78, 84]⟩)) (.tmp 20) rfl hM _ _ rfl rfl rfl (by kernel_rfl) ?_; intro wN hM2 hX2; have hX := hX.trans hX2; have hM := hM2; clear hM2 hX2)
      | (with_reducible refine wp_ins rfl (.tmp 6) (.const (.string ⟨#[82, 69, 86, 79, 75, 69]⟩)) (.tmp 22) rfl hM _ _ rfl rfl rfl (by kernel_rfl) ?_; intro wN hM2 hX2; have hX := hX.trans hX2; have hM := hM2; clear hM2 hX2)
      | (with_reducible refine wp_ins rfl (.tmp 6) (.const (.string ⟨#[77, 73, 71, 82, 65, 84, 69]⟩)) (.tmp 24) rfl hM _ _ rfl rfl rfl (by kernel_rfl) ?_; intro wN hM2 hX2; have hX := hX.trans hX2; have hM := hM2; clear hM2 hX2))
  have hb0 : Below w.heap.size w wN := hX.bel (Nat.le_refl _) (Nat.le_refl _)
  have hP := H.out.below hb0
  obtain ⟨ad, t, hA, ht, hc1, hc2⟩ := hP.sl.tok (k := 0) (by omega)
  subst hA
  obtain rfl := Option.some.inj (HI.out.symm.trans ht)
  have q0 : wN.cell? ad = some (.int .i64 1) := by simpa [Addr.add_zero'] using hc1
  have q1 : wN.cell? ⟨ad.block, ad.off + 1, none⟩ = some (.string ⟨#[83, 69, 76, 69, 67, 84]⟩) := by simpa [Addr.add_zero'] using hc2
  have k0 : wN.cell? ⟨b, 0, none⟩ = some (.slice (some ad) 8 c) := hP.box.cellAt rfl
  have k1 : wN.cell? ⟨b, 1, none⟩ = some (.int .i64 0) := hP.box.cellAt rfl
  have f1 := hP.box.frozen 1
  have hget := run_get hM ⟨#[83, 69, 76, 69, 67, 84]⟩ 5 (.func (Fn.func 114) #[.pointer (some ⟨b, 0, none⟩)] #[]) (by kernel_rfl)
  have HX1 := hide ((Exc.of (b := b) hb0).set 1 (.int .i64 1))
  have HP1 : Hid (Sp (wN.setCell ⟨b, 1, none⟩ (.int .i64 1)) b (some ad) 8 c 1 .empty .empty .empty (.slice none 0 0) ts) := hide (hP.set 1)
  clear hX hM hP ht hc1 hc2 hb0
  go_upto_region 6 with (fail)
  have HP2 := hide (HP1.out.below (Below.refl _ _).drew)
  have HX2 := hide HX1.out.drew
  have k0 : ((wN.setCell ⟨b, 1, none⟩ (.int .i64 1)).drew).cell? ⟨b, 0, none⟩ = some (.slice (some ad) 8 c) := HP2.out.box.cellAt rfl
  refine RegE.begin_ (n := 17) (S := fun ww => ww.cell? ⟨b, 0, none⟩ = some (.slice (some ad) 8 c)) (by kernel_rfl) (by kernel_rfl) (by kernel_rfl) ?_
  refine RegE.take (i := 0) (v := ?k1vv) rfl (by kernel_rfl) (by kernel_rfl) rfl (by kernel_rfl) (by kernel_rfl) (by kernel_rfl) (fun _ _ _ h => h) (Or.inl ⟨by first | rfl | simp [Region.wanted, yielded], ?k1vy⟩) k0 ?k1vr
  case k1vy => intro ww hSw; obtain hs1 := hSw; (go_simp <;> with_reducible rfl)
  try simp only [Act.put, List.getElem_toArray, List.getElem_cons_zero, List.setIfInBounds_toArray, List.set_cons_zero, List.set_cons_succ]
  refine RegE.take (i := 1) (v := ?k2vv) rfl (by kernel_rfl) (by kernel_rfl) rfl (by kernel_rfl) (by kernel_rfl) (by kernel_rfl) (fun _ _ _ h => h) (Or.inl ⟨by first | rfl | simp [Region.wanted, yielded], ?k2vy⟩) k0 ?k2vr
  case k2vy => intro ww hSw; obtain hs1 := hSw; (go_simp <;> with_reducible rfl)
  try simp only [Act.put, List.getElem_toArray, List.getElem_cons_zero, List.getElem_cons_succ, List.setIfInBounds_toArray, List.set_cons_zero, List.set_cons_succ]
  refine RegE.take (i := 2) (v := ?k3vv) rfl (by kernel_rfl) (by kernel_rfl) rfl (by kernel_rfl) (by kernel_rfl) (by kernel_rfl) (fun _ _ _ h => h) (Or.inl ⟨by first | rfl | simp [Region.wanted, yielded], ?k3vy⟩) k0 ?k3vr
  case k3vy => intro ww hSw; obtain hs1 := hSw; (go_simp <;> with_reducible rfl)
  try simp only [Act.put, List.getElem_toArray, List.getElem_cons_zero, List.getElem_cons_succ, List.setIfInBounds_toArray, List.set_cons_zero, List.set_cons_succ]
  refine RegE.step (i := 3) rfl (by kernel_rfl) rfl (fun K hK => ?_)
  go_simp
  refine (HC.out _ HP2.out).mono ?_
  rintro q wn ⟨g, rfl, hg, kG, hx2, hp2⟩
  have k9 : wn.cell? ⟨b, 0, none⟩ = some (.slice (some ad) 8 c) := hp2.box.cellAt rfl
  have k8 : wn.cell? ⟨b, 1, none⟩ = some (.int .i64 8) := hp2.box.cellAt rfl
  refine hK _ _ k9 ?_
  clear hK K
  try simp only [Act.put, List.getElem_toArray, List.getElem_cons_zero, List.getElem_cons_succ, List.setIfInBounds_toArray, List.set_cons_zero, List.set_cons_succ]
  refine RegE.take (i := 4) (v := ?k4vv) rfl (by kernel_rfl) (by kernel_rfl) rfl (by kernel_rfl) (by kernel_rfl) (by kernel_rfl) (fun _ _ _ h => h) (Or.inl ⟨by first | rfl | simp [Region.wanted, yielded], ?k4vy⟩) k9 ?k4vr
  case k4vy => intro ww hSw; obtain hs1 := hSw; (go_simp <;> with_reducible rfl)
  try simp only [Act.put, List.getElem_toArray, List.getElem_cons_zero, List.getElem_cons_succ, List.setIfInBounds_toArray, List.set_cons_zero, List.set_cons_succ]
  refine RegE.take (i := 5) (v := ?k5vv) rfl (by kernel_rfl) (by kernel_rfl) rfl (by kernel_rfl) (by kernel_rfl) (by kernel_rfl) (fun _ _ _ h => h) (Or.inl ⟨by first | rfl | simp [Region.wanted, yielded], ?k5vy⟩) k9 ?k5vr
  case k5vy => intro ww hSw; obtain hs1 := hSw; (go_simp <;> with_reducible rfl)
  try simp only [Act.put, List.getElem_toArray, List.getElem_cons_zero, List.getElem_cons_succ, List.setIfInBounds_toArray, List.set_cons_zero, List.set_cons_succ]
  refine RegE.take (i := 6) (v := ?k6vv) rfl (by kernel_rfl) (by kernel_rfl) rfl (by kernel_rfl) (by kernel_rfl) (by kernel_rfl) (fun _ _ _ h => h) (Or.inl ⟨by first | rfl | simp [Region.wanted, yielded], ?k6vy⟩) k9 ?k6vr
  case k6vy => intro ww hSw; obtain hs1 := hSw; (go_simp <;> with_reducible rfl)
  try simp only [Act.put, List.getElem_toArray, List.getElem_cons_zero, List.getElem_cons_succ, List.setIfInBounds_toArray, List.set_cons_zero, List.set_cons_succ]
  refine RegE.take (i := 7) (v := ?k7vv) rfl (by kernel_rfl) (by kernel_rfl) rfl (by kernel_rfl) (by kernel_rfl) (by kernel_rfl) (fun _ _ _ h => h) (Or.inl ⟨by first | rfl | simp [Region.wanted, yielded], ?k7vy⟩) k9 ?k7vr
  case k7vy => intro ww hSw; obtain hs1 := hSw; (go_simp <;> with_reducible rfl)
  try simp only [Act.put, List.getElem_toArray, List.getElem_cons_zero, List.getElem_cons_succ, List.setIfInBounds_toArray, List.set_cons_zero, List.set_cons_succ]
  refine RegE.take (i := 8) (v := ?k8vv) rfl (by kernel_rfl) (by kernel_rfl) rfl (by kernel_rfl) (by kernel_rfl) (by kernel_rfl) (fun _ _ _ h => h) (Or.inl ⟨by first | rfl | simp [Region.wanted, yielded], ?k8vy⟩) k9 ?k8vr
  case k8vy => intro ww hSw; obtain hs1 := hSw; (go_simp <;> with_reducible rfl)
  try simp only [Act.put, List.getElem_toArray, List.getElem_cons_zero, List.getElem_cons_succ, List.setIfInBounds_toArray, List.set_cons_zero, List.set_cons_succ]
  refine RegE.take (i := 10) (v := ?k9vv) rfl (by kernel_rfl) (by kernel_rfl) rfl (by kernel_rfl) (by kernel_rfl) (by kernel_rfl) (fun _ _ _ h => h) (Or.inl ⟨by first | rfl | simp [Region.wanted, yielded], ?k9vy⟩) k9 ?k9vr
  case k9vy => intro ww hSw; obtain hs1 := hSw; (go_simp <;> with_reducible rfl)
  try simp only [Act.put, List.getElem_toArray, List.getElem_cons_zero, List.getElem_cons_succ, List.setIfInBounds_toArray, List.set_cons_zero, List.set_cons_succ]
  refine RegE.take (i := 11) (v := ?k10vv) rfl (by kernel_rfl) (by kernel_rfl) rfl (by kernel_rfl) (by kernel_rfl) (by kernel_rfl) (fun _ _ _ h => h) (Or.inl ⟨by first | rfl | simp [Region.wanted, yielded], ?k10vy⟩) k9 ?k10vr
  case k10vy => intro ww hSw; obtain hs1 := hSw; (go_simp <;> with_reducible rfl)
  try simp only [Act.put, List.getElem_toArray, List.getElem_cons_zero, List.getElem_cons_succ, List.setIfInBounds_toArray, List.set_cons_zero, List.set_cons_succ]
  refine RegE.take (i := 12) (v := ?k11vv) rfl (by kernel_rfl) (by kernel_rfl) rfl (by kernel_rfl) (by kernel_rfl) (by kernel_rfl) (fun _ _ _ h => h) (Or.inl ⟨by first | rfl | simp [Region.wanted, yielded], ?k11vy⟩) k9 ?k11vr
  case k11vy => intro ww hSw; obtain hs1 := hSw; (go_simp <;> with_reducible rfl)
  try simp only [Act.put, List.getElem_toArray, List.getElem_cons_zero, List.getElem_cons_succ, List.setIfInBounds_toArray, List.set_cons_zero, List.set_cons_succ]
  refine RegE.take (i := 13) (v := ?k12vv) rfl (by kernel_rfl) (by kernel_rfl) rfl (by kernel_rfl) (by kernel_rfl) (by kernel_rfl) (fun _ _ _ h => h) (Or.inl ⟨by first | rfl | simp [Region.wanted, yielded], ?k12vy⟩) k9 ?k12vr
  case k12vy => intro ww hSw; obtain hs1 := hSw; (go_simp <;> with_reducible rfl)
  try simp only [Act.put, List.getElem_toArray, List.getElem_cons_zero, List.getElem_cons_succ, List.setIfInBounds_toArray, List.set_cons_zero, List.set_cons_succ]
  refine RegE.take (i := 14) (v := ?k13vv) rfl (by kernel_rfl) (by kernel_rfl) rfl (by kernel_rfl) (by kernel_rfl) (by kernel_rfl) (fun _ _ _ h => h) (Or.inl ⟨by first | rfl | simp [Region.wanted, yielded], ?k13vy⟩) k9 ?k13vr
  case k13vy => intro ww hSw; obtain hs1 := hSw; (go_simp <;> with_reducible rfl)
  try simp only [Act.put, List.getElem_toArray, List.getElem_cons_zero, List.getElem_cons_succ, List.setIfInBounds_toArray, List.set_cons_zero, List.set_cons_succ]
  refine RegE.step (i := 9) rfl (by kernel_rfl) rfl (fun K hK => ?_)
  go_simp
  refine hK _ _ k9 ?_
  clear hK K
  try simp only [Act.put, List.getElem_toArray, List.getElem_cons_zero, List.getElem_cons_succ, List.setIfInBounds_toArray, List.set_cons_zero, List.set_cons_succ]
  refine RegE.take (i := 15) (v := ?k14vv) rfl (by kernel_rfl) (by kernel_rfl) rfl (by kernel_rfl) (by kernel_rfl) (by kernel_rfl) (fun _ _ _ h => h) (Or.inl ⟨by first | rfl | simp [Region.wanted, yielded], ?k14vy⟩) k9 ?k14vr
  case k14vy => intro ww hSw; obtain hs1 := hSw; (go_simp <;> with_reducible rfl)
  try simp only [Act.put, List.getElem_toArray, List.getElem_cons_zero, List.getElem_cons_succ, List.setIfInBounds_toArray, List.set_cons_zero, List.set_cons_succ]
  refine RegE.take (i := 16) (v := ?k15vv) rfl (by kernel_rfl) (by kernel_rfl) rfl (by kernel_rfl) (by kernel_rfl) (by kernel_rfl) (fun _ _ _ h => h) (Or.inl ⟨by first | rfl | simp [Region.wanted, yielded], ?k15vy⟩) k9 ?k15vr
  case k15vy => intro ww hSw; obtain hs1 := hSw; (go_simp <;> with_reducible rfl)
  try simp only [Act.put, List.getElem_toArray, List.getElem_cons_zero, List.getElem_cons_succ, List.setIfInBounds_toArray, List.set_cons_zero, List.set_cons_succ]
  refine RegE.done rfl (by kernel_rfl) (fun K hK => ?_)
  go_simp
  refine hK _ _ ?_
  clear hK K
  have HXF := hide (HX2.out.trans hx2)
  have HPF := hide hp2
  have HGF := hide kG
  have hgw : w.heap.size ≤ g := Nat.le_trans HX2.out.size hg
  clear hx2 hp2 kG
  go_wp2_with fail
  go_ret
  exact ⟨g, rfl, hgw, HGF.out, HXF.out, HPF.out⟩
end Go.Proofs.YtojincohnjophaaGreatDoor
