/- The walk of the law TreeOrder, first loop: keys that differ. -/
import Derived.Test.YtkkddnmpehoeoaaTreeMet
import Derived.Test.YtkkddnmpehoeoaaTreePlaysW
import Derived.Test.YtkkddnmpehoeoaaTreeRot
namespace Go.Proofs.Ytkkddnmpehoeoaa
open Go.RowKit
open TreeP (Kt Cell kl flat flatL Inv cutT)
set_option linter.unusedVariables false
attribute [local go_sem ↓] Go.wp_at_zero Go.wp_at_succ
attribute [local go_sem] Go.RowKit.run_makeMap

/-- the keys that the first loop has gathered -/
def KeysIn (w0 : World) (b k : Nat) (vl : Value) (w : World) : Prop :=
  ∃ l : List ByteArray, l.length ≤ k ∧ l.Nodup ∧ w.ownsRow (b + 1) 9 1 vl l.length (strs l) ∧ Met w b k l ∧ Below b w0 w ∧ b + 1 ≤ w.heap.size

theorem own_ne {w : World} {b n : Nat} {e : TypeId} {size : Nat} {v : Value} {xs : List Value} (h : w.ownsRow (b + 1) e size v n xs) : some b ≠ v.ownBlock := by
  intro e
  have := (h.lt b e.symm).1
  omega

theorem keep31 {w w' : World} {a b c d : Addr} {x y z u : Value} (h : (w.cell? a = some x ∧ w.cell? b = some y ∧ w.cell? c = some z) ∧ w.cell? d = some u) (hb : Below w.heap.size w w') : (w'.cell? a = some x ∧ w'.cell? b = some y ∧ w'.cell? c = some z) ∧ w'.cell? d = some u := ⟨keep3 h.1 hb, cell_next h.2 hb⟩
theorem bs3 {a Y : World} {u1 u2 u3 : Value} (h : Below a.heap.size a Y) : Below a.heap.size a (((Y.setCell ⟨a.heap.size, 0, none⟩ u1).setCell ⟨a.heap.size, 1, none⟩ u2).setCell ⟨a.heap.size, 2, none⟩ u3) := below_set3 h (Nat.le_refl _)
theorem kn_fresh {w : World} {V : Nat → Prop} {v1 v2 v3 : Value} {t : Kt} (h : Kn w V 1000 v1 v2 v3 t) (o : Obj) : Kn (w.alloc o).drew (fun i => V i ∧ i < w.heap.size) 1000 v1 v2 v3 t :=
  Kn.drew (kn_keep (w' := w.alloc o) (V' := fun i => V i ∧ i < w.heap.size) (Nat.le_refl _) ((Below.refl w.heap.size w).alloc (Nat.le_refl _) o).size (fun i _ hl => ((Below.refl w.heap.size w).alloc (Nat.le_refl _) o).block i hl) (fun i hi hl => ⟨hi, hl⟩) h)
theorem kn_old {w : World} {V : Nat → Prop} {v1 v2 v3 : Value} {t : Kt} (h : Kn w V 1000 v1 v2 v3 t) : Kn w.drew (fun i => V i ∧ i < w.heap.size) 1000 v1 v2 v3 t :=
  Kn.drew (kn_keep (w' := w) (V' := fun i => V i ∧ i < w.heap.size) (Nat.le_refl _) (Nat.le_refl _) (fun i _ hl => rfl) (fun i hi hl => ⟨hi, hl⟩) h)
theorem box_fresh {w wa : World} {v1 v2 v3 : Value} (h : Below (w.alloc (.cells #[v1, v2, v3] 26)).drew.heap.size (w.alloc (.cells #[v1, v2, v3] 26)).drew wa) : BoxK wa w.heap.size v1 v2 v3 :=
  BoxK.below (w := (w.alloc (.cells #[v1, v2, v3] 26)).drew) (BoxK.new w v1 v2 v3) h
/-- what a put left: a new tree in a new box -/
def PutIn (wr : World) (V : Nat → Prop) (t : Kt) (x e : Value) (we : World) : Prop :=
  ∃ bX A1 n1 c1 A2 n2 c2 A3 n3 c3, x = .pointer (some ⟨bX, 0, none⟩) ∧ e = .int .i64 0 ∧ wr.heap.size ≤ bX ∧ BoxK we bX (.slice A1 n1 c1) (.slice A2 n2 c2) (.slice A3 n3 c3) ∧ Kn we (fun i => V i ∨ (wr.heap.size ≤ i ∧ i ≠ bX)) 1000 (.slice A1 n1 c1) (.slice A2 n2 c2) (.slice A3 n3 c3) t ∧ Below wr.heap.size wr we
theorem pin_new {wr wa : World} {V : Nat → Prop} {t : Kt} {A1 A2 A3 : Option Addr} {n1 n2 n3 c1 c2 c3 : Nat} (h : Kn wa (VV wr.drew (fun i => V i ∧ i < wr.heap.size)) 1000 (.slice A1 n1 c1) (.slice A2 n2 c2) (.slice A3 n3 c3) t) (hb : Below wr.heap.size wr wa) :
    PutIn wr V t (.pointer (some ⟨wa.heap.size, 0, none⟩)) (.int .i64 0) (wa.alloc (.cells #[.slice A1 n1 c1, .slice A2 n2 c2, .slice A3 n3 c3] 26)) :=
  ⟨_, _, _, _, _, _, _, _, _, _, rfl, rfl, hb.size, BoxK.new wa _ _ _,
    kn_keep (Nat.le_refl _) ((Below.refl wa.heap.size wa).alloc (Nat.le_refl _) _).size (fun i _ hl => ((Below.refl wa.heap.size wa).alloc (Nat.le_refl _) _).block i hl) (fun i hi hl => hi.elim (fun h => .inl h.1.1) (fun h => .inr ⟨h, by omega⟩)) h, hb.alloc hb.size _⟩
theorem pin_old {wr wa : World} {V : Nat → Prop} {t : Kt} {o : Obj} {A1 A2 A3 : Option Addr} {n1 n2 n3 c1 c2 c3 : Nat} {z1 z2 z3 : Value} (h : Kn wa (VV (wr.alloc o).drew (fun i => V i ∧ i < wr.heap.size)) 1000 (.slice A1 n1 c1) (.slice A2 n2 c2) (.slice A3 n3 c3) t) (hB : BoxK wa wr.heap.size z1 z2 z3) (hb : Below wr.heap.size wr wa) :
    PutIn wr V t (.pointer (some ⟨wr.heap.size, 0, none⟩)) (.int .i64 0) (((wa.setCell ⟨wr.heap.size, 0, none⟩ (.slice A1 n1 c1)).setCell ⟨wr.heap.size, 1, none⟩ (.slice A2 n2 c2)).setCell ⟨wr.heap.size, 2, none⟩ (.slice A3 n3 c3)) := by
  have hs : (wr.alloc o).heap.size = wr.heap.size + 1 := World.size_alloc wr o
  have h2 : Kn wa (fun i => (V i ∧ i < wr.heap.size) ∨ wr.heap.size + 1 ≤ i) 1000 (.slice A1 n1 c1) (.slice A2 n2 c2) (.slice A3 n3 c3) t :=
    kn_keep (Nat.le_refl _) (Nat.le_refl _) (fun _ _ _ => rfl) (fun i hi _ => hi.elim (fun h => .inl h.1) (fun h => .inr (by have h' : (wr.alloc o).heap.size ≤ i := h; omega))) h
  have h3 := kn_set3 (b := wr.heap.size) (u1 := .slice A1 n1 c1) (u2 := .slice A2 n2 c2) (u3 := .slice A3 n3 c3) h2 (fun i hi => by rcases hi with hi | hi <;> omega)
  exact ⟨_, _, _, _, _, _, _, _, _, _, rfl, rfl, Nat.le_refl _, hB.set, kn_keep (Nat.le_refl _) (Nat.le_refl _) (fun _ _ _ => rfl) (fun i hi _ => hi.elim (fun h => .inl h.1) (fun h => .inr ⟨by omega, by omega⟩)) h3, bs3 hb⟩
/-- two trees in two boxes, their cells known -/
def TwoIn (w0 : World) (p : Nat) (L M : List Cell) (w : World) : Prop :=
  ∃ T h U g t1 t2 t3 u1 u2 u3, Inv 0 2 h none none T ∧ flat T = L ∧ Inv 0 2 g none none U ∧ flat U = M ∧ Kn w (fun i => i ≠ p ∧ i ≠ p + 1) 1000 t1 t2 t3 T ∧ BoxK w p t1 t2 t3 ∧ Kn w (fun i => i ≠ p ∧ i ≠ p + 1) 1000 u1 u2 u3 U ∧ BoxK w (p + 1) u1 u2 u3 ∧ Below p w0 w
theorem two_start (w : World) : TwoIn w w.heap.size [] [] ((w.alloc (.cells #[.slice none 0 0, .slice none 0 0, .slice none 0 0] 26)).alloc (.cells #[.slice none 0 0, .slice none 0 0, .slice none 0 0] 26)) :=
  ⟨.mk [] [] [], 1, .mk [] [] [], 1, _, _, _, _, _, _, TreeP.inv_none, by simp [flat, flatL], TreeP.inv_none, by simp [flat, flatL], kn_none _, blk_under (blk_top rfl), kn_none _, blk_top (World.size_alloc w _).symm, ((Below.refl _ w).alloc (Nat.le_refl _) _).alloc (Nat.le_trans (Nat.le_succ _) (Nat.le_of_eq (World.size_alloc w _).symm)) _⟩

theorem two_step {wk w : World} {p : Nat} {X Y : Kt} {h g : Nat} {x1 x2 x3 y1 y2 y3 t1 t2 t3 u1 u2 u3 : Value} (HX : Inv 0 2 h none none X) (HY : Inv 0 2 g none none Y) (hkX : Kn w (fun i => i ≠ p ∧ i ≠ p + 1) 1000 x1 x2 x3 X) (hkY : Kn w (fun i => i ≠ p ∧ i ≠ p + 1) 1000 y1 y2 y3 Y) (hT : BoxK w p t1 t2 t3) (hU : BoxK w (p + 1) u1 u2 u3) (hb : Below p wk w) :
    TwoIn wk p (flat X) (flat Y) ((((((w.setCell ⟨p, 0, none⟩ x1).setCell ⟨p, 1, none⟩ x2).setCell ⟨p, 2, none⟩ x3).setCell ⟨p + 1, 0, none⟩ y1).setCell ⟨p + 1, 1, none⟩ y2).setCell ⟨p + 1, 2, none⟩ y3) :=
  ⟨X, h, Y, g, x1, x2, x3, y1, y2, y3, HX, rfl, HY, rfl, kn_set3 (kn_set3 hkX (fun i hi => hi.1)) (fun i hi => hi.2), hT.set.other (by omega), kn_set3 (kn_set3 hkY (fun i hi => hi.1)) (fun i hi => hi.2), (hU.other (by omega)).set, below_set3 (below_set3 hb (Nat.le_refl _)) (Nat.le_succ _)⟩
theorem TwoIn.drew {wk w : World} {p : Nat} {L M : List Cell} (h : TwoIn wk p L M w) : TwoIn wk p L M w.drew := by
  obtain ⟨T, h, U, g, t1, t2, t3, u1, u2, u3, HIT, hfT, HIU, hfU, hkT, hbT, hkU, hbU, hb⟩ := h
  exact ⟨T, h, U, g, t1, t2, t3, u1, u2, u3, HIT, hfT, HIU, hfU, hkT.drew, hbT, hkU.drew, hbU, below_drewN hb 1⟩

/-- a tree in a box, its cells known -/
def DelIn (w0 : World) (p : Nat) (L : List Cell) (w : World) : Prop :=
  ∃ T h t1 t2 t3, Inv 0 2 h none none T ∧ flat T = L ∧ Kn w (fun i => i ≠ p) 1000 t1 t2 t3 T ∧ BoxK w p t1 t2 t3 ∧ Below p w0 w
theorem rise_pair {l : List Cell} {k : Nat} {a b : Cell} (h : TreeP.Rise l) (ha : l[k]? = some a) (hb : l[k + 1]? = some b) : kl a.1 b.1 = true := by
  have h1 := TreeP.rise_drop k h
  have hk : k < l.length := (List.getElem?_eq_some_iff.1 ha).1
  rw [List.drop_eq_getElem_cons hk] at h1
  rw [List.getElem?_eq_getElem hk] at ha
  have e := Option.some.inj ha
  rw [e] at h1
  refine h1.1 b ?_
  rw [List.mem_iff_getElem?]
  exact ⟨0, by rw [List.getElem?_drop]; exact hb⟩

set_option maxRecDepth 100000 in
set_option maxHeartbeats 6400000 in
theorem treeOrder_walk (A : Option Addr) (n c : Nat) (keys : List ByteArray) (turn : Nat) (w : World) (hs : Sl w (fun _ => True) 1 A n (strs keys)) (hn : n ≤ 9223372036854775807) (ht : turn ≤ 255) :
    Calls Try.prog 4 #[.slice A n c, .int .u8 turn] w fun e w' => e = .returned (.bool true) ∧ Below w.heap.size w w' := by
  have hbA : Below w.heap.size w (w.alloc (.map #[] 0)) := (Below.refl _ w).alloc (Nat.le_refl _) _
  have hP : KeysIn w w.heap.size 0 (.slice none 0 0) (w.alloc (.map #[] 0)) := ⟨[], by simp, List.nodup_nil, World.ownsRow_nil _ _ _ _, met_made w, hbA, Nat.le_of_eq (World.size_alloc w _).symm⟩
  have HP := hide hP
  have HSA := hide hs
  clear hbA hP hs
  go_enter Try.func4, Try.ntmps4
  go_upto_block 0 with (fail)
  go_cut [6] (fun vl wc => KeysIn w w.heap.size 40 vl wc)
  case first =>
    go_wp2_with fail
    go_loopw [6, 7] (fun vl i wr => ∃ (k : Nat), k ≤ n ∧ k ≤ 40 ∧ i = .int .i64 k ∧ KeysIn w w.heap.size k vl wr) (fun _ i _ => n - (intOf i).toNat)
    case atStart => exact ⟨0, by omega, by omega, rfl, HP.out⟩
    case round =>
      clear HP
      obtain ⟨k, hk, hk40, rfl, l, hl, hnd, hown, hmet, hb, hszr⟩ := hrel
      by_cases hlt : k < n ∧ k < 40
      · obtain ⟨hlt, hlt40⟩ := hlt
        obtain ⟨ad, s0, eA, hs0, hc1⟩ := (HSA.out.below hb).str hlt
        subst eA
        have hge : (0 : Int) ≤ (k : Int) := by omega
        have hgl : (k : Int) < (n : Int) := by omega
        have hg40 : (k : Int) < 40 := by omega
        have HND := hide hnd
        have HMET := hide hmet
        have HB := hide hb
        clear hs0 hnd hmet hb
        go_wp2_with fail
        refine (text_any s0 _).mono ?_
        rintro e w2 ⟨rfl, rfl⟩
        have hcs := cut_size s0
        generalize cutT s0 = s at *
        have hlook := HMET.out.look s (by unfold maxLen; omega)
        cases hin : inL s l with
        | true =>
          rw [hin] at hlook
          clear hin hcs
          go_wp2_with fail
          have hR : KeysIn w w.heap.size (k + 1) _ wr := ⟨l, by omega, HND.out, hown, HMET.out.mono (by omega), HB.out, hszr⟩
          clear hlook hown
          go_roundw
          case rel => exact ⟨k + 1, by omega, by omega, by go_num, hR⟩
          case measure => simp [intOf]; omega
        | false =>
          rw [hin] at hlook
          have hni : s ∉ l := fun h => by rw [inL_iff.2 h] at hin; cases hin
          have hnd2 : (l ++ [s]).Nodup := by
            rw [List.nodup_append]
            refine ⟨HND.out, by simp, fun a ha b hb => ?_⟩
            simp only [List.mem_singleton] at hb
            subst hb
            intro e
            exact hni (e ▸ ha)
          obtain ⟨D, hD1, hD2, hD3⟩ := HMET.out
          have HD3 := hide hD3
          have HN2 := hide hnd2
          have hkey := WideMaps.keyOf_string_mk Try.underlying9 (s := s) (by unfold maxLen; omega)
          have HKEY := hide hkey
          have hkm : k < maxLen := by unfold maxLen; omega
          clear hin hni hnd2 hD3 hkey
          go_wp2_with (at_mapUpdate; refine wpList_mapUpdate_own _ rfl _ _ _ 47 rfl 9 4 (Maps.string_keyed Try.underlying9) Try.underlying47 (plainElem Try.prog 4) w.heap.size k D rfl hD1 hkm _ _ (keyL s) rfl rfl HKEY.out (.lit (.bool true)) [] (plainElem_bool Try.underlying4 true) ?_; intro w1 hown1 hgrow1
                       have hown2 := hown.kept hgrow1 (.inr (own_ne hown).symm)
                       have hsz1 := hgrow1.size
                       go_wp2_with (at_builtin; refine wp_app_str rfl _ _ rfl (w.heap.size + 1) _ _ _ hown2 rfl s rfl (by omega) (by omega) ?_; intro v2 w3 hA))
          have hR : KeysIn w w.heap.size (k + 1) v2 w3 := by
            refine ⟨l ++ [s], ?_, HN2.out, ?_, ?_, ?_, ?_⟩
            · simp only [List.length_append, List.length_singleton]; omega
            · rw [List.length_append, List.length_singleton]; exact hA.own
            · exact (Met.put hD2 HD3.out hown1).kept hA.grown (own_ne hown2)
            · exact hA.below hown2 (HB.out.grown hgrow1 HB.out.size fun k hk => by injection hk with hk; omega) (by omega) (by omega)
            · exact Nat.le_trans (by omega) hA.grown.size
          clear hA hown2 hown1 hown hgrow1 hD1 hlook
          go_roundw
          case rel => exact ⟨k + 1, by omega, by omega, by go_num, hR⟩
          case measure => simp [intOf]; omega
      · have hR : KeysIn w w.heap.size 40 _ wr := ⟨l, by omega, hnd, hown, hmet.mono hk40, hb, hszr⟩
        clear hnd hown hmet hb
        have hge : (0 : Int) ≤ (k : Int) := by omega
        by_cases hkn : k < n
        · have hgl : (k : Int) < (n : Int) := by omega
          have hg40 : ¬ (k : Int) < 40 := by omega
          go_wp2_with fail
          all_goals go_meet
          all_goals exact hR
        · have hgl : ¬ (k : Int) < (n : Int) := by omega
          go_wp2_with fail
          all_goals go_meet
          all_goals exact hR
  case rest =>
    clear HP
    rename World => wk
    obtain ⟨l, hl, hnd, hown, _, hb, _⟩ := hcut
    obtain ⟨A2, c2, rfl, hs1⟩ := SlV.own (V := fun _ => True) hown (fun _ _ => trivial)
    have HS1 := hide hs1
    have HB0 := hide hb
    have HND := hide hnd
    clear hs1 hown hb hnd HSA
    go_upto_block 2 with (fail)
    go_cut [] (fun we => TwoIn wk wk.heap.size (TreeP.layL l) (TreeP.layL l) we)
    case first =>
      go_wp2_with fail
      go_loopw [11] (fun i wr => ∃ (k : Nat), k ≤ l.length ∧ i = .int .i64 k ∧ TwoIn wk wk.heap.size (TreeP.layL (l.take k)) (TreeP.layL ((TreeP.turnL l turn).take k)) wr) (fun i _ => l.length - (intOf i).toNat)
      case atStart => exact ⟨0, by omega, rfl, two_start wk⟩
      case round =>
        obtain ⟨k, hk, rfl, T, h, U, g, t1, t2, t3, u1, u2, u3, HIT, hfT, HIU, hfU, hkT, hbT, hkU, hbU, hb⟩ := hrel
        by_cases hlt : k < l.length
        · have hj : (k + turn) % l.length < l.length := Nat.mod_lt _ (by omega)
          obtain ⟨ad, s, eA, hs, hc1⟩ := (HS1.out.2.below hb).str hlt
          obtain ⟨ad2, s2, eA2, hs2, hc2⟩ := (HS1.out.2.below hb).str hj
          subst eA
          cases eA2
          obtain ⟨B1, m1, d1, B2, m2, d2, B3, m3, d3, rfl, rfl, rfl⟩ := kn_shape hkT
          obtain ⟨D1, o1, r1, D2, o2, r2, D3, o3, r3, rfl, rfl, rfl⟩ := kn_shape hkU
          have hlT : (flat T).length ≤ 40 := by rw [hfT, TreeP.layL_len HND.out]; omega
          have hlU : (flat U).length ≤ 40 := by rw [hfU, TreeP.layL_len (TreeP.turnL_nodup HND.out turn)]; rw [TreeP.turnL_length]; omega
          obtain ⟨j, ej⟩ : ∃ j, j = (k + turn) % l.length := ⟨_, rfl⟩
          have hw1 : IntKind.i64.wrap ((k : Int) + (turn : Int)) = (k : Int) + (turn : Int) := IntWalk.i64_in _ (by omega)
          have hw2 : ((k : Int) + (turn : Int)).tmod (l.length : Int) = (j : Int) := by rw [ej]; exact IntWalk.up_tmod (x := k + turn) (by omega) rfl
          have hz1 : ¬ l = [] := fun h => by subst h; simp at hlt
          have hz2 : ¬ l.length = 0 := by omega
          have hz3 : ¬ (l.length : Int) = 0 := by omega
          rw [← ej] at hj hs2 hc2
          have EJ := hide ej
          have HW1 := hide hw1
          have HW2 := hide hw2
          have hw3 : IntKind.i64.wrap (turn : Int) = (turn : Int) := IntWalk.i64_in _ (by omega)
          have HW3 := hide hw3
          have HZ1 := hide hz1
          have HZ2 := hide hz2
          have HZ3 := hide hz3
          clear ej hw1 hw2 hw3 hz1 hz2 hz3
          have hcT := chk_small HIT (by omega)
          have hcU := chk_small HIU (by omega)
          have hge : (0 : Int) ≤ (k : Int) := by omega
          have hgl : (k : Int) < (l.length : Int) := by omega
          have HIT2 := hide HIT
          have HIU2 := hide HIU
          have HFT := hide hfT
          have HFU := hide hfU
          have HKT := hide hkT
          have HKU := hide hkU
          have HBT := hide hbT
          have HBU := hide hbU
          have HBW := hide hb
          have HC2 := hide hc2
          have HCT := hide hcT
          have HCU := hide hcU
          clear HIT HIU hfT hfU hkT hkU hb hc2 hcT hcU
          obtain ⟨q1, q2, q3⟩ := hbT.cell
          clear hbT hbU
          go_wp2_with fail
          go_cut [12, 13] from 50 to 101 (fun x e we => PutIn wr (fun i => i ≠ wk.heap.size ∧ i ≠ wk.heap.size + 1) (putR (s, s) T) x e we)
          case first =>
            go_region_held3 (fun w' => (w'.cell? ⟨wk.heap.size, 0, none⟩ = some (.slice B1 m1 d1) ∧ w'.cell? ⟨wk.heap.size, 1, none⟩ = some (.slice B2 m2 d2) ∧ w'.cell? ⟨wk.heap.size, 2, none⟩ = some (.slice B3 m3 d3)) ∧ w'.cell? (ad.add k) = some (.string s))
              ((refine keep31 ⟨⟨q1, q2, q3⟩, hc1⟩ ?_; (repeat' (first | exact hcA | exact Below.refl _ _ | refine bdr ?_ | refine bs3 ?_ | refine bal ?_ _))))
              (first
                | (go_at_call 12; refine (putw_any (s, s) T _ _ _ _ (fun i => (i ≠ wk.heap.size ∧ i ≠ wk.heap.size + 1) ∧ i < wr.heap.size) ?_).mono ?_; exact kn_fresh HKT.out _; rw [HCT.out]; rintro e wa ⟨⟨x1, x2, x3, rfl, hkX⟩, hba⟩; obtain ⟨X1, oX1, rX1, X2, oX2, rX2, X3, oX3, rX3, rfl, rfl, rfl⟩ := kn_shape hkX; have hcA := btr (bdr (bal (Below.refl wr.heap.size wr) (.cells #[.slice none 0 0, .slice none 0 0, .slice none 0 0] 26))) hba; have hgA := box_fresh hba; obtain ⟨z1, z2, z3⟩ := hgA.cell; have f1 := hgA.frozen 0; have f2 := hgA.frozen 1; have f3 := hgA.frozen 2; clear hba)
                | (go_at_call 12; refine (putw_any (s, s) T _ _ _ _ (fun i => (i ≠ wk.heap.size ∧ i ≠ wk.heap.size + 1) ∧ i < wr.heap.size) ?_).mono ?_; exact kn_old HKT.out; rw [HCT.out]; rintro e wa ⟨⟨x1, x2, x3, rfl, hkX⟩, hba⟩; obtain ⟨X1, oX1, rX1, X2, oX2, rX2, X3, oX3, rX3, rfl, rfl, rfl⟩ := kn_shape hkX; have hcA := btr (bdr (Below.refl wr.heap.size wr)) hba; clear hba))
            all_goals go_wp2_with fail
            all_goals go_meet
            · exact pin_new hkX hcA
            · exact pin_old hkX hgA hcA
          case rest =>
            obtain ⟨bX, X1, oX1, rX1, X2, oX2, rX2, X3, oX3, rX3, rfl, rfl, hbX, hBX, hkX, hb1⟩ := hcut
            rename World => wx
            clear q1 q2 q3 hc1 hgl hge
            have hszr := HBW.out.size
            have HBT2 := hide (HBT.out.below hb1)
            have HBU2 := hide (HBU.out.below hb1)
            have HKU2 := hide (HKU.out.below hb1)
            have hc2 := cell_next HC2.out hb1
            have HBW2 := hide (HBW.out.trans (hb1.mono hszr))
            have hzU := (Array.getElem?_eq_some_iff.1 HBU.out).1
            have HBX := hide hBX
            have HKX := hide hkX
            clear hBX hkX HBT HBU HKU HKT HC2 HBW
            obtain ⟨q1, q2, q3⟩ := HBU2.out.cell
            have hge : (0 : Int) ≤ (k : Int) := by omega
            have hgl : (k : Int) < (l.length : Int) := by omega
            have hjl : (j : Int) < (l.length : Int) := by omega
            have hj0 : (0 : Int) ≤ (j : Int) := by omega
            have hw1 := HW1.out
            have hw2 := HW2.out
            have hw3 := HW3.out
            have hz1 := HZ1.out
            have hz2 := HZ2.out
            have hz3 := HZ3.out
            go_wp2_with fail
            go_cut [14, 15] from 50 to 101 (fun x e we => PutIn wx (fun i => i ≠ wk.heap.size ∧ i ≠ wk.heap.size + 1) (putR (s2, s2) U) x e we)
            case first =>
              go_region_held3 (fun w' => (w'.cell? ⟨wk.heap.size + 1, 0, none⟩ = some (.slice D1 o1 r1) ∧ w'.cell? ⟨wk.heap.size + 1, 1, none⟩ = some (.slice D2 o2 r2) ∧ w'.cell? ⟨wk.heap.size + 1, 2, none⟩ = some (.slice D3 o3 r3)) ∧ w'.cell? (ad.add j) = some (.string s2))
                ((refine keep31 ⟨⟨q1, q2, q3⟩, hc2⟩ ?_; (repeat' (first | exact hcA | exact Below.refl _ _ | refine bdr ?_ | refine bs3 ?_ | refine bal ?_ _))))
                (first
                  | (go_at_call 12; refine (putw_any (s2, s2) U _ _ _ _ (fun i => (i ≠ wk.heap.size ∧ i ≠ wk.heap.size + 1) ∧ i < wx.heap.size) ?_).mono ?_; exact kn_fresh HKU2.out _; rw [HCU.out]; rintro e wa ⟨⟨x1, x2, x3, rfl, hkY⟩, hba⟩; obtain ⟨Y1, oY1, rY1, Y2, oY2, rY2, Y3, oY3, rY3, rfl, rfl, rfl⟩ := kn_shape hkY; have hcA := btr (bdr (bal (Below.refl wx.heap.size wx) (.cells #[.slice none 0 0, .slice none 0 0, .slice none 0 0] 26))) hba; have hgA := box_fresh hba; obtain ⟨z1, z2, z3⟩ := hgA.cell; have f1 := hgA.frozen 0; have f2 := hgA.frozen 1; have f3 := hgA.frozen 2; clear hba)
                  | (go_at_call 12; refine (putw_any (s2, s2) U _ _ _ _ (fun i => (i ≠ wk.heap.size ∧ i ≠ wk.heap.size + 1) ∧ i < wx.heap.size) ?_).mono ?_; exact kn_old HKU2.out; rw [HCU.out]; rintro e wa ⟨⟨x1, x2, x3, rfl, hkY⟩, hba⟩; obtain ⟨Y1, oY1, rY1, Y2, oY2, rY2, Y3, oY3, rY3, rfl, rfl, rfl⟩ := kn_shape hkY; have hcA := btr (bdr (Below.refl wx.heap.size wx)) hba; clear hba))
              all_goals go_wp2_with fail
              all_goals go_meet
              · exact pin_new hkY hcA
              · exact pin_old hkY hgA hcA
            case rest =>
              rename World => wy
              obtain ⟨bY, Y1, oY1, rY1, Y2, oY2, rY2, Y3, oY3, rY3, rfl, rfl, hbY, hBY, hkY, hb2⟩ := hcut
              clear q1 q2 q3 hc2 hgl hge hjl hj0 hw1 hw2 hw3 hz1 hz2 hz3
              have hszx := hb1.size
              have hBX2 := HBX.out.below hb2
              have hBT3 := HBT2.out.below hb2
              have hBU3 := HBU2.out.below hb2
              have hb3 := HBW2.out.trans (hb2.mono (Nat.le_trans hszr hszx))
              have hkX2 : Kn wy (fun i => i ≠ wk.heap.size ∧ i ≠ wk.heap.size + 1) 1000 (.slice X1 oX1 rX1) (.slice X2 oX2 rX2) (.slice X3 oX3 rX3) (putR (s, s) T) :=
                kn_keep (Nat.le_refl _) hb2.size (fun i _ hl => hb2.block i hl) (fun i hi _ => by rcases hi with hi | hi; exact hi; exact ⟨by omega, by omega⟩) HKX.out
              have hkY2 : Kn wy (fun i => i ≠ wk.heap.size ∧ i ≠ wk.heap.size + 1) 1000 (.slice Y1 oY1 rY1) (.slice Y2 oY2 rY2) (.slice Y3 oY3 rY3) (putR (s2, s2) U) :=
                kn_keep (Nat.le_refl _) (Nat.le_refl _) (fun i _ hl => rfl) (fun i hi _ => by rcases hi with hi | hi; exact hi; exact ⟨by omega, by omega⟩) hkY
              obtain ⟨hX, _, HIX, hfX⟩ := putR_ok (s, s) HIT2.out (by omega)
              obtain ⟨hY, _, HIY, hfY⟩ := putR_ok (s2, s2) HIU2.out (by omega)
              have eX : TreeP.layL (l.take (k + 1)) = flat (putR (s, s) T) := by
                rw [hfX, HFT.out, ← TreeP.layL_add]; congr 1
                have e1 : l.take (k + 1) = l.take k ++ [l[k]] := (List.take_append_getElem hlt).symm
                rw [e1]; congr 2; rw [List.getElem?_eq_getElem hlt] at hs; exact Option.some.inj hs
              have hlt2 : k < (TreeP.turnL l turn).length := by rw [TreeP.turnL_length]; exact hlt
              have eY : TreeP.layL ((TreeP.turnL l turn).take (k + 1)) = flat (putR (s2, s2) U) := by
                rw [hfY, HFU.out, ← TreeP.layL_add]; congr 1
                have e1 : (TreeP.turnL l turn).take (k + 1) = (TreeP.turnL l turn).take k ++ [(TreeP.turnL l turn)[k]] := (List.take_append_getElem hlt2).symm
                rw [e1]; congr 2
                have h2 := TreeP.turnL_at (t := turn) hlt
                rw [← EJ.out, hs2, List.getElem?_eq_getElem hlt2] at h2; exact Option.some.inj h2
              have hR : TwoIn wk wk.heap.size (TreeP.layL (l.take (k + 1))) (TreeP.layL ((TreeP.turnL l turn).take (k + 1))) ((((((wy.setCell ⟨wk.heap.size, 0, none⟩ (.slice X1 oX1 rX1)).setCell ⟨wk.heap.size, 1, none⟩ (.slice X2 oX2 rX2)).setCell ⟨wk.heap.size, 2, none⟩ (.slice X3 oX3 rX3)).setCell ⟨wk.heap.size + 1, 0, none⟩ (.slice Y1 oY1 rY1)).setCell ⟨wk.heap.size + 1, 1, none⟩ (.slice Y2 oY2 rY2)).setCell ⟨wk.heap.size + 1, 2, none⟩ (.slice Y3 oY3 rY3)).drew := by
                rw [eX, eY]; exact TwoIn.drew (two_step HIX HIY hkX2 hkY2 hBT3 hBU3 hb3)
              have HR := hide hR
              obtain ⟨a1, a2, a3⟩ := hBX2.cell
              obtain ⟨b1, b2, b3⟩ := hBY.cell
              have f1 := hBT3.frozen 0
              have f2 := hBT3.frozen 1
              have f3 := hBT3.frozen 2
              have g1 := hBU3.frozen 0
              have g2 := hBU3.frozen 1
              have g3 := hBU3.frozen 2
              obtain ⟨c1, c2', c3⟩ := hBT3.cell
              obtain ⟨d1', d2', d3'⟩ := hBU3.cell
              clear hBX2 hBT3 hBU3 hb3 hkX2 hkY2 HIX hfX HIY hfY eX eY hR hkY hBY hb2 hb1 hlt2 HBX HKX HBT2 HBU2 HKU2 HBW2 HFT HFU HCT HCU HIT2 HIU2 EJ HW1 HW2 HW3 HZ1 HZ2 HZ3
              go_wp2_with fail
              go_region
              go_wp2_with fail
              go_roundw
              case rel => exact ⟨k + 1, by omega, by go_num, HR.out⟩
              case measure => simp [intOf]; omega
        · obtain rfl : k = l.length := by omega
          rw [List.take_of_length_le (Nat.le_refl _)] at hfT
          rw [List.take_of_length_le (by rw [TreeP.turnL_length]; exact Nat.le_refl _), TreeP.layL_turn] at hfU
          have hR : TwoIn wk wk.heap.size (TreeP.layL l) (TreeP.layL l) wr := ⟨T, h, U, g, t1, t2, t3, u1, u2, u3, HIT, hfT, HIU, hfU, hkT, hbT, hkU, hbU, hb⟩
          clear HIT hfT HIU hfU hkT hbT hkU hbU hb
          go_wp2_with fail
          all_goals go_meet
          all_goals exact hR
    case rest =>
      obtain ⟨T, h, U, g, t1, t2, t3, u1, u2, u3, HIT, hfT, HIU, hfU, hkT, hbT, hkU, hbU, hb⟩ := hcut
      obtain ⟨B1, m1, d1, B2, m2, d2, B3, m3, d3, rfl, rfl, rfl⟩ := kn_shape hkT
      obtain ⟨D1, o1, r1, D2, o2, r2, D3, o3, r3, rfl, rfl, rfl⟩ := kn_shape hkU
      have HIT2 := hide HIT
      have HIU2 := hide HIU
      have HFT := hide hfT
      have HFU := hide hfU
      have HKT := hide hkT
      have HKU := hide hkU
      have HBT := hide hbT
      have HBU := hide hbU
      have HBW := hide hb
      obtain ⟨q1, q2, q3⟩ := hbT.cell
      clear HIT HIU hfT hfU hkT hkU hbT hbU hb
      have hlT : (flat T).length ≤ 40 := by rw [HFT.out, TreeP.turnL_same HND.out 0]; exact hl
      have hlU : (flat U).length ≤ 40 := by rw [HFU.out, TreeP.turnL_same HND.out 0]; exact hl
      have hcT := chk_small HIT2.out (by omega)
      have hat : allP T = TreeP.layL l := (if_pos hcT).trans HFT.out
      have hau : allP U = TreeP.layL l := (if_pos (chk_small HIU2.out (by omega))).trans HFU.out
      have HAT := hide hat
      have HAU := hide hau
      obtain ⟨s1, s2, s3⟩ := HBU.out.cell
      clear hcT hat hau
      go_wp2_with fail
      go_region_held3 (fun w' => (w'.cell? ⟨wk.heap.size, 0, none⟩ = some (.slice B1 m1 d1) ∧ w'.cell? ⟨wk.heap.size, 1, none⟩ = some (.slice B2 m2 d2) ∧ w'.cell? ⟨wk.heap.size, 2, none⟩ = some (.slice B3 m3 d3)) ∧ w'.cell? ⟨wk.heap.size + 1, 0, none⟩ = some (.slice D1 o1 r1) ∧ w'.cell? ⟨wk.heap.size + 1, 1, none⟩ = some (.slice D2 o2 r2) ∧ w'.cell? ⟨wk.heap.size + 1, 2, none⟩ = some (.slice D3 o3 r3))
        ((refine keepB6 ⟨⟨q1, q2, q3⟩, s1, s2, s3⟩ ?_; (repeat' (first | exact hc2 | exact hc1 | exact Below.refl _ _ | refine bdr ?_ | refine bal ?_ _))))
        (first
          | (go_at_call 17; refine (all_any T _ _ _ _ ?_ (by omega)).mono ?_; exact HKT.out.any.drew; rw [HAT.out]; rintro e wa ⟨va, rfl, hoa, hba⟩; obtain ⟨AA, cA, rfl, hsa⟩ := hoa.sl; clear hoa; have hc1 := btr (bdr (Below.refl wc.heap.size wc)) hba; clear hba)
          | (go_at_call 17; refine (all_any U _ _ _ _ ?_ (by omega)).mono ?_; exact HKU.out.any.below hc1; rw [HAU.out]; rintro e wb ⟨vb, rfl, hob, hbb⟩; obtain ⟨AB, cB, rfl, hsb⟩ := hob.sl; clear hob; have hsa2 := hsa.below hbb; have hc2 := btr hc1 hbb; clear hbb hsa))
      have HKT2 := hide (HKT.out.below hc2)
      have HBT2 := hide (HBT.out.below hc2)
      have HBW2 := hide (HBW.out.trans (hc2.mono HBW.out.size))
      have HSA := hide hsa2
      have HSB := hide hsb
      clear hc1 hc2 hsa2 hsb q1 q2 q3 s1 s2 s3 HKT HKU HBT HBU HBW HAT HAU HIU2 HFU
      obtain ⟨L, eL⟩ : ∃ L, L = TreeP.layL l := ⟨_, rfl⟩
      have hLl : L.length = l.length := by rw [eL]; exact TreeP.turnL_same HND.out 0
      rw [← eL] at HSA HSB HFT
      rw [← eL]
      have EL := hide eL
      clear eL
      rw [hLl] at HSA HSB ⊢
      have HLL := hide hLl
      clear hLl
      go_wp2_with fail
      refine (rsame_any AA AB _ _ cA cB _ _ _ _ _ HSA.out HSB.out (by omega)).mono ?_
      rw [same_self]
      rintro e ws ⟨rfl, qs, rfl⟩
      have hbq := below_drewN (Below.refl wb.heap.size wb) qs
      have HKT3 := hide (HKT2.out.below hbq)
      have HBT3 := hide (HBT2.out.below hbq)
      have HBW3 := hide (HBW2.out.trans (hbq.mono HBW2.out.size))
      have HSA3 := hide (HSA.out.below hbq)
      clear hbq HKT2 HBT2 HBW2 HSA HSB
      generalize wb.drewN qs = ws at *
      have hrise : TreeP.Rise L := by rw [EL.out]; exact TreeP.layL_rise l
      have HRS := hide hrise
      clear hrise
      go_upto_block 4 with (fail)
      go_cut [] (fun we => ∃ q, we = ws.drewN q)
      case first =>
        go_wp2_with fail
        go_loopw [18] (fun i wr => ∃ (k : Nat), 1 ≤ k ∧ k ≤ l.length + 1 ∧ i = .int .i64 k ∧ ∃ q, wr = ws.drewN q) (fun i _ => l.length - (intOf i).toNat)
        case atStart => exact ⟨1, Nat.le_refl _, by omega, rfl, 0, rfl⟩
        case round =>
          obtain ⟨k, hk1, hkn, rfl, q, rfl⟩ := hrel
          by_cases hlt : k < l.length
          · obtain ⟨ad, x, e, hx, hx1, hx2⟩ := HSA3.out.cell (show k - 1 < l.length by omega)
            obtain ⟨ad', y, e', hy, hy1, hy2⟩ := HSA3.out.cell hlt
            rw [e] at e'
            injection e' with e'
            subst e
            subst e'
            have e1 : k - 1 + 1 = k := by omega
            have zc : Op.bytesLess x.1.toList y.1.toList = true := rise_pair HRS.out hx (by rw [e1]; exact hy)
            have zw : IntKind.i64.wrap ((k : Int) - 1) = ((k - 1 : Nat) : Int) := by rw [IntWalk.i64_in _ (by omega)]; omega
            have zg : (0 : Int) ≤ ((k - 1 : Nat) : Int) := by omega
            have zl : ((k - 1 : Nat) : Int) < (l.length : Int) := by omega
            have hgk : (0 : Int) ≤ (k : Int) := by omega
            have hgl : (k : Int) < (l.length : Int) := by omega
            clear hx hy e1
            go_wp2_with fail
            go_quiet (fail)
            go_wp2_with fail
            go_roundw
            case rel => exact ⟨k + 1, by omega, by omega, by go_num, _, rfl⟩
            case measure => simp [intOf]; omega
          · have hgl : ¬ (k : Int) < (l.length : Int) := by omega
            go_wp2_with fail
            all_goals go_meet
            all_goals exact ⟨q, rfl⟩
      case rest =>
        obtain ⟨q, rfl⟩ := hcut
        have hbq := below_drewN (Below.refl ws.heap.size ws) q
        have HKT4 := hide (HKT3.out.below hbq)
        have HBT4 := hide (HBT3.out.below hbq)
        have HBW4 := hide (HBW3.out.trans (hbq.mono HBW3.out.size))
        clear hbq HKT3 HBT3 HBW3 HSA3
        generalize ws.drewN q = w4 at *
        have hR0 : DelIn wk wk.heap.size (TreeP.cutL (TreeP.layL l) ((TreeP.turnL l turn).take 0)) w4 :=
          ⟨T, h, _, _, _, HIT2.out, by rw [HFT.out, EL.out]; rfl, kn_keep (Nat.le_refl _) (Nat.le_refl _) (fun _ _ _ => rfl) (fun i hi _ => hi.1) HKT4.out, HBT4.out, HBW4.out⟩
        have HR0 := hide hR0
        clear hR0 HKT4 HBT4 HBW4 HIT2 HFT HRS EL HLL hlT hlU
        go_upto_block 6 with (fail)
        go_cut [] (fun we => Below wk.heap.size wk we)
        case first =>
          go_wp2_with fail
          go_loopw [19] (fun i wr => ∃ (k : Nat), k ≤ l.length ∧ i = .int .i64 k ∧ DelIn wk wk.heap.size (TreeP.cutL (TreeP.layL l) ((TreeP.turnL l turn).take k)) wr) (fun i _ => l.length - (intOf i).toNat)
          case atStart => exact ⟨0, by omega, rfl, HR0.out⟩
          case round =>
            clear HR0
            obtain ⟨k, hk, rfl, T, h, t1, t2, t3, HIT, hfT, hkT, hbT, hb⟩ := hrel
            by_cases hlt : k < l.length
            · obtain ⟨j, ej⟩ : ∃ j, j = (k + turn) % l.length := ⟨_, rfl⟩
              have hj : j < l.length := by rw [ej]; exact Nat.mod_lt _ (by omega)
              obtain ⟨ad, s, eA, hs, hc1⟩ := (HS1.out.2.below hb).str hj
              subst eA
              obtain ⟨B1, m1, d1, B2, m2, d2, B3, m3, d3, rfl, rfl, rfl⟩ := kn_shape hkT
              have hlT : (flat T).length = l.length - k := by rw [hfT, TreeP.cutL_len HND.out turn hk]
              have hat : (TreeP.turnL l turn)[k]? = some s := by rw [TreeP.turnL_at hlt, ← ej]; exact hs
              have hgt : TreeP.get (flat T) s = some s := by rw [hfT]; exact TreeP.cutL_next HND.out hlt hat
              obtain ⟨hE, hX, _, HIX, hfX⟩ := delR_ok (key := s) HIT (by omega) (by rw [hgt]; rfl)
              have hlt2 : k < (TreeP.turnL l turn).length := by rw [TreeP.turnL_length]; exact hlt
              have eX : flat (delR s T) = TreeP.cutL (TreeP.layL l) ((TreeP.turnL l turn).take (k + 1)) := by
                have e1 : (TreeP.turnL l turn).take (k + 1) = (TreeP.turnL l turn).take k ++ [(TreeP.turnL l turn)[k]] := (List.take_append_getElem hlt2).symm
                rw [List.getElem?_eq_getElem hlt2] at hat
                rw [hfX, hfT, e1, TreeP.cutL_add, Option.some.inj hat]
              obtain ⟨m, em⟩ : ∃ m, m = (flat (delR s T)).length := ⟨_, rfl⟩
              have hm : m = l.length - (k + 1) := by rw [em, eX, TreeP.cutL_len HND.out turn (by omega)]
              have hcX := chk_small HIX (by omega)
              have haX : allP (delR s T) = flat (delR s T) := if_pos hcX
              have hge : (0 : Int) ≤ (k : Int) := by omega
              have hgl : (k : Int) < (l.length : Int) := by omega
              have hjl : (j : Int) < (l.length : Int) := by omega
              have hj0 : (0 : Int) ≤ (j : Int) := by omega
              have hw1 : IntKind.i64.wrap ((k : Int) + (turn : Int)) = (k : Int) + (turn : Int) := IntWalk.i64_in _ (by omega)
              have hw2 : ((k : Int) + (turn : Int)).tmod (l.length : Int) = (j : Int) := by rw [ej]; exact IntWalk.up_tmod (x := k + turn) (by omega) rfl
              have hw3 : IntKind.i64.wrap (turn : Int) = (turn : Int) := IntWalk.i64_in _ (by omega)
              have hw4 : IntKind.i64.wrap ((l.length : Int) - (k : Int)) = (l.length : Int) - (k : Int) := IntWalk.i64_in _ (by omega)
              have hw5 : IntKind.i64.wrap ((l.length : Int) - (k : Int) - 1) = (m : Int) := by rw [IntWalk.i64_in _ (by omega)]; omega
              have hz1 : ¬ l = [] := fun h => by subst h; simp at hlt
              have hz2 : ¬ l.length = 0 := by omega
              have hz3 : ¬ (l.length : Int) = 0 := by omega
              have hzb := (Array.getElem?_eq_some_iff.1 hbT).1
              have HW4 := hide hw4
              have HW5 := hide hw5
              have HKT := hide hkT
              have HBT := hide hbT
              have HBW := hide hb
              have HE := hide hE
              have HIX2 := hide HIX
              have HEX := hide eX
              have HCX := hide hcX
              have HAX := hide haX
              have HEM := hide em
              obtain ⟨q1, q2, q3⟩ := hbT.cell
              clear HIT hfT hkT hbT hb hlT hat hgt hE HIX hfX eX em hcX haX ej hw4 hw5 hlt2 hs
              go_wp2_with fail
              go_cut [20, 21] from 135 to 174 (fun x e we => PutIn wr (fun i => i ≠ wk.heap.size) (delR s T) x e we)
              case first =>
                go_region_held3 (fun w' => (w'.cell? ⟨wk.heap.size, 0, none⟩ = some (.slice B1 m1 d1) ∧ w'.cell? ⟨wk.heap.size, 1, none⟩ = some (.slice B2 m2 d2) ∧ w'.cell? ⟨wk.heap.size, 2, none⟩ = some (.slice B3 m3 d3)) ∧ w'.cell? (ad.add j) = some (.string s))
                  ((refine keep31 ⟨⟨q1, q2, q3⟩, hc1⟩ ?_; (repeat' (first | exact hcA | exact Below.refl _ _ | refine bdr ?_ | refine bs3 ?_ | refine bal ?_ _))))
                  (first
                    | (go_at_call 13; refine (delw_any s T _ _ _ _ (fun i => (i ≠ wk.heap.size) ∧ i < wr.heap.size) ?_).mono ?_; exact kn_fresh HKT.out _; rw [HE.out]; rintro e wa ⟨⟨x1, x2, x3, rfl, hkX⟩, hba⟩; obtain ⟨X1, oX1, rX1, X2, oX2, rX2, X3, oX3, rX3, rfl, rfl, rfl⟩ := kn_shape hkX; have hcA := btr (bdr (bal (Below.refl wr.heap.size wr) (.cells #[.slice none 0 0, .slice none 0 0, .slice none 0 0] 26))) hba; have hgA := box_fresh hba; obtain ⟨z1, z2, z3⟩ := hgA.cell; have f1 := hgA.frozen 0; have f2 := hgA.frozen 1; have f3 := hgA.frozen 2; clear hba)
                    | (go_at_call 13; refine (delw_any s T _ _ _ _ (fun i => (i ≠ wk.heap.size) ∧ i < wr.heap.size) ?_).mono ?_; exact kn_old HKT.out; rw [HE.out]; rintro e wa ⟨⟨x1, x2, x3, rfl, hkX⟩, hba⟩; obtain ⟨X1, oX1, rX1, X2, oX2, rX2, X3, oX3, rX3, rfl, rfl, rfl⟩ := kn_shape hkX; have hcA := btr (bdr (Below.refl wr.heap.size wr)) hba; clear hba))
                all_goals go_wp2_with fail
                all_goals go_meet
                · exact pin_new hkX hcA
                · exact pin_old hkX hgA hcA
              case rest =>
                rename World => wx
                obtain ⟨bX, X1, oX1, rX1, X2, oX2, rX2, X3, oX3, rX3, rfl, rfl, hbX, hBX, hkX, hb1⟩ := hcut
                have hszr := HBW.out.size
                have HBT2 := hide (HBT.out.below hb1)
                have HBW2 := hide (HBW.out.trans (hb1.mono hszr))
                have HBX := hide hBX
                have HKX := hide (kn_keep (V' := fun i => i ≠ wk.heap.size) (Nat.le_refl 1000) (Nat.le_refl _) (fun _ _ _ => rfl) (fun i hi _ => by rcases hi with hi | hi; exact hi; omega) hkX)
                clear q1 q2 q3 hc1 hw1 hw2 hw3 hz1 hz2 hz3 hjl hj0 hgl hge hBX hkX HBT HBW HKT HE hb1
                obtain ⟨q1, q2, q3⟩ := HBX.out.cell
                go_wp2_with fail
                refine (check_any (delR s T) _ _ _ _ (kn_keep (by omega) (Nat.le_refl _) (fun _ _ _ => rfl) (fun b h _ => trivial) HKX.out)).mono ?_
                rw [HCX.out]
                rintro e w5 ⟨rfl, hb5⟩
                have HBT3 := hide (HBT2.out.below hb5)
                have HBW3 := hide (HBW2.out.trans (hb5.mono HBW2.out.size))
                have HBX3 := hide (HBX.out.below hb5)
                have HKX3 := hide (HKX.out.below hb5)
                clear q1 q2 q3 hb5 HBT2 HBW2 HBX HKX
                obtain ⟨q1, q2, q3⟩ := HBX3.out.cell
                go_wp2_with fail
                refine (all_any (delR s T) _ _ _ _ HKX3.out.any (by have := HEM.out; omega)).mono ?_
                rw [HAX.out]
                rintro e w6 ⟨va, rfl, hoa, hb6⟩
                obtain ⟨AM, cM, rfl, _⟩ := hoa.sl
                rw [← HEM.out]
                have hBT4 := HBT3.out.below hb6
                have hR : DelIn wk wk.heap.size (TreeP.cutL (TreeP.layL l) ((TreeP.turnL l turn).take (k + 1))) (((w6.setCell ⟨wk.heap.size, 0, none⟩ (.slice X1 oX1 rX1)).setCell ⟨wk.heap.size, 1, none⟩ (.slice X2 oX2 rX2)).setCell ⟨wk.heap.size, 2, none⟩ (.slice X3 oX3 rX3)) :=
                  ⟨delR s T, hX, _, _, _, HIX2.out, HEX.out, kn_set3 (HKX3.out.below hb6) (fun i hi => hi), hBT4.set, below_set3 (HBW3.out.trans (hb6.mono HBW3.out.size)) (Nat.le_refl _)⟩
                have HR := hide hR
                have HBX4 := hide (HBX3.out.below hb6)
                have f1 := hBT4.frozen 0
                have f2 := hBT4.frozen 1
                have f3 := hBT4.frozen 2
                obtain ⟨p1, p2, p3⟩ := hBT4.cell
                clear q1 q2 q3 hb6 hR hBT4 HBT3 HBW3 HBX3 HKX3 hoa HCX HAX HEM HIX2 HEX
                obtain ⟨q1, q2, q3⟩ := HBX4.out.cell
                have hge : (0 : Int) ≤ (k : Int) := by omega
                have hw4 := HW4.out
                have hw5 := HW5.out
                go_wp2_with fail
                go_roundw
                case rel => exact ⟨k + 1, by omega, by go_num, HR.out⟩
                case measure => clear hw4 hw5; simp [intOf]; omega
            · have hgl : ¬ (k : Int) < (l.length : Int) := by omega
              clear HIT hfT hkT hbT
              go_wp2_with fail
              all_goals go_meet
              all_goals exact hb
        case rest =>
          have hbz := HB0.out.trans (hcut.mono HB0.out.size)
          clear hcut HR0
          go_wp2_with fail
          refine (awake20_any _).mono ?_
          rintro e wz ⟨rfl, hz⟩
          have hbf := hbz.trans (hz.mono hbz.size)
          clear hbz hz
          go_wp2_with fail
          go_ret
          exact ⟨rfl, hbf⟩
end Go.Proofs.Ytkkddnmpehoeoaa
