/- The walk of layer 20's few. -/
import Derived.Test.YtkkddnmpehoeoaaTreeFewA
import Derived.Test.YtkkddnmpehoeoaaTreeDelX
import Derived.Test.YtkkddnmpehoeoaaRegE
import Derived.Deep.RegionHeld3
import Derived.Deep.RegionLaw
import Derived.Deep.DeepCutAuto
import Derived.Deep.CutBlock
namespace Go.Proofs.Ytkkddnmpehoeoaa
open Go.RowKit
open TreeP (Kt Cell kl flat flatL cutT cutC fewK)
set_option linter.unusedVariables false
attribute [local go_sem ↓] Go.wp_at_zero Go.wp_at_succ

/-- the first k cells, cut -/
def cutCs (l : List Cell) (k : Nat) : List Cell := (l.take k).map cutC
theorem cutCs_succ {l : List Cell} {k : Nat} {x : Cell} (h : l[k]? = some x) : cutCs l k ++ [(cutT x.1, cutT x.2)] = cutCs l (k + 1) := by
  have h1 : k < l.length := (List.getElem?_eq_some_iff.1 h).1
  have h2 : l[k] = x := (List.getElem?_eq_some_iff.1 h).2
  unfold cutCs
  rw [List.take_succ_eq_append_getElem h1, List.map_append, h2]; rfl
def cutSs (l : List ByteArray) (k : Nat) : List ByteArray := (l.take k).map cutT
theorem cutSs_succ {l : List ByteArray} {k : Nat} {x : ByteArray} (h : l[k]? = some x) : cutSs l k ++ [cutT x] = cutSs l (k + 1) := by
  have h1 : k < l.length := (List.getElem?_eq_some_iff.1 h).1
  have h2 : l[k] = x := (List.getElem?_eq_some_iff.1 h).2
  unfold cutSs
  rw [List.take_succ_eq_append_getElem h1, List.map_append, h2]; rfl
def cutKs (d : Nat) (l : List Kt) (k : Nat) : List Kt := (l.take k).map (fewK d)
theorem cutKs_succ {d : Nat} {l : List Kt} {k : Nat} {x : Kt} (h : l[k]? = some x) : cutKs d l k ++ [fewK d x] = cutKs d l (k + 1) := by
  have h1 : k < l.length := (List.getElem?_eq_some_iff.1 h).1
  have h2 : l[k] = x := (List.getElem?_eq_some_iff.1 h).2
  unfold cutKs
  rw [List.take_succ_eq_append_getElem h1, List.map_append, h2]; rfl
theorem cells_snoc (l : List Cell) (a b : ByteArray) : cellsV l ++ [.string a, .string b] = cellsV (l ++ [(a, b)]) := by rw [cellsV_append]; rfl

/-- few's first loop leaves: the cells -/
def FewR1 (w0 : World) (b : Nat) (v1 v2 v3 : Value) (l : List Cell) (k : Nat) (w : World) : Prop :=
  ∃ u, FB w b v1 v2 v3 u (.slice none 0 0) (.slice none 0 0) ∧ w.ownsRow (b + 3) 44 2 u k (cellsV (cutCs l k)) ∧ Below b w0 w

theorem fewR1_step {w0 w w2 : World} {b : Nat} {v1 v2 v3 u : Value} {l : List Cell} {k g cap : Nat} {x : Cell} (h : FB w b v1 v2 v3 u (.slice none 0 0) (.slice none 0 0)) (ho : w.ownsRow (b + 3) 44 2 u k (cellsV (cutCs l k)))
    (hb : Below b w0 w) (hs : b + 3 ≤ w.heap.size) (E : cutCs l k ++ [(cutT x.1, cutT x.2)] = cutCs l (k + 1))
    (hA : Apd w w2 (b + 3) 44 2 u (.slice (some ⟨g, 0, none⟩) (k + 1) cap) (k + 1) (cellsV (cutCs l k) ++ [.string (cutT x.1), .string (cutT x.2)])) :
    FewR1 w0 b v1 v2 v3 l (k + 1) (w2.setCell ⟨b + 2, 0, none⟩ (.slice (some ⟨g, 0, none⟩) (k + 1) cap)) :=
  ⟨_, (h.apd ho (Nat.le_refl _) hA).set0 _, own_set (by have q := hA.own; rw [cells_snoc, E] at q; exact q) (by simp) _, (hA.below ho hb (by omega) (by omega)).setCell (by simp) _⟩
/-- few's second loop leaves: the keys -/
def FewR2 (w0 : World) (b : Nat) (v1 v2 v3 u : Value) (w1 : World) (l : List ByteArray) (k : Nat) (w : World) : Prop :=
  ∃ v, FB w b v1 v2 v3 u v (.slice none 0 0) ∧ w.ownsRow w1.heap.size 9 1 v k (strs (cutSs l k)) ∧ Below b w0 w ∧ w1.heap.size ≤ w.heap.size ∧ ∀ i, b + 3 ≤ i → i < w1.heap.size → w.heap[i]? = w1.heap[i]?
theorem fewR2_start {w0 w1 : World} {b : Nat} {v1 v2 v3 u : Value} {l : List ByteArray} (h : FB w1 b v1 v2 v3 u (.slice none 0 0) (.slice none 0 0)) (hb : Below b w0 w1) : FewR2 w0 b v1 v2 v3 u w1 l 0 w1 :=
  ⟨_, h, World.ownsRow_nil _ _ _ _, hb, Nat.le_refl _, fun _ _ _ => rfl⟩
theorem fewR2_step {w0 w1 w w2 : World} {b : Nat} {v1 v2 v3 u v : Value} {l : List ByteArray} {k g cap : Nat} {x : ByteArray} {wo : World} (h : FB w b v1 v2 v3 u v (.slice none 0 0)) (ho : w.ownsRow w1.heap.size 9 1 v k (strs (cutSs l k)))
    (hb : Below b w0 w) (hs : w1.heap.size ≤ w.heap.size) (h3 : b + 3 ≤ w1.heap.size) (hk : ∀ i, b + 3 ≤ i → i < w1.heap.size → wo.heap[i]? = w1.heap[i]?) (hwo : ∀ i, i < w1.heap.size → w.heap[i]? = wo.heap[i]?) (E : cutSs l k ++ [cutT x] = cutSs l (k + 1))
    (hA : Apd w w2 w1.heap.size 9 1 v (.slice (some ⟨g, 0, none⟩) (k + 1) cap) (k + 1) (strs (cutSs l k) ++ [.string (cutT x)])) :
    FewR2 w0 b v1 v2 v3 u w1 l (k + 1) (w2.setCell ⟨b + 2, 1, none⟩ (.slice (some ⟨g, 0, none⟩) (k + 1) cap)) := by
  refine ⟨_, (h.apd ho h3 hA).set1 _, own_set (by have q := hA.own; rw [← E, strs_append]; exact q) (by simp; omega) _, (hA.below ho hb (by omega) (by omega)).setCell (by simp) _, by rw [set_size]; exact Nat.le_trans hs hA.grown.size, fun i h1 h2 => ?_⟩
  rw [set_far (by simp; omega), hA.grown.block i (by omega) (fun e => by have := (ho.lt i e.symm).1; omega), hwo i h2]
  exact hk i h1 h2
/-- few's third loop leaves: the kids -/
def FewR3 (w0 : World) (b : Nat) (v1 v2 v3 u v : Value) (w1 : World) (d : Nat) (l : List Kt) (k : Nat) (w : World) : Prop :=
  ∃ x vals, FB w b v1 v2 v3 u v x ∧ w.ownsRow w1.heap.size 26 3 x k vals ∧ KnL w (fun i => b + 3 ≤ i ∧ x.ownBlock ≠ some i) 1000 vals (cutKs d l k) ∧ Below b w0 w ∧ w1.heap.size ≤ w.heap.size ∧ ∀ i, b + 3 ≤ i → i < w1.heap.size → w.heap[i]? = w1.heap[i]?

theorem fewR3_start {w0 w1 : World} {b d : Nat} {v1 v2 v3 u v : Value} {l : List Kt} (h : FB w1 b v1 v2 v3 u v (.slice none 0 0)) (hb : Below b w0 w1) : FewR3 w0 b v1 v2 v3 u v w1 d l 0 w1 :=
  ⟨_, [], h, World.ownsRow_nil _ _ _ _, by simp [cutKs, KnL], hb, Nat.le_refl _, fun _ _ _ => rfl⟩
theorem fewR3_step {w0 w1 w w5 w2 : World} {b d : Nat} {v1 v2 v3 u v x x1 x2 x3 : Value} {vals : List Value} {l : List Kt} {k g cap : Nat} {kid : Kt} (h : FB w b v1 v2 v3 u v x) (ho : w.ownsRow w1.heap.size 26 3 x k vals)
    (hk : KnL w (fun i => b + 3 ≤ i ∧ x.ownBlock ≠ some i) 1000 vals (cutKs d l k)) (hb : Below b w0 w) (hs : w1.heap.size ≤ w.heap.size) (h3 : b + 3 ≤ w1.heap.size) (hkp : ∀ i, b + 3 ≤ i → i < w1.heap.size → w.heap[i]? = w1.heap[i]?)
    (E : cutKs d l k ++ [fewK d kid] = cutKs d l (k + 1)) (hb5 : Below w.heap.size w w5) (hkn : Kn w5 (fun i => w.heap.size ≤ i) 1000 x1 x2 x3 (fewK d kid))
    (hA : Apd (w5.alloc (.cells #[x1, x2, x3] 26)) w2 w1.heap.size 26 3 x (.slice (some ⟨g, 0, none⟩) (k + 1) cap) (k + 1) (vals ++ [x1, x2, x3])) :
    FB w2 b v1 v2 v3 u v x ∧ FewR3 w0 b v1 v2 v3 u v w1 d l (k + 1) (w2.setCell ⟨b + 2, 2, none⟩ (.slice (some ⟨g, 0, none⟩) (k + 1) cap)) := by
  have hbA : Below w.heap.size w (w5.alloc (.cells #[x1, x2, x3] 26)) := hb5.alloc hb5.size _
  have hoA := own_below ho hbA
  have hsA : w.heap.size ≤ (w5.alloc (.cells #[x1, x2, x3] 26)).heap.size := hbA.size
  have hs5 : w5.heap.size < (w5.alloc (.cells #[x1, x2, x3] 26)).heap.size := by simp
  have hlt := h.lt
  have hxo : ∀ i, x.ownBlock = some i → w1.heap.size ≤ i ∧ i < w.heap.size := fun i e => ho.lt i e
  have hx' : ∀ i, i < (w5.alloc (.cells #[x1, x2, x3] 26)).heap.size → x.ownBlock ≠ some i → (Value.slice (some ⟨g, 0, none⟩) (k + 1) cap).ownBlock ≠ some i := by
    intro i hi hne
    rcases hA.at_ with e | ⟨g', e, hg'⟩
    · rw [e]; exact hne
    · rw [e]; intro e2; injection e2 with e2; omega
  have hfb := (h.below hbA).apd hoA h3 hA
  have hfar : ∀ i, b + 3 ≤ i → i < (w5.alloc (.cells #[x1, x2, x3] 26)).heap.size → x.ownBlock ≠ some i → (w2.setCell ⟨b + 2, 2, none⟩ (.slice (some ⟨g, 0, none⟩) (k + 1) cap)).heap[i]? = (w5.alloc (.cells #[x1, x2, x3] 26)).heap[i]? := by
    intro i hi hl hne
    rw [set_far (by simp; omega), hA.grown.block i hl (Ne.symm hne)]
  have hsz2 : (w5.alloc (.cells #[x1, x2, x3] 26)).heap.size ≤ (w2.setCell ⟨b + 2, 2, none⟩ (.slice (some ⟨g, 0, none⟩) (k + 1) cap)).heap.size := by rw [set_size]; exact hA.grown.size
  refine ⟨hfb, _, _, hfb.set2 _, own_set hA.own (by simp; omega) _, ?_, (hA.below hoA (hb.trans (hbA.mono (by omega))) (by omega) (by omega)).setCell (by simp) _, by omega, fun i h1 h2 => ?_⟩
  · rw [← E]
    refine knL_append ?_ (knL_one ?_)
    · refine knL_keep (Nat.le_refl _) (Nat.le_trans hsA hsz2) (fun i hi hl => ?_) (fun i hi hl => ⟨hi.1, hx' i (by omega) hi.2⟩) hk
      rw [hfar i hi.1 (by omega) hi.2]
      exact hbA.block i hl
    · refine kn_keep (Nat.le_refl _) (by omega) (fun i hi hl => ?_) (fun i hi hl => ⟨by omega, hx' i (by omega) (fun e => by have := (hxo i e).2; omega)⟩) hkn
      rw [hfar i (by omega) (by omega) (fun e => by have := (hxo i e).2; omega)]
      exact Below.heap_alloc w5 _ i hl
  · rw [hfar i h1 (by omega) (fun e => by have := (hxo i e).1; omega), hbA.block i (by omega)]
    exact hkp i h1 h2
theorem kn_ones {w : World} {V : Nat → Prop} {B : Nat} {a b c : Value} {t : Kt} (h : Kn w V B a b c t) : ∀ u ∈ [a, b, c], u.oneCell' = true := by
  obtain ⟨h1, h2, h3⟩ := kn_one h
  intro u hu
  simp only [List.mem_cons, List.not_mem_nil, or_false] at hu
  rcases hu with rfl | rfl | rfl <;> assumption
theorem few_parts (d : Nat) (cells : List Cell) (keys : List ByteArray) (kids : List Kt) : fewK d (.mk cells keys kids) = .mk ((cells.take 6).map cutC) ((keys.take 6).map cutT) (fewK d (.mk cells keys kids)).kids ∧ (fewK d (.mk cells keys kids)).kids.length ≤ 6 := by
  cases d with
  | zero => exact ⟨rfl, by simp [fewK, Kt.kids]⟩
  | succ d => exact ⟨rfl, by simp only [fewK, Kt.kids, List.length_map, List.length_take]; omega⟩
/-- few's contract at a depth -/
def FewC (d : Nat) : Prop := ∀ (t : Kt) (v1 v2 v3 : Value) (w : World), Kn w (fun _ => True) 9223372036854775807 v1 v2 v3 t →
    Calls Try.prog 9 #[.agg #[v1, v2, v3], .int .i64 d] w fun e w' => ∃ u1 u2 u3, e = .returned (.agg #[u1, u2, u3]) ∧ Kn w' (fun b => w.heap.size ≤ b) 1000 u1 u2 u3 (fewK d t) ∧ Below w.heap.size w w'

set_option maxRecDepth 100000 in
set_option maxHeartbeats 3200000 in
theorem few_step (d : Nat) (hd : d ≤ 1000) (ih : ∀ d', d = d' + 1 → FewC d') : FewC d := by
  intro t v1 v2 v3 w hkn
  obtain ⟨cells, keys, kids⟩ := t
  obtain ⟨⟨A1, c1, rfl, g1, g1', s1⟩, ⟨A2, c2, rfl, g2, g2', s2⟩, A3, c3, vals, rfl, g3, g3', s3, k3⟩ := kn_mk.1 hkn
  obtain ⟨nc, hnc⟩ : ∃ nc, nc = cells.length := ⟨_, rfl⟩
  obtain ⟨nk, hnk⟩ : ∃ nk, nk = keys.length := ⟨_, rfl⟩
  obtain ⟨nd, hnd⟩ : ∃ nd, nd = kids.length := ⟨_, rfl⟩
  rw [← hnc] at g1 g1' s1 ⊢
  rw [← hnk] at g2 g2' s2 ⊢
  rw [← hnd] at g3 g3' s3 ⊢
  have hbA : Below w.heap.size w (((w.alloc (.cells #[.slice A1 nc c1, .slice A2 nk c2, .slice A3 nd c3] 26)).alloc (.cells #[.slice none 0 0, .slice none 0 0, .slice none 0 0] 26)).alloc (.cells #[.slice none 0 0, .slice none 0 0, .slice none 0 0] 26)) := (((Below.refl _ w).alloc (Nat.le_refl _) _).alloc (by simp) _).alloc (by simp; omega) _
  have hFB : FB (((w.alloc (.cells #[.slice A1 nc c1, .slice A2 nk c2, .slice A3 nd c3] 26)).alloc (.cells #[.slice none 0 0, .slice none 0 0, .slice none 0 0] 26)).alloc (.cells #[.slice none 0 0, .slice none 0 0, .slice none 0 0] 26)) w.heap.size (.slice A1 nc c1) (.slice A2 nk c2) (.slice A3 nd c3) (.slice none 0 0) (.slice none 0 0) (.slice none 0 0) :=
    ⟨blk_under (blk_under (blk_top rfl)), blk_under (blk_top (by simp)), blk_top (by simp)⟩
  have S1 := hide s1
  have S2 := hide s2
  have S3 := hide s3
  have K3 := hide k3
  have HNC := hide hnc
  have HNK := hide hnk
  have HND := hide hnd
  have HBA := hide hbA
  have HFB := hide hFB
  have IH := hide ih
  clear hkn s1 s2 s3 k3 hnc hnk hnd hbA hFB ih
  go_enter Try.func9, Try.ntmps9
  go_upto_block 0 with (fail)
  go_cut [] (fun wc => ∃ k u, SlV wc (fun b => w.heap.size + 3 ≤ b ∧ b < wc.heap.size) 2 u k (cellsV ((cells.take 6).map cutC)) ∧ k ≤ 6 ∧ FB wc w.heap.size (.slice A1 nc c1) (.slice A2 nk c2) (.slice A3 nd c3) u (.slice none 0 0) (.slice none 0 0) ∧ Below w.heap.size w wc)
  case first =>
   go_wp2_with fail
   go_loopw [6] (fun i wr => ∃ (k : Nat), k ≤ nc ∧ k ≤ 6 ∧ i = .int .i64 k ∧ FewR1 w w.heap.size (.slice A1 nc c1) (.slice A2 nk c2) (.slice A3 nd c3) cells k wr) (fun i _ => nc - (intOf i).toNat)
   case atStart => exact ⟨0, by omega, by omega, rfl, _, HFB.out, World.ownsRow_nil _ _ _ _, HBA.out⟩
   case round =>
     clear HFB HBA
     obtain ⟨k, hk, hk6, rfl, u, hfb, hown, hb⟩ := hrel
     obtain ⟨⟨q1, q2, q3⟩, ⟨q4, q5, q6⟩, q7, q8, q9⟩ := hfb.cells
     have hsz : w.heap.size + 3 ≤ wr.heap.size := hfb.lt
     by_cases hlt : k < nc ∧ k < 6
     · obtain ⟨hlt, hlt6⟩ := hlt
       obtain ⟨ad, x, e, hx, hc1w, hc2w⟩ := S1.out.cell hlt
       subst e
       have hc1 := cell_next hc1w hb
       have hc2 := cell_next hc2w hb
       have HC1 := hide hc1w
       have HC2 := hide hc2w
       clear hc1w hc2w
       have E := hide (cutCs_succ hx)
       have hge : (0 : Int) ≤ (k : Int) := by omega
       have hgl : (k : Int) < (nc : Int) := by omega
       have hgl6 : (k : Int) < 6 := by omega
       clear hx S1 S2 S3 K3
       go_wp2_with fail
       have hA0 : Below wr.heap.size wr (wr.alloc (.cells #[.string (cutT x.1), .string (cutT x.2)] 44)) := (Below.refl _ _).alloc (Nat.le_refl _) _
       have hown0 := (own_below hown hA0).drew
       have hfb0 : FB (wr.alloc (.cells #[.string (cutT x.1), .string (cutT x.2)] 44)).drew _ _ _ _ _ _ _ := hfb.below (bdr hA0)
       have hsz0 : w.heap.size + 3 ≤ (wr.alloc (.cells #[.string (cutT x.1), .string (cutT x.2)] 44)).drew.heap.size := Nat.le_trans hsz hA0.size
       have hbl0 : (wr.alloc (.cells #[.string (cutT x.1), .string (cutT x.2)] 44)).drew.heap[wr.heap.size]? = some (.cells #[.string (cutT x.1), .string (cutT x.2)] 44 (0, 0)) := blk_top rfl
       have hb0 : Below w.heap.size w (wr.alloc (.cells #[.string (cutT x.1), .string (cutT x.2)] 44)).drew := below_drewN (hb.trans (hA0.mono hb.size)) 1
       have hk0 : k ≤ 1000000000000 := by omega
       have q4A := cell_next q4 hA0
       have HA0 := hide hA0
       clear hA0 HNC HNK HND
       refine wp_region_noPanic ?_
       have hS : wr.drew.cell? ⟨w.heap.size + 2, 0, none⟩ = some u ∧ wr.drew.cell? ⟨w.heap.size, 0, none⟩ = some (.slice (some ad) nc c1) ∧ wr.drew.cell? (ad.add (k * 2)) = some (.string x.1) ∧ wr.drew.cell? ⟨(ad.add (k * 2)).block, (ad.add (k * 2)).off + 1, none⟩ = some (.string x.2) := ⟨q4, q1, hc1, hc2⟩
       refine RegE.begin_ (n := 20) (S := fun w' => w'.cell? ⟨w.heap.size + 2, 0, none⟩ = some u ∧ w'.cell? ⟨w.heap.size, 0, none⟩ = some (.slice (some ad) nc c1) ∧ w'.cell? (ad.add (k * 2)) = some (.string x.1) ∧ w'.cell? ⟨(ad.add (k * 2)).block, (ad.add (k * 2)).off + 1, none⟩ = some (.string x.2)) (by kernel_rfl) (by kernel_rfl) (by kernel_rfl) ?_
       refine RegE.take (i := 0) (v := ?v0) rfl (by kernel_rfl) (by kernel_rfl) rfl (by kernel_rfl) (by kernel_rfl) (by kernel_rfl) (fun _ _ _ h => h) (Or.inl ⟨by rfl, ?y0⟩) hS ?r0
       case y0 => intro ww hSw; obtain ⟨hs1, hs2, hs3, hs4⟩ := hSw; (go_simp <;> with_reducible rfl)
       try simp only [Act.put, List.setIfInBounds_toArray]
       refine RegE.take (i := 1) (v := ?v1) rfl (by kernel_rfl) (by kernel_rfl) rfl (by kernel_rfl) (by kernel_rfl) (by kernel_rfl) (fun _ _ _ h => h) (Or.inl ⟨by rfl, ?y1⟩) hS ?r1
       case y1 => intro ww hSw; obtain ⟨hs1, hs2, hs3, hs4⟩ := hSw; (go_simp <;> with_reducible rfl)
       try simp only [Act.put]
       refine RegE.take (i := 2) (v := ?v2) rfl (by kernel_rfl) (by kernel_rfl) rfl (by kernel_rfl) (by kernel_rfl) (by kernel_rfl) (fun _ _ _ h => h) (Or.inl ⟨by rfl, ?y2⟩) hS ?r2
       case y2 => intro ww hSw; obtain ⟨hs1, hs2, hs3, hs4⟩ := hSw; (go_simp <;> with_reducible rfl)
       try simp only [Act.put]
       refine RegE.take (i := 3) (v := ?v3) rfl (by kernel_rfl) (by kernel_rfl) rfl (by kernel_rfl) (by kernel_rfl) (by kernel_rfl) (fun _ _ _ h => h) (Or.inl ⟨by rfl, ?y3⟩) hS ?r3
       case y3 => intro ww hSw; obtain ⟨hs1, hs2, hs3, hs4⟩ := hSw; (go_simp <;> with_reducible rfl)
       try simp only [Act.put]
       refine RegE.take (i := 4) (v := ?v4) rfl (by kernel_rfl) (by kernel_rfl) rfl (by kernel_rfl) (by kernel_rfl) (by kernel_rfl) (fun _ _ _ h => h) (Or.inl ⟨by rfl, ?y4⟩) hS ?r4
       case y4 => intro ww hSw; obtain ⟨hs1, hs2, hs3, hs4⟩ := hSw; (go_simp <;> with_reducible rfl)
       try simp only [Act.put]
       refine RegE.take (i := 5) (v := ?v5) rfl (by kernel_rfl) (by kernel_rfl) rfl (by kernel_rfl) (by kernel_rfl) (by kernel_rfl) (fun _ _ _ h => h) (Or.inl ⟨by rfl, ?y5⟩) hS ?r5
       case y5 => intro ww hSw; obtain ⟨hs1, hs2, hs3, hs4⟩ := hSw; (go_simp <;> with_reducible rfl)
       try simp only [Act.put]
       refine RegE.take (i := 6) (v := ?v6) rfl (by kernel_rfl) (by kernel_rfl) rfl (by kernel_rfl) (by kernel_rfl) (by kernel_rfl) (fun _ _ _ h => h) (Or.inl ⟨by rfl, ?y6⟩) hS ?r6
       case y6 => intro ww hSw; obtain ⟨hs1, hs2, hs3, hs4⟩ := hSw; (go_simp <;> with_reducible rfl)
       try simp only [Act.put]
       refine RegE.take (i := 7) (v := ?v7) rfl (by kernel_rfl) (by kernel_rfl) rfl (by kernel_rfl) (by kernel_rfl) (by kernel_rfl) (fun _ _ _ h => h) (Or.inl ⟨by rfl, ?y7⟩) hS ?r7
       case y7 => intro ww hSw; obtain ⟨hs1, hs2, hs3, hs4⟩ := hSw; (go_simp <;> with_reducible rfl)
       try simp only [Act.put]
       refine RegE.take (i := 9) (v := ?v9) rfl (by kernel_rfl) (by kernel_rfl) rfl (by kernel_rfl) (by kernel_rfl) (by kernel_rfl) (fun _ _ _ h => h) (Or.inl ⟨by rfl, ?y9⟩) hS ?r9
       case y9 => intro ww hSw; obtain ⟨hs1, hs2, hs3, hs4⟩ := hSw; (go_simp <;> with_reducible rfl)
       try simp only [Act.put]
       refine RegE.take (i := 10) (v := ?v10) rfl (by kernel_rfl) (by kernel_rfl) rfl (by kernel_rfl) (by kernel_rfl) (by kernel_rfl) (fun _ _ _ h => h) (Or.inl ⟨by rfl, ?y10⟩) hS ?r10
       case y10 => intro ww hSw; obtain ⟨hs1, hs2, hs3, hs4⟩ := hSw; (go_simp <;> with_reducible rfl)
       try simp only [Act.put]
       refine RegE.take (i := 11) (v := ?v11) rfl (by kernel_rfl) (by kernel_rfl) rfl (by kernel_rfl) (by kernel_rfl) (by kernel_rfl) (fun _ _ _ h => h) (Or.inl ⟨by rfl, ?y11⟩) hS ?r11
       case y11 => intro ww hSw; obtain ⟨hs1, hs2, hs3, hs4⟩ := hSw; (go_simp <;> with_reducible rfl)
       try simp only [Act.put]
       refine RegE.take (i := 12) (v := ?v12) rfl (by kernel_rfl) (by kernel_rfl) rfl (by kernel_rfl) (by kernel_rfl) (by kernel_rfl) (fun _ _ _ h => h) (Or.inl ⟨by rfl, ?y12⟩) hS ?r12
       case y12 => intro ww hSw; obtain ⟨hs1, hs2, hs3, hs4⟩ := hSw; (go_simp <;> with_reducible rfl)
       try simp only [Act.put]
       refine RegE.take (i := 13) (v := ?v13) rfl (by kernel_rfl) (by kernel_rfl) rfl (by kernel_rfl) (by kernel_rfl) (by kernel_rfl) (fun _ _ _ h => h) (Or.inl ⟨by rfl, ?y13⟩) hS ?r13
       case y13 => intro ww hSw; obtain ⟨hs1, hs2, hs3, hs4⟩ := hSw; (go_simp <;> with_reducible rfl)
       try simp only [Act.put]
       refine RegE.take (i := 14) (v := ?v14) rfl (by kernel_rfl) (by kernel_rfl) rfl (by kernel_rfl) (by kernel_rfl) (by kernel_rfl) (fun _ _ _ h => h) (Or.inl ⟨by rfl, ?y14⟩) hS ?r14
       case y14 => intro ww hSw; obtain ⟨hs1, hs2, hs3, hs4⟩ := hSw; (go_simp <;> with_reducible rfl)
       try simp only [Act.put]
       refine RegE.step (i := 8) rfl (by kernel_rfl) rfl (fun K hK => ?_)
       go_simp
       go_at_call 10
       refine (text_any _ _).mono ?_
       rintro e w' ⟨rfl, rfl⟩
       refine hK _ _ hS ?_
       clear hK K
       try simp only [Act.put, List.setIfInBounds_toArray, List.set_cons_zero, List.set_cons_succ]
       refine RegE.step (i := 15) rfl (by kernel_rfl) rfl (fun K hK => ?_)
       go_simp
       go_at_call 10
       refine (text_any _ _).mono ?_
       rintro e w' ⟨rfl, rfl⟩
       refine hK _ _ hS ?_
       clear hK K
       try simp only [Act.put, List.setIfInBounds_toArray, List.set_cons_zero, List.set_cons_succ]
       refine RegE.take (i := 16) (v := ?v16) rfl (by kernel_rfl) (by kernel_rfl) rfl (by kernel_rfl) (by kernel_rfl) (by kernel_rfl) (fun _ _ _ h => h) (Or.inl ⟨by rfl, ?y16⟩) hS ?r16
       case y16 => intro ww hSw; obtain ⟨hs1, hs2, hs3, hs4⟩ := hSw; (go_simp <;> with_reducible rfl)
       try simp only [Act.put, List.setIfInBounds_toArray]
       refine RegE.step (i := 17) rfl (by kernel_rfl) rfl (fun K hK => ?_)
       go_simp
       have hS1 : (wr.alloc (.cells #[.string (cutT x.1), .string (cutT x.2)] 44)).drew.cell? ⟨w.heap.size + 2, 0, none⟩ = some u ∧ (wr.alloc (.cells #[.string (cutT x.1), .string (cutT x.2)] 44)).drew.cell? ⟨w.heap.size, 0, none⟩ = some (.slice (some ad) nc c1) ∧ (wr.alloc (.cells #[.string (cutT x.1), .string (cutT x.2)] 44)).drew.cell? (ad.add (k * 2)) = some (.string x.1) ∧ (wr.alloc (.cells #[.string (cutT x.1), .string (cutT x.2)] 44)).drew.cell? ⟨(ad.add (k * 2)).block, (ad.add (k * 2)).off + 1, none⟩ = some (.string x.2) := ⟨q4A, cell_next q1 (bdr HA0.out), cell_next hc1 (bdr HA0.out), cell_next hc2 (bdr HA0.out)⟩
       refine hK _ _ hS1 ?_
       clear hK K hS
       try simp only [Act.put, List.setIfInBounds_toArray, List.set_cons_zero, List.set_cons_succ]
       refine RegE.step (i := 18) rfl (by kernel_rfl) rfl (fun K hK => ?_)
       refine step_one_C rfl _ _ rfl (w.heap.size + 3) _ _ _ hown0 rfl _ _ _ rfl hbl0 (one2 _ _) hk0 hsz0 ?_
       intro g cap w2 hA
       have hR := fewR1_step hfb0 hown0 hb0 hsz0 E.out hA
       have hb2 := hA.below hown0 hb0 (Nat.le_add_right _ 3) (Nat.le_trans (Nat.le_add_right _ 3) hsz0)
       obtain ⟨⟨p1, p2, p3⟩, ⟨p4, p5, p6⟩, p7, p8, p9⟩ := (hfb0.apd hown0 (Nat.le_refl _) hA).cells
       have hS2 : w2.cell? ⟨w.heap.size + 2, 0, none⟩ = some u ∧ w2.cell? ⟨w.heap.size, 0, none⟩ = some (.slice (some ad) nc c1) ∧ w2.cell? (ad.add (k * 2)) = some (.string x.1) ∧ w2.cell? ⟨(ad.add (k * 2)).block, (ad.add (k * 2)).off + 1, none⟩ = some (.string x.2) := ⟨p4, p1, cell_next HC1.out hb2, cell_next HC2.out hb2⟩
       refine hK _ _ hS2 ?_
       clear hK K hS1 hA hb2
       try simp only [Act.put, List.setIfInBounds_toArray]
       refine RegE.take (i := 19) (v := ?v19) rfl (by kernel_rfl) (by kernel_rfl) rfl (by kernel_rfl) (by kernel_rfl) (by kernel_rfl) (fun _ _ _ h => h) (Or.inl ⟨by rfl, ?y19⟩) hS2 ?r19
       case y19 => intro ww hSw; obtain ⟨hs1, hs2, hs3, hs4⟩ := hSw; (go_simp <;> with_reducible rfl)
       try simp only [Act.put]
       refine RegE.done rfl (by kernel_rfl) (fun K hK => ?_)
       go_simp
       refine hK _ _ ?_
       clear hK K hS2
       refine NoPanic.normal ?_
       try simp only [Act.put, List.setIfInBounds_toArray, List.set_cons_zero, List.set_cons_succ]
       go_wp2_with fail
       go_roundw
       case rel => exact ⟨k + 1, by omega, by omega, by go_num, hR⟩
       case measure => simp [intOf]; omega
     · have hL1 : k = nc ∨ k = 6 := by omega
       have hend : (nc : Int) ≤ k ∨ (6 : Int) ≤ k := by omega
       have hcut : cutCs cells k = (cells.take 6).map cutC := by
         unfold cutCs
         rcases hL1 with h | h
         · rw [List.take_of_length_le (by have := HNC.out; omega), List.take_of_length_le (by have := HNC.out; omega)]
         · rw [h]
       have hC : SlV wr (fun b => w.heap.size + 3 ≤ b ∧ b < wr.heap.size) 2 u k (cellsV ((cells.take 6).map cutC)) := by
         rw [← hcut]
         exact ((SlV.own (V := fun b => w.heap.size + 3 ≤ b) hown (fun _ h => h)).lt).mono fun _ h => h
       have HC := hide hC
       clear hC hL1 hcut hown q4 q5 q6 q7 q8 q9 S1 hlt
       go_wp2_with fail
       all_goals go_meet
       all_goals exact ⟨k, u, HC.out, hk6, hfb, hb⟩
  case rest =>
    clear HFB HBA S1 HNC
    obtain ⟨kc, u, hC, hkc, hfb, hb⟩ := hcut
    have HC := hide hC
    clear hC
    go_upto_block 2 with (fail)
    go_cut [] (fun we => ∃ k v, SlV we (fun b => w.heap.size + 3 ≤ b ∧ b < we.heap.size) 1 v k (strs ((keys.take 6).map cutT)) ∧ k ≤ 6 ∧ SlV we (fun b => w.heap.size + 3 ≤ b ∧ b < we.heap.size) 2 u kc (cellsV ((cells.take 6).map cutC)) ∧ FB we w.heap.size (.slice A1 nc c1) (.slice A2 nk c2) (.slice A3 nd c3) u v (.slice none 0 0) ∧ Below w.heap.size w we)
    case first =>
      go_wp2_with fail
      go_loopw [7] (fun i ws => ∃ (j : Nat), j ≤ nk ∧ j ≤ 6 ∧ i = .int .i64 j ∧ FewR2 w w.heap.size (.slice A1 nc c1) (.slice A2 nk c2) (.slice A3 nd c3) u wc keys j ws) (fun i _ => nk - (intOf i).toNat)
      case atStart => exact ⟨0, by omega, by omega, rfl, fewR2_start hfb hb⟩
      case round =>
        have hszc := hfb.lt
        clear hfb
        obtain ⟨k, hk, hk6, rfl, v, hfb, hown, hb, hs, hkeep⟩ := hrel
        obtain ⟨⟨q1, q2, q3⟩, ⟨q4, q5, q6⟩, q7, q8, q9⟩ := hfb.cells
        have hsz : w.heap.size + 3 ≤ wr.heap.size := hfb.lt
        have HKEEP := hide hkeep
        clear hkeep
        by_cases hlt : k < nk ∧ k < 6
        · obtain ⟨hlt, hlt6⟩ := hlt
          obtain ⟨ad, x, e, hx, hc1⟩ := (S2.out.below hb).str hlt
          subst e
          have E := hide (cutSs_succ hx)
          have hge : (0 : Int) ≤ (k : Int) := by omega
          have hgl : (k : Int) < (nk : Int) := by omega
          have hgl6 : (k : Int) < 6 := by omega
          clear hx S2 S3 K3
          go_wp2_with fail
          have hA0 : Below wr.heap.size wr (wr.alloc (.cells #[.string (cutT x)] 9)) := (Below.refl _ _).alloc (Nat.le_refl _) _
          have hown0 := (own_below hown hA0).drew
          have hfb0 : FB (wr.alloc (.cells #[.string (cutT x)] 9)).drew _ _ _ _ _ _ _ := hfb.below (bdr hA0)
          have hsz0 : wc.heap.size ≤ (wr.alloc (.cells #[.string (cutT x)] 9)).drew.heap.size := Nat.le_trans hs hA0.size
          have hbl0 : (wr.alloc (.cells #[.string (cutT x)] 9)).drew.heap[wr.heap.size]? = some (.cells #[.string (cutT x)] 9 (0, 0)) := blk_top rfl
          have hb0 : Below w.heap.size w (wr.alloc (.cells #[.string (cutT x)] 9)).drew := below_drewN (hb.trans (hA0.mono hb.size)) 1
          have hk0 : k ≤ 1000000000000 := by omega
          have hwc : w.heap.size ≤ wc.heap.size := by omega
          have q5A := cell_next q5 hA0
          have o1 : ∀ u ∈ [Value.string (cutT x)], u.oneCell' = true := by intro u hu; simp at hu; subst hu; rfl
          have O1 := hide o1
          clear hA0 o1
          go_region_law (first
            | ((with_reducible refine at_dst 59 ?_); go_simp; go_at_call 10; refine (text_any x _).mono ?_; rintro e w' ⟨rfl, rfl⟩)
            | ((with_reducible refine at_dst 61 ?_); refine step_one_S rfl _ _ rfl wc.heap.size _ _ _ hown0 rfl _ _ rfl hbl0 O1.out hk0 hsz0 ?_; intro g cap w2 hA; have hR := fewR2_step (wo := wr) hfb0 hown0 hb0 hsz0 hszc HKEEP.out (fun i hi => Below.heap_alloc wr _ i (by omega)) E.out hA; obtain ⟨⟨p1, p2, p3⟩, ⟨p4, p5, p6⟩, p7, p8, p9⟩ := (hfb0.apd hown0 hszc hA).cells; clear hA))
          all_goals go_wp2_with fail
          all_goals
            go_roundw
            case rel => exact ⟨k + 1, by omega, by omega, by go_num, hR⟩
            case measure => simp [intOf]; omega
        · have hL1 : k = nk ∨ k = 6 := by omega
          have hend : (nk : Int) ≤ k ∨ (6 : Int) ≤ k := by omega
          have hcut : cutSs keys k = (keys.take 6).map cutT := by
            unfold cutSs
            rcases hL1 with h | h
            · rw [List.take_of_length_le (by have := HNK.out; omega), List.take_of_length_le (by have := HNK.out; omega)]
            · rw [h]
          have hD : SlV wr (fun b => w.heap.size + 3 ≤ b ∧ b < wr.heap.size) 1 v k (strs ((keys.take 6).map cutT)) := by
            rw [← hcut]
            exact (((SlV.own (V := fun b => w.heap.size + 3 ≤ b) hown (fun _ h => Nat.le_trans hszc h)).lt).mono fun _ h => h)
          have hC2 : SlV wr (fun b => w.heap.size + 3 ≤ b ∧ b < wr.heap.size) 2 u kc (cellsV ((cells.take 6).map cutC)) :=
            (HC.out.keep hs (fun b hb _ => HKEEP.out b hb.1 hb.2)).mono fun b hb => ⟨hb.1, by omega⟩
          have HD := hide hD
          have HC2 := hide hC2
          clear hD hC2 hL1 hcut hown q4 q5 q6 q7 q8 q9 S2 hlt HC HKEEP
          go_wp2_with fail
          all_goals go_meet
          all_goals exact ⟨k, v, HD.out, hk6, HC2.out, hfb, hb⟩
    case rest =>
      clear HC S2 HNK hfb hb
      obtain ⟨kk, v, hD, hkk, hC, hfb, hb⟩ := hcut
      have HC := hide hC
      have HD := hide hD
      clear hC hD
      go_upto_block 4 with (fail)
      go_cut [] (fun wg => ∃ x vals, SlV wg (fun b => w.heap.size + 3 ≤ b) 3 x (fewK d (.mk cells keys kids)).kids.length vals ∧ KnL wg (fun b => w.heap.size + 3 ≤ b) 1000 vals (fewK d (.mk cells keys kids)).kids ∧ SlV wg (fun b => w.heap.size + 3 ≤ b) 1 v kk (strs ((keys.take 6).map cutT)) ∧ SlV wg (fun b => w.heap.size + 3 ≤ b) 2 u kc (cellsV ((cells.take 6).map cutC)) ∧ FB wg w.heap.size (.slice A1 nc c1) (.slice A2 nk c2) (.slice A3 nd c3) u v x ∧ Below w.heap.size w wg)
      case first =>
        have hszc := hfb.lt
        obtain ⟨D, hDD⟩ : ∃ D, D = d - 1 := ⟨_, rfl⟩
        go_wp2_with fail
        go_loopw [8] (fun i ws => ∃ (j : Nat), j ≤ nd ∧ j ≤ 6 ∧ (d = 0 → j = 0) ∧ i = .int .i64 j ∧ FewR3 w w.heap.size (.slice A1 nc c1) (.slice A2 nk c2) (.slice A3 nd c3) u v wc D kids j ws) (fun i _ => nd - (intOf i).toNat)
        case atStart => exact ⟨0, by omega, by omega, fun _ => rfl, rfl, fewR3_start hfb hb⟩
        case round =>
          clear hfb hb
          obtain ⟨k, hk, hk6, hk0, rfl, x, vls, hfb, hown, hkl, hb, hs, hkeep⟩ := hrel
          obtain ⟨⟨q1, q2, q3⟩, ⟨q4, q5, q6⟩, q7, q8, q9⟩ := hfb.cells
          have hsz : w.heap.size + 3 ≤ wr.heap.size := hfb.lt
          have HKEEP := hide hkeep
          have HKL := hide hkl
          have HK0 := hide hk0
          clear hkeep hkl hk0
          by_cases hlt : k < nd ∧ k < 6 ∧ 0 < d
          · obtain ⟨hlt, hlt6, hd0⟩ := hlt
            obtain ⟨kid, hkid⟩ : ∃ kid, kids[k]? = some kid := ⟨_, List.getElem?_eq_getElem (by have := HND.out; omega)⟩
            obtain ⟨ad, y1, y2, y3, e, f1, f2, f3, f4⟩ := kid_at (S3.out.below hb) (K3.out.below hb) hkid
            subst e
            obtain ⟨B1, m1, d1, B2, m2, d2, B3, m3, d3, rfl, rfl, rfl⟩ := kn_shape f4
            have E := hide (cutKs_succ (d := D) hkid)
            have hc := IH.out D (by omega) kid _ _ _ wr.drew f4.drew
            have HC' := hide hc
            have hge : (0 : Int) ≤ (k : Int) := by omega
            have hgl : (k : Int) < (nd : Int) := by omega
            have hgl6 : (k : Int) < 6 := by omega
            have hgd : (0 : Int) < (d : Int) := by omega
            have hwD : IntKind.i64.wrap ((d : Int) - 1) = (D : Int) := by rw [IntWalk.i64_in _ (by omega)]; omega
            have hk00 : k ≤ 1000000000000 := by omega
            have HS := hide hs
            have HDD := hide hDD
            clear hkid f4 hc S3 K3 IH HC HD hDD hs
            go_wp2_with fail
            go_region_law (first
              | ((with_reducible refine at_dst 87 ?_); go_simp; go_at_call 9; refine HC'.out.mono ?_; rintro e w5 ⟨x1, x2, x3, rfl, hkn5, hb5'⟩; have hb5 : Below wr.heap.size wr w5 := Below.trans (bdr (Below.refl _ _)) hb5'; have q6A := cell_next q6 hb5; have q3A := cell_next q3 hb5; have q6B := cell_next q6 (hb5.alloc hb5.size (.cells #[x1, x2, x3] 26)); clear hb5')
              | ((with_reducible refine at_dst 89 ?_); refine step_one_K rfl _ _ rfl wc.heap.size _ _ _ (own_below hown (hb5.alloc hb5.size (.cells #[x1, x2, x3] 26))) rfl _ _ _ _ rfl (blk_top rfl) (kn_ones hkn5) hk00 (Nat.le_trans HS.out (hb5.alloc hb5.size (.cells #[x1, x2, x3] 26)).size) ?_; intro g cap w2 hA; obtain ⟨hfb2, hR⟩ := fewR3_step hfb hown HKL.out hb HS.out hszc HKEEP.out E.out hb5 hkn5 hA; obtain ⟨⟨p1, p2, p3⟩, ⟨p4, p5, p6⟩, p7, p8, p9⟩ := hfb2.cells; clear hA hfb2))
            all_goals go_wp2_with fail
            all_goals
              go_roundw
              case rel => exact ⟨k + 1, by omega, by omega, fun h => by omega, by go_num, hR⟩
              case measure => simp [intOf]; omega
          · have hL1 : k = nd ∨ k = 6 ∨ d = 0 := by omega
            have hend : (nd : Int) ≤ k ∨ (6 : Int) ≤ k ∨ (d : Int) ≤ 0 := by omega
            have hcut : cutKs D kids k = (fewK d (.mk cells keys kids)).kids ∧ k = (fewK d (.mk cells keys kids)).kids.length := by
              have hn := HND.out
              have hl := knL_len HKL.out
              have hl2 := hown.1
              rcases Nat.eq_zero_or_pos d with h0 | h0
              · have := HK0.out h0
                subst h0 this
                exact ⟨rfl, rfl⟩
              · obtain ⟨d', rfl⟩ : ∃ d', d = d' + 1 := ⟨d - 1, by omega⟩
                obtain rfl : D = d' := by omega
                have e : cutKs D kids k = (fewK (D + 1) (.mk cells keys kids)).kids := by
                  unfold cutKs
                  simp only [fewK, Kt.kids]
                  rcases hL1 with h | h | h
                  · rw [List.take_of_length_le (by omega), List.take_of_length_le (by omega)]
                  · rw [h]
                  · omega
                refine ⟨e, ?_⟩
                rw [← e]
                omega
            obtain ⟨hc1, hc2⟩ := hcut
            have hX : SlV wr (fun b => w.heap.size + 3 ≤ b) 3 x k vls := SlV.own hown (fun _ h => Nat.le_trans hszc h)
            have hXL : KnL wr (fun b => w.heap.size + 3 ≤ b) 1000 vls (fewK d (.mk cells keys kids)).kids := by
              rw [← hc1]; exact knL_keep (Nat.le_refl _) (Nat.le_refl _) (fun _ _ _ => rfl) (fun _ h _ => h.1) HKL.out
            have hC2 : SlV wr (fun b => w.heap.size + 3 ≤ b) 2 u kc (cellsV ((cells.take 6).map cutC)) :=
              (HC.out.keep hs (fun b hb _ => HKEEP.out b hb.1 hb.2)).mono fun b hb => hb.1
            have hD2 : SlV wr (fun b => w.heap.size + 3 ≤ b) 1 v kk (strs ((keys.take 6).map cutT)) :=
              (HD.out.keep hs (fun b hb _ => HKEEP.out b hb.1 hb.2)).mono fun b hb => hb.1
            rw [hc2] at hX
            have HX := hide hX
            have HXL := hide hXL
            have HC2 := hide hC2
            have HD2 := hide hD2
            clear hX hXL hC2 hD2 hc1 hc2 hL1 hown q4 q5 q6 q7 q8 q9 S3 K3 IH HC HD HKEEP HKL HK0 hDD
            rcases hend with hend | hend | hend
            · go_wp2_with fail
              all_goals go_meet
              all_goals exact ⟨x, vls, HX.out, HXL.out, HD2.out, HC2.out, hfb, hb⟩
            · go_wp2_with fail
              all_goals go_meet
              all_goals exact ⟨x, vls, HX.out, HXL.out, HD2.out, HC2.out, hfb, hb⟩
            · go_wp2_with fail
              all_goals go_meet
              all_goals exact ⟨x, vls, HX.out, HXL.out, HD2.out, HC2.out, hfb, hb⟩
      case rest =>
        clear HC HD S3 K3 IH hfb hb
        obtain ⟨x, vls, hX, hXL, hD, hC, hfb, hb⟩ := hcut
        obtain ⟨hp1, hp2⟩ := few_parts d cells keys kids
        have hK : Kn wc (fun b => w.heap.size + 3 ≤ b) 1000 u v x (fewK d (.mk cells keys kids)) := by
          rw [hp1]
          exact kn_of hC hD hX hXL rfl (by omega) (by omega) (by omega)
        obtain ⟨B1, m1, d1, B2, m2, d2, B3, m3, d3, rfl, rfl, rfl⟩ := kn_shape hK
        have HK := hide hK
        obtain ⟨⟨q1, q2, q3⟩, ⟨q4, q5, q6⟩, q7, q8, q9⟩ := hfb.cells
        have r1 := hfb.2.1.frozen 0
        have r2 := hfb.2.1.frozen 1
        have r3 := hfb.2.1.frozen 2
        obtain ⟨r4, r5, r6⟩ := hfb.2.1.cell
        clear hK hp1 hp2 hX hXL hD hC
        go_wp2_with fail
        have kF := kn_set3 (b := w.heap.size + 1) (u1 := .slice B1 m1 d1) (u2 := .slice B2 m2 d2) (u3 := .slice B3 m3 d3) HK.out (fun b hb => by omega)
        obtain ⟨s1, s2, s3⟩ := (hfb.2.1.set (u1 := .slice B1 m1 d1) (u2 := .slice B2 m2 d2) (u3 := .slice B3 m3 d3)).cell
        refine bodyPost_ret (v := .agg #[.slice B1 m1 d1, .slice B2 m2 d2, .slice B3 m3 d3]) (by simp [results, Try.results9, go_sem, s1, s2, s3]) rfl ⟨_, _, _, rfl, kn_keep (Nat.le_refl _) (Nat.le_refl _) (fun _ _ _ => rfl) (fun b hb _ => by omega) kF, below_set3 hb (by omega)⟩

theorem few_any (d : Nat) (hd : d ≤ 1000) : FewC d := by
  induction d with
  | zero => exact few_step 0 hd (fun d' e => by omega)
  | succ d ih => exact few_step (d + 1) hd (fun d' e => by
      obtain rfl : d = d' := Nat.succ.inj e
      exact ih (by omega))
end Go.Proofs.Ytkkddnmpehoeoaa
