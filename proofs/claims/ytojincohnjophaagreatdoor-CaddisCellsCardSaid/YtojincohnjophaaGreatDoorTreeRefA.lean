/- The walks of layer 20's reference, lists of cells: Get, Without, Range, With, Same. -/
import Derived.Test.YtojincohnjophaaGreatDoorTreeChkW
import Derived.Test.YtojincohnjophaaGreatDoorTreeFind
import Derived.Deep.Cut
import Derived.Test.YtojincohnjophaaGreatDoorTreeMem
/-! The walk of layer 20's check, a knot. -/
namespace Go.Proofs.YtojincohnjophaaGreatDoor
open Go.RowKit
open TreeP (Kt Cell kl flat flatL WS)
set_option linter.unusedVariables false
attribute [local go_sem ↓] Go.wp_at_zero Go.wp_at_succ

theorem WalkR.under {w w' : World} {b : Nat} {e : Ending} {r : Option WS} {o : Obj} (h : WalkR (w.alloc o) w' b e r) : WalkR w w' b e r :=
  ⟨h.1, h.2.1, h.2.2.1, (World.grownBy_alloc w o (some b)).trans h.2.2.2⟩
theorem BoxK.grown {w w' : World} {b k : Nat} {v1 v2 v3 : Value} (h : BoxK w k v1 v2 v3) (hg : w.grownBy w' (some b)) (hne : k ≠ b) : BoxK w' k v1 v2 v3 := by
  unfold BoxK at *
  rw [hg.block k (Array.getElem?_eq_some_iff.1 h).1 (by simpa using hne)]; exact h

/-- what is still to be looked at of a knot's kids comes to R -/
def KidsGo (d : Nat) (keys : List ByteArray) (kids : List Kt) (k : Nat) (ws : WS) (R : Option WS) : Prop :=
  R = if k = 0 then TreeP.kidsW d true keys ws kids else TreeP.kidsW d false (keys.drop (k - 1)) ws (kids.drop k)
theorem kidsGo_zero {d : Nat} {keys : List ByteArray} {kids : List Kt} {ws : WS} {R : Option WS} (h : R = TreeP.kidsW d true keys ws kids) : KidsGo d keys kids 0 ws R := by simpa [KidsGo] using h
theorem kidsGo_end {d : Nat} {keys : List ByteArray} {kids : List Kt} {k : Nat} {ws : WS} {R : Option WS} (h : KidsGo d keys kids k ws R) (hk : k = kids.length) (h0 : k ≠ 0) : R = some ws := by
  unfold KidsGo at h
  rw [if_neg h0, hk, List.drop_length] at h
  simpa [TreeP.kidsW] using h
/-- the first kid -/
theorem kidsGo_first {d : Nat} {keys : List ByteArray} {kids : List Kt} {ws : WS} {R : Option WS} {x : Kt} (h : KidsGo d keys kids 0 ws R) (hx : kids[0]? = some x) :
    (TreeP.knotW d ws x = none → R = none) ∧ ∀ w1, TreeP.knotW d ws x = some w1 → KidsGo d keys kids 1 w1 R := by
  unfold KidsGo at *
  cases kids with
  | nil => simp at hx
  | cons a l =>
    simp only [List.getElem?_cons_zero, Option.some.injEq] at hx
    subst hx
    rw [if_pos rfl, TreeP.kidsW_true] at h
    constructor
    · intro e; rw [e] at h; exact h
    · intro w1 e; rw [e] at h; simpa using h
/-- a kid behind the first one -/
theorem kidsGo_next {d : Nat} {keys : List ByteArray} {kids : List Kt} {k : Nat} {ws : WS} {R : Option WS} {x : Kt} {y : ByteArray} (h : KidsGo d keys kids k ws R) (h0 : k ≠ 0) (hx : kids[k]? = some x) (hy : keys[k - 1]? = some y) :
    (kl ws.last y = false → R = none) ∧ (kl ws.last y = true → (TreeP.knotW d { ws with floor := y } x = none → R = none) ∧ ∀ w1, TreeP.knotW d { ws with floor := y } x = some w1 → KidsGo d keys kids (k + 1) w1 R) := by
  unfold KidsGo at *
  rw [if_neg h0, drop_cons hx, drop_cons hy, show k - 1 + 1 = k by omega, TreeP.kidsW_false] at h
  constructor
  · intro e; rw [e] at h; simpa using h
  · intro e
    rw [if_pos e, TreeP.kidsW_true] at h
    constructor
    · intro e; rw [e] at h; exact h
    · intro w1 e; rw [e] at h; rw [if_neg (by omega), show k + 1 - 1 = k by omega]; exact h

theorem leafW_level {cells : List Cell} {keys : List ByteArray} {d : Nat} {ws ws' : WS} (h : TreeP.leafW cells keys d ws = some ws') : ws'.level = d := by
  unfold TreeP.leafW at h
  split at h
  · cases h
  · split at h
    · cases h
    · have : ∀ (l : List Cell) (a b : WS), TreeP.cellsW l a = some b → b.level = a.level := by
        intro l
        induction l with
        | nil => intro a b h; simp only [TreeP.cellsW, Option.some.injEq] at h; rw [h]
        | cons c l ih =>
          intro a b h
          rw [TreeP.cellsW] at h
          split at h
          · exact (ih _ _ h).trans rfl
          · cases h
      exact this _ _ _ h
theorem knotW_level (t : Kt) : ∀ {d : Nat} {ws ws' : WS}, TreeP.knotW d ws t = some ws' → d ≤ 64 → ws'.level ≤ 64 := by
  refine TreeP.ind (P := fun t => ∀ {d : Nat} {ws ws' : WS}, TreeP.knotW d ws t = some ws' → d ≤ 64 → ws'.level ≤ 64) ?_ t
  intro cells keys kids ih d ws ws' h hd
  rw [TreeP.knotW] at h
  split at h
  · rw [leafW_level h]; exact hd
  · rename_i hne
    split at h
    · cases h
    · have key : ∀ (l : List Kt), (∀ k ∈ l, ∀ {d : Nat} {ws ws' : WS}, TreeP.knotW d ws k = some ws' → d ≤ 64 → ws'.level ≤ 64) → ∀ (ks : List ByteArray) (first : Bool) (a : WS), TreeP.kidsW (d + 1) first ks a l = some ws' → (l = [] → a.level ≤ 64) → ws'.level ≤ 64 := by
        intro l
        induction l with
        | nil => intro _ ks first a h h0; rw [TreeP.kidsW] at h; injection h with h; rw [← h]; exact h0 rfl
        | cons x l ihl =>
          intro hl ks first a h _
          have one : ∀ (a : WS), TreeP.kidsW (d + 1) true ks a (x :: l) = some ws' → ws'.level ≤ 64 := by
            intro a h
            rw [TreeP.kidsW_true] at h
            split at h
            · cases h
            · rename_i w1 e
              exact ihl (fun k hk => hl k (List.mem_cons_of_mem _ hk)) _ _ _ h fun _ => hl x List.mem_cons_self e (by omega)
          cases first with
          | true => exact one a h
          | false =>
            cases ks with
            | nil => rw [TreeP.kidsW] at h; cases h
            | cons k ks =>
              rw [TreeP.kidsW_false] at h
              split at h
              · rw [TreeP.kidsW_true] at h
                split at h
                · cases h
                · rename_i w1 e
                  exact ihl (fun k hk => hl k (List.mem_cons_of_mem _ hk)) _ _ _ h fun _ => hl x List.mem_cons_self e (by omega)
              · cases h
      exact key kids ih _ _ _ h fun e => absurd (by rw [e]; rfl) hne

set_option maxRecDepth 100000 in
set_option maxHeartbeats 1600000 in
theorem knot_any (t : Kt) : ∀ (b : Nat) (ws : WS) (v1 v2 v3 : Value) (d : Nat) (V : Nat → Prop) (w : World), BoxW w b ws → Kn w V 9223372036854775807 v1 v2 v3 t → (∀ k, V k → k ≠ b) → d ≤ 64 → ws.level ≤ 64 →
    Calls Tryz.prog 41 #[.pointer (some ⟨b, 0, none⟩), .agg #[v1, v2, v3], .int .i64 d] w fun e w' => WalkR w w' b e (TreeP.knotW d ws t) := by
  refine TreeP.ind (P := fun t => ∀ (b : Nat) (ws : WS) (v1 v2 v3 : Value) (d : Nat) (V : Nat → Prop) (w : World), BoxW w b ws → Kn w V 9223372036854775807 v1 v2 v3 t → (∀ k, V k → k ≠ b) → d ≤ 64 → ws.level ≤ 64 →
    Calls Tryz.prog 41 #[.pointer (some ⟨b, 0, none⟩), .agg #[v1, v2, v3], .int .i64 d] w fun e w' => WalkR w w' b e (TreeP.knotW d ws t)) ?_ t
  intro cells keys kids ih b ws v1 v2 v3 d V w hB hkn hVb hd hlv
  obtain ⟨R, hR⟩ : ∃ R, R = TreeP.knotW d ws (.mk cells keys kids) := ⟨_, rfl⟩
  rw [← hR]
  rw [TreeP.knotW] at hR
  have hkn0 := hkn
  obtain ⟨⟨A1, c1, rfl, g1, _, s1⟩, ⟨A2, c2, rfl, g2, _, s2⟩, A3, c3, vals, rfl, g3, g3', s3, k3⟩ := kn_mk.1 hkn
  obtain ⟨n, hn⟩ : ∃ n, n = cells.length := ⟨_, rfl⟩
  obtain ⟨nk, hnk⟩ : ∃ nk, nk = keys.length := ⟨_, rfl⟩
  obtain ⟨nd, hnd⟩ : ∃ nd, nd = kids.length := ⟨_, rfl⟩
  rw [← hn] at s1 g1 hR hkn0 ⊢
  rw [← hnk] at s2 g2 hR hkn0 ⊢
  rw [← hnd] at s3 g3 g3' hR hkn0 ⊢
  have hblt := hB.lt
  have hB1 := hB.up (.cells #[.slice A1 n c1, .slice A2 nk c2, .slice A3 nd c3] 29)
  have hg1 := World.grownBy_alloc w (.cells #[.slice A1 n c1, .slice A2 nk c2, .slice A3 nd c3] 29) (some b)
  have kB1 : BoxK (w.alloc (.cells #[.slice A1 n c1, .slice A2 nk c2, .slice A3 nd c3] 29)) w.heap.size (.slice A1 n c1) (.slice A2 nk c2) (.slice A3 nd c3) := blk_top rfl
  have hne : w.heap.size ≠ b := by omega
  have kn1 := gkn hkn0 hg1 hVb
  have s2' := gsl s2 hg1 hVb
  have s3' := gsl s3 hg1 hVb
  have k3' : KnL (w.alloc (.cells #[.slice A1 n c1, .slice A2 nk c2, .slice A3 nd c3] 29)) V 9223372036854775807 vals kids := knL_keep (Nat.le_refl _) hg1.size (fun k hk hlt => hg1.block k hlt (by simpa using hVb k hk)) (fun k hk _ => hk) k3
  obtain ⟨l1, l2, l3⟩ := kB1.cell
  clear hkn s1 s2 s3 k3 hkn0
  have HB1 := hide hB1
  have HG1 := hide hg1
  by_cases h0 : nd = 0
  · have e0 : kids.isEmpty = true := by rw [List.isEmpty_iff]; exact List.eq_nil_of_length_eq_zero (by omega)
    rw [if_pos e0] at hR
    have d0 : ((nd : Int) == 0) = true := by simp [h0]
    have KN := hide kn1
    have HR := hide hR
    clear hR kn1 s2' s3' k3' h0 e0 hB hB1 hg1 hn hnk hnd
    go_enter Tryz.func41, Tryz.ntmps41
    go_wp2_with fail
    refine (leaf_any b ws _ _ _ cells keys kids d V _ HB1.out KN.out hVb (by omega) (by omega)).mono ?_
    rintro e w' ⟨rfl, q2, q3, q4⟩
    go_wp2_with fail
    go_ret
    rw [HR.out]
    exact WalkR.under ⟨rfl, q2, q3, q4⟩
  · have e0 : kids.isEmpty = false := by
      cases kids with
      | nil => exact absurd hnd h0
      | cons a l => rfl
    rw [e0] at hR
    simp only [Bool.false_eq_true, if_false] at hR
    have d0 : ((nd : Int) == 0) = false := by simp [h0]
    by_cases h1 : 64 ≤ d ∨ n ≠ 0 ∨ nd < 2 ∨ 4 < nd ∨ nk + 1 ≠ nd
    · rw [if_pos h1] at hR
      subst hR
      clear hn hnk hnd hB hB1 hg1 kn1 s2' s3' k3' ih e0 kB1
      have done : ∀ e w', e = .returned (.bool false) → w' = w.alloc (.cells #[.slice A1 n c1, .slice A2 nk c2, .slice A3 nd c3] 29) → WalkR w w' b e none := by
        rintro e w' rfl rfl
        exact ⟨rfl, fun _ h => (by cases h), ⟨_, HB1.out⟩, HG1.out⟩
      by_cases q1 : 64 ≤ d
      · have d1 : decide ((64 : Int) ≤ (d : Int)) = true := by simp; omega
        clear h1
        go_enter Tryz.func41, Tryz.ntmps41
        go_wp2_with fail
        go_ret
        exact done _ _ rfl rfl
      · have d1 : decide ((64 : Int) ≤ (d : Int)) = false := by simp; omega
        by_cases q2 : n = 0
        · subst q2
          by_cases q3 : nd < 2
          · have d3 : decide ((nd : Int) < 2) = true := by simp; omega
            clear h1
            go_enter Tryz.func41, Tryz.ntmps41
            go_wp2_with fail
            go_ret
            exact done _ _ rfl rfl
          · have d3 : decide ((nd : Int) < 2) = false := by simp; omega
            by_cases q4 : 4 < nd
            · have d4 : decide ((4 : Int) < (nd : Int)) = true := by simp; omega
              clear h1
              go_enter Tryz.func41, Tryz.ntmps41
              go_wp2_with fail
              go_ret
              exact done _ _ rfl rfl
            · have d4 : decide ((4 : Int) < (nd : Int)) = false := by simp; omega
              have q5 : nk + 1 ≠ nd := by omega
              have d5 : ((nk : Int) != (nd : Int) - 1) = true := by simp; omega
              have d6 : IntKind.i64.wrap ((nd : Int) - 1) = (nd : Int) - 1 := IntWalk.i64_in _ (by omega)
              clear h1 q5
              go_enter Tryz.func41, Tryz.ntmps41
              go_wp2_with fail
              go_ret
              exact done _ _ rfl rfl
        · have d2 : ((n : Int) != 0) = true := by simp [q2]
          clear h1
          go_enter Tryz.func41, Tryz.ntmps41
          go_wp2_with fail
          go_ret
          exact done _ _ rfl rfl
    · rw [if_neg h1] at hR
      have d1 : decide ((64 : Int) ≤ (d : Int)) = false := by simp; omega
      obtain rfl : n = 0 := by omega
      have d3 : decide ((nd : Int) < 2) = false := by simp; omega
      have d4 : decide ((4 : Int) < (nd : Int)) = false := by simp; omega
      have d5 : ((nk : Int) != (nd : Int) - 1) = false := by simp; omega
      have b5 : nd ≤ 4 := by omega
      have b6 : nk + 1 = nd := by omega
      have b7 : d < 64 := by omega
      have HR := hide hR
      have HNK := hide hnk
      have HND := hide hnd
      have IH := hide (fun k hk b ws v1 v2 v3 V w h1 h2 h3 h4 => ih k hk b ws v1 v2 v3 (d + 1) V w h1 h2 h3 (by omega) h4)
      clear hn hnk hnd hB hB1 hg1 kn1 ih hR h1
      have d7 : IntKind.i64.wrap ((d : Int) + 1) = (d : Int) + 1 := IntWalk.i64_in _ (by omega)
      have d6 : IntKind.i64.wrap ((nd : Int) - 1) = (nd : Int) - 1 := IntWalk.i64_in _ (by omega)
      go_enter Tryz.func41, Tryz.ntmps41
      go_wp2_with fail
      go_loopw [7, 8, 48] (fun x y i wr => ∃ (k : Nat) (wsk : WS), k ≤ nd ∧ i = .int .i64 k ∧ BoxW wr b wsk ∧ wsk.level ≤ 64 ∧ KidsGo (d + 1) keys kids k wsk R ∧ (w.alloc (.cells #[.slice A1 0 c1, .slice A2 nk c2, .slice A3 nd c3] 29)).grownBy wr (some b)) (fun _ _ i _ => nd - (intOf i).toNat)
      case atStart => exact ⟨0, ws, Nat.zero_le _, rfl, HB1.out, hlv, kidsGo_zero HR.out, World.grownBy.refl _ _⟩
      case round =>
        obtain ⟨k, wsk, hk, rfl, hBk, hlk, hgo, hgk⟩ := hrel
        by_cases hlt : k < nd
        · obtain ⟨kid, hkid⟩ : ∃ kid, kids[k]? = some kid := ⟨_, List.getElem?_eq_getElem (by have := HND.out; omega)⟩
          have s3r := gsl s3' hgk hVb
          have k3r : KnL wr V 9223372036854775807 vals kids := knL_keep (Nat.le_refl _) hgk.size (fun k hk hlt => hgk.block k hlt (by simpa using hVb k hk)) (fun k hk _ => hk) k3'
          obtain ⟨ad, x1, x2, x3, e, f1, f2, f3, f4⟩ := kid_at s3r k3r hkid
          subst e
          obtain ⟨B1, o1, t1, B2, o2, t2, B3, o3, t3, rfl, rfl, rfl⟩ := kn_shape f4
          have kBr := kB1.grown hgk hne
          have kBa : BoxK (wr.alloc (.cells #[.slice B1 o1 t1, .slice B2 o2 t2, .slice B3 o3 t3] 29)) w.heap.size (.slice A1 0 c1) (.slice A2 nk c2) (.slice (some ad) nd c3) := blk_under kBr
          have hBa := hBk.up (.cells #[.slice B1 o1 t1, .slice B2 o2 t2, .slice B3 o3 t3] 29)
          have hga := gall hgk (.cells #[.slice B1 o1 t1, .slice B2 o2 t2, .slice B3 o3 t3] 29)
          have hg0 := World.grownBy_alloc wr (.cells #[.slice B1 o1 t1, .slice B2 o2 t2, .slice B3 o3 t3] 29) (some b)
          have knr := gkn f4 hg0 hVb
          have s2r := gsl s2' hga hVb
          have kBn : BoxK (wr.alloc (.cells #[.slice B1 o1 t1, .slice B2 o2 t2, .slice B3 o3 t3] 29)) wr.heap.size (.slice B1 o1 t1) (.slice B2 o2 t2) (.slice B3 o3 t3) := blk_top rfl
          obtain ⟨l1, l2, l3⟩ := kBr.cell
          obtain ⟨l4, l5, l6⟩ := kBa.cell
          obtain ⟨l7, l8, l9⟩ := kBn.cell
          obtain ⟨m1, m2, m3, m4⟩ := hBa.cell
          have m5 := hBa.frozen 3
          have hner : wr.heap.size ≠ b := by have := hBk.lt; omega
          have HGO := hide hgo
          have HK := hide hkid
          have HBA := hide hBa
          have HGA := hide hga
          have KNR := hide knr
          have hkm : kid ∈ kids := List.mem_of_getElem? hkid
          have b1 : (0 : Int) ≤ (k : Int) := by omega
          have b2 : (k : Int) < (nd : Int) := by omega
          have HBN := hide kBn
          clear hgo hkid hBa hga knr hBk hgk kBr kBa s3r k3r kBn hg0 f4
          by_cases hk0 : k = 0
          · have e1 : decide ((0 : Int) < (k : Int)) = false := by simp; omega
            have e1' : ¬ 0 < k := by omega
            have GF : Hid ((TreeP.knotW (d + 1) wsk kid = none → R = none) ∧ ∀ w1, TreeP.knotW (d + 1) wsk kid = some w1 → KidsGo (d + 1) keys kids (k + 1) w1 R) := by
              have h1 := HGO.out
              have h2 := HK.out
              rw [hk0] at h1 h2 ⊢
              exact hide (kidsGo_first h1 h2)
            clear hk0
            go_wp2_with fail
            refine (IH.out kid hkm b wsk _ _ _ V _ HBA.out KNR.out hVb hlk).mono ?_
            rintro e w2 ⟨rfl, q2, q3, q4⟩
            have hg2 := (HGA.out).trans q4
            have HG2 := hide hg2
            cases hkw : TreeP.knotW (d + 1) wsk kid with
            | none =>
              have hRn := GF.out.1 hkw
              rw [hkw] at q2
              obtain ⟨wsz, q3⟩ := q3
              have Q3 := hide q3
              have HRN := hide hRn
              clear q2 q3 q4 hg2 hkw hRn
              go_wp2_with fail
              go_ret
              rw [HRN.out]
              exact WalkR.under ⟨rfl, fun _ h => (by cases h), ⟨_, Q3.out⟩, HG2.out⟩
            | some w1 =>
              have hnx := GF.out.2 w1 hkw
              have hl1 := knotW_level kid hkw (by omega)
              have hb1 := q2 w1 hkw
              have HNX := hide hnx
              have HBX := hide hb1
              clear q2 q3 q4 hg2 hkw hnx hb1
              go_wp2_with fail
              go_roundw
              case rel => exact ⟨k + 1, w1, by omega, by go_num, HBX.out, hl1, HNX.out, HG2.out⟩
              case measure => simp [intOf]; omega
          · obtain ⟨p, hp⟩ : ∃ p, p = k - 1 := ⟨_, rfl⟩
            obtain ⟨y, hy⟩ : ∃ y, keys[p]? = some y := ⟨_, List.getElem?_eq_getElem (by have := HNK.out; omega)⟩
            obtain ⟨ay, hay, hky⟩ := sl_get s2r (k := p) (u := .string y) (by rw [strs, List.getElem?_map, hy]; rfl)
            subst hay
            have hyk : keys[k - 1]? = some y := by rw [← hp]; exact hy
            have NX := hide (kidsGo_next HGO.out hk0 HK.out hyk)
            have hfl := HBA.out.floor y
            have e1 : decide ((0 : Int) < (k : Int)) = true := by simp; omega
            have e1' : 0 < k := by omega
            have e2 : (0 : Int) ≤ (k : Int) - 1 := by omega
            have e3 : (k : Int) - 1 < (nk : Int) := by omega
            have e4 : IntKind.i64.wrap ((k : Int) - 1) = (k : Int) - 1 := IntWalk.i64_in _ (by omega)
            have e5 : ((k : Int) - 1).toNat = p := by omega
            have e6 : (1 : Int) ≤ (k : Int) := by omega
            have e7 : (k : Int) - 1 = (p : Int) := by omega
            have HFL := hide hfl
            have HP := hide hp
            have S2R := hide s2r
            clear hy hyk hp hfl s2r e7
            cases hls : kl wsk.last y with
            | false =>
              have hle : (Op.bytesLess y.toList wsk.last.toList || y.toList == wsk.last.toList) = true := by rw [leq_kl, hls]; rfl
              have hRn := NX.out.1 hls
              have HRN := hide hRn
              clear hRn hls
              go_wp2_with fail
              go_quiet (fail)
              go_wp2_with fail
              go_ret
              rw [HRN.out]
              exact WalkR.under ⟨rfl, fun _ h => (by cases h), ⟨_, HBA.out⟩, gdrew HGA.out _⟩
            | true =>
              have hle : (Op.bytesLess y.toList wsk.last.toList || y.toList == wsk.last.toList) = false := by rw [leq_kl, hls]; rfl
              have G1 := hide ((NX.out.2 hls).1)
              have G2 := hide ((NX.out.2 hls).2)
              clear hls
              go_wp2_with fail
              go_quiet (fail)
              go_wp2_with fail
              refine (IH.out kid hkm b { wsk with floor := y } _ _ _ V _ ?_ ?_ hVb hlk).mono ?_
              · exact HFL.out
              · first
                | exact gkn KNR.out (gset (gdrew (World.grownBy.refl _ _) _)) hVb
                | exact gkn KNR.out (gdrew (gset (World.grownBy.refl _ _)) _) hVb
                | exact gkn KNR.out (gset (World.grownBy.refl _ _)) hVb
              rintro e w2 ⟨rfl, q2, q3, q4⟩
              have hg2 : (w.alloc (.cells #[.slice A1 0 c1, .slice (some ay) nk c2, .slice (some ad) nd c3] 29)).grownBy w2 (some b) := by
                first
                | exact (gset (gdrew HGA.out _)).trans q4
                | exact (gdrew (gset HGA.out) _).trans q4
                | exact (gset HGA.out).trans q4
              have HG2 := hide hg2
              cases hkw : TreeP.knotW (d + 1) { wsk with floor := y } kid with
              | none =>
                have hRn := G1.out hkw
                obtain ⟨wsz, q3⟩ := q3
                have Q3 := hide q3
                have HRN := hide hRn
                clear q2 q3 q4 hg2 hkw hRn
                go_wp2_with fail
                go_ret
                rw [HRN.out]
                exact WalkR.under ⟨rfl, fun _ h => (by cases h), ⟨_, Q3.out⟩, HG2.out⟩
              | some w1 =>
                have hnx := G2.out w1 hkw
                have hl1 := knotW_level kid hkw (by omega)
                have hb1 := q2 w1 hkw
                have HNX := hide hnx
                have HBX := hide hb1
                clear q2 q3 q4 hg2 hkw hnx hb1
                go_wp2_with fail
                go_roundw
                case rel => exact ⟨k + 1, w1, by omega, by go_num, HBX.out, hl1, HNX.out, HG2.out⟩
                case measure => simp [intOf]; omega
        · obtain rfl : k = nd := by omega
          have hend := kidsGo_end hgo HND.out (by omega)
          have HE := hide hend
          clear hend hgo
          go_wp2_with fail
          go_ret
          rw [HE.out]
          exact WalkR.under ⟨rfl, fun ws h => (by injection h with h; rw [← h]; exact hBk), ⟨_, hBk⟩, hgk⟩
end Go.Proofs.YtojincohnjophaaGreatDoor

/-! The walks of layer 20's Check and Get. -/
namespace Go.Proofs.YtojincohnjophaaGreatDoor
open Go.RowKit
open TreeP (Kt Cell kl flat flatL WS Inv InB)
set_option linter.unusedVariables false
attribute [local go_sem ↓] Go.wp_at_zero Go.wp_at_succ

/-- Check's answer -/
def chkP (t : Kt) : Int := if (TreeP.knotW 1 TreeP.ws0 t).isSome then 0 else 1

set_option maxRecDepth 100000 in
set_option maxHeartbeats 800000 in
theorem check_any (t : Kt) (v1 v2 v3 : Value) (w : World) (hkn : Kn w (fun _ => True) 9223372036854775807 v1 v2 v3 t) :
    Calls Tryz.prog 20 #[.agg #[v1, v2, v3]] w fun e w' => e = .returned (.int .i64 (chkP t)) ∧ Below w.heap.size w w' := by
  obtain ⟨A1, n1, c1, A2, n2, c2, A3, n3, c3, rfl, rfl, rfl⟩ := kn_shape hkn
  have hkn' : Kn w (fun k => k < w.heap.size) 9223372036854775807 (.slice A1 n1 c1) (.slice A2 n2 c2) (.slice A3 n3 c3) t := kn_keep (Nat.le_refl _) (Nat.le_refl _) (fun b _ _ => rfl) (fun b _ hlt => hlt) hkn
  have hbA := ((Below.refl w.heap.size w).alloc (Nat.le_refl _) (.cells #[.slice A1 n1 c1, .slice A2 n2 c2, .slice A3 n3 c3] 29)).alloc (by simp) (.cells #[.int .i64 0, .bool false, .string .empty, .string .empty] 115)
  have hknA := hkn'.below hbA
  have hB : BoxW ((w.alloc (.cells #[.slice A1 n1 c1, .slice A2 n2 c2, .slice A3 n3 c3] 29)).alloc (.cells #[.int .i64 0, .bool false, .string .empty, .string .empty] 115)) (w.heap.size + 1) TreeP.ws0 := by
    exact blk_top (by simp)
  have HB := hide hB
  have HK := hide hknA
  have HA := hide hbA
  clear hkn hkn' hbA hknA hB
  go_enter Tryz.func20, Tryz.ntmps20
  go_wp2_with fail
  refine (knot_any t (w.heap.size + 1) TreeP.ws0 _ _ _ 1 (fun k => k < w.heap.size) _ ?_ ?_ (fun k hk => by omega) (by omega) (by simp [TreeP.ws0])).mono ?_
  · exact HB.out
  · exact HK.out
  rintro e w' ⟨rfl, q2, q3, q4⟩
  have hb := HA.out.grown q4 (by simp; omega) (by intro k hk; injection hk with hk; omega)
  have HBB := hide hb
  clear q2 q3 q4 hb
  cases hkw : (TreeP.knotW 1 TreeP.ws0 t).isSome with
  | false =>
    have hc : chkP t = 1 := by unfold chkP; rw [hkw]; rfl
    clear hkw
    go_wp2_with fail
    go_ret
    exact ⟨by rw [hc]; rfl, HBB.out⟩
  | true =>
    have hc : chkP t = 0 := by unfold chkP; rw [hkw]; rfl
    clear hkw
    go_wp2_with fail
    go_ret
    exact ⟨by rw [hc]; rfl, HBB.out⟩

theorem chkP_ok {t : Kt} : chkP t = 0 ↔ ∃ h, Inv 0 2 h none none t ∧ h ≤ 64 := by
  rw [← TreeP.check_iff]
  unfold chkP
  split <;> simp_all
theorem chkP_no {t : Kt} (h : chkP t ≠ 0) : chkP t = 1 := by
  unfold chkP at *
  split <;> simp_all

end Go.Proofs.YtojincohnjophaaGreatDoor

/-! The walk of layer 20's Depth. -/
namespace Go.Proofs.YtojincohnjophaaGreatDoor
open Go.RowKit
open TreeP (Kt Cell kl flat flatL WS Inv InvL InB)
set_option linter.unusedVariables false
attribute [local go_sem ↓] Go.wp_at_zero Go.wp_at_succ

end Go.Proofs.YtojincohnjophaaGreatDoor

/-! The walk of layer 20's del. -/
namespace Go.Proofs.YtojincohnjophaaGreatDoor
open Go.RowKit
open TreeP (Kt Cell kl flat flatL Inv InvL InB)
set_option linter.unusedVariables false
attribute [local go_sem ↓] Go.wp_at_zero Go.wp_at_succ

theorem heap_set3 {w : World} {b k : Nat} {u1 u2 u3 : Value} (hne : k ≠ b) : (((w.setCell ⟨b, 0, none⟩ u1).setCell ⟨b, 1, none⟩ u2).setCell ⟨b, 2, none⟩ u3).heap[k]? = w.heap[k]? := by
  simp only [World.setCell, Array.getElem?_modify]
  simp only [if_neg (Ne.symm hne)]
theorem size_set3 {w : World} {b : Nat} {u1 u2 u3 : Value} : (((w.setCell ⟨b, 0, none⟩ u1).setCell ⟨b, 1, none⟩ u2).setCell ⟨b, 2, none⟩ u3).heap.size = w.heap.size := by simp [World.setCell]
/-- one store after another into a block of one's own -/
theorem below_set3 {B : Nat} {w0 w : World} {b : Nat} {u1 u2 u3 : Value} (h : Below B w0 w) (hb : B ≤ b) : Below B w0 (((w.setCell ⟨b, 0, none⟩ u1).setCell ⟨b, 1, none⟩ u2).setCell ⟨b, 2, none⟩ u3) :=
  ((h.setCell hb _).setCell hb _).setCell hb _

end Go.Proofs.YtojincohnjophaaGreatDoor

/-! The walk of layer 20's del, an inner knot. -/
namespace Go.Proofs.YtojincohnjophaaGreatDoor
open Go.RowKit
open TreeP (Kt Cell kl flat flatL Inv InvL InB)
set_option linter.unusedVariables false
attribute [local go_sem ↓] Go.wp_at_zero Go.wp_at_succ

theorem kn_set3 {w : World} {V : Nat → Prop} {B b : Nat} {a1 a2 a3 u1 u2 u3 : Value} {t : Kt} (h : Kn w V B a1 a2 a3 t) (hne : ∀ k, V k → k ≠ b) : Kn (((w.setCell ⟨b, 0, none⟩ u1).setCell ⟨b, 1, none⟩ u2).setCell ⟨b, 2, none⟩ u3) V B a1 a2 a3 t :=
  kn_keep (Nat.le_refl _) (by rw [size_set3]; exact Nat.le_refl _) (fun k hk _ => heap_set3 (hne k hk)) (fun k hk _ => hk) h
theorem knL_set3 {w : World} {V : Nat → Prop} {B b : Nat} {u1 u2 u3 : Value} {vals : List Value} {l : List Kt} (h : KnL w V B vals l) (hne : ∀ k, V k → k ≠ b) : KnL (((w.setCell ⟨b, 0, none⟩ u1).setCell ⟨b, 1, none⟩ u2).setCell ⟨b, 2, none⟩ u3) V B vals l :=
  knL_keep (Nat.le_refl _) (by rw [size_set3]; exact Nat.le_refl _) (fun k hk _ => heap_set3 (hne k hk)) (fun k hk _ => hk) h
theorem sl_set3 {w : World} {V : Nat → Prop} {size n b : Nat} {A : Option Addr} {xs : List Value} {u1 u2 u3 : Value} (h : Sl w V size A n xs) (hne : ∀ k, V k → k ≠ b) : Sl (((w.setCell ⟨b, 0, none⟩ u1).setCell ⟨b, 1, none⟩ u2).setCell ⟨b, 2, none⟩ u3) V size A n xs :=
  h.keep (by rw [size_set3]; exact Nat.le_refl _) (fun k hk _ => heap_set3 (hne k hk))
theorem BoxK.other {w : World} {b k : Nat} {v1 v2 v3 u1 u2 u3 : Value} (h : BoxK w k v1 v2 v3) (hne : k ≠ b) : BoxK (((w.setCell ⟨b, 0, none⟩ u1).setCell ⟨b, 1, none⟩ u2).setCell ⟨b, 2, none⟩ u3) k v1 v2 v3 := by
  unfold BoxK at *
  rw [heap_set3 hne]; exact h

end Go.Proofs.YtojincohnjophaaGreatDoor

/-! The walk of layer 20's Put. -/
namespace Go.Proofs.YtojincohnjophaaGreatDoor
open Go.RowKit
open TreeP (Kt Cell kl flat flatL WS Inv InvL InB)
set_option linter.unusedVariables false
attribute [local go_sem ↓] Go.wp_at_zero Go.wp_at_succ

def putR (c : Cell) (t : Kt) : Kt := if chkP t = 0 then TreeP.putT c t else .mk [] [] []
/-- a knot and an errno -/
def PairR (w : World) (V : Nat → Prop) (e : Ending) (t : Kt) (n : Int) : Prop := ∃ x1 x2 x3, e = .returned (.tuple #[.agg #[x1, x2, x3], .int .i64 n]) ∧ Kn w V 1000 x1 x2 x3 t
/-- blocks that were allowed, and new ones -/
def VV (w : World) (V : Nat → Prop) : Nat → Prop := fun b => (V b ∧ b < w.heap.size) ∨ w.heap.size ≤ b
theorem kn_none (w : World) {V : Nat → Prop} : Kn w V 1000 (.slice none 0 0) (.slice none 0 0) (.slice none 0 0) (.mk [] [] []) :=
  kn_of (slv_nil _ _) (slv_nil _ _) (slv_nil _ _) (by rw [KnL]) rfl (by omega) (by omega) (by omega)

set_option maxRecDepth 100000 in
set_option maxHeartbeats 1600000 in
theorem putw_any (c : Cell) (t : Kt) (v1 v2 v3 : Value) (w : World) (V0 : Nat → Prop) (hkn : Kn w V0 1000 v1 v2 v3 t) :
    Calls Tryz.prog 4 #[.agg #[v1, v2, v3], .string c.1, .string c.2] w fun e w' => PairR w' (VV w V0) e (putR c t) (chkP t) ∧ Below w.heap.size w w' := by
  obtain ⟨T, hT⟩ : ∃ T, T = putR c t := ⟨_, rfl⟩
  obtain ⟨E, hE⟩ : ∃ E, E = chkP t := ⟨_, rfl⟩
  rw [← hT, ← hE]
  have HT := hide hT
  have HE := hide hE
  clear hT hE
  obtain ⟨A1, n1, c1, A2, n2, c2, A3, n3, c3, rfl, rfl, rfl⟩ := kn_shape hkn
  obtain ⟨V', hV'⟩ : ∃ V' : Nat → Prop, V' = fun b => (V0 b ∧ b < w.heap.size) ∨ w.heap.size + 2 ≤ b := ⟨_, rfl⟩
  have hvv : ∀ b, V' b → VV w V0 b := fun b hb => by rw [hV'] at hb; exact hb.imp id fun h => by omega
  have HVV := hide hvv
  clear hvv
  have hup : ∀ b, w.heap.size + 2 ≤ b → V' b := fun b hb => by rw [hV']; exact .inr hb
  have hne1 : ∀ b, V' b → b ≠ w.heap.size + 1 := fun b hb => by rw [hV'] at hb; rcases hb with hb | hb <;> omega
  have hkn' : Kn w V' 1000 (.slice A1 n1 c1) (.slice A2 n2 c2) (.slice A3 n3 c3) t := kn_keep (Nat.le_refl _) (Nat.le_refl _) (fun b _ _ => rfl) (fun b hb hlt => by rw [hV']; exact .inl ⟨hb, hlt⟩) hkn
  clear hV' hkn
  have hbA := ((Below.refl w.heap.size w).alloc (Nat.le_refl _) (.cells #[.slice A1 n1 c1, .slice A2 n2 c2, .slice A3 n3 c3] 29)).alloc (by simp) (.cells #[.slice none 0 0, .slice none 0 0, .slice none 0 0] 29)
  have kb0 : BoxK ((w.alloc (.cells #[.slice A1 n1 c1, .slice A2 n2 c2, .slice A3 n3 c3] 29)).alloc (.cells #[.slice none 0 0, .slice none 0 0, .slice none 0 0] 29)) w.heap.size (.slice A1 n1 c1) (.slice A2 n2 c2) (.slice A3 n3 c3) := blk_under (blk_top rfl)
  have kb1 : BoxK ((w.alloc (.cells #[.slice A1 n1 c1, .slice A2 n2 c2, .slice A3 n3 c3] 29)).alloc (.cells #[.slice none 0 0, .slice none 0 0, .slice none 0 0] 29)) (w.heap.size + 1) (.slice none 0 0) (.slice none 0 0) (.slice none 0 0) := blk_top (by simp)
  have hsz : w.heap.size + 2 ≤ ((w.alloc (.cells #[.slice A1 n1 c1, .slice A2 n2 c2, .slice A3 n3 c3] 29)).alloc (.cells #[.slice none 0 0, .slice none 0 0, .slice none 0 0] 29)).heap.size := by simp
  have hknA := hkn'.below hbA
  clear hkn'
  go_enter Tryz.func4, Tryz.ntmps4
  go_wp2_with fail
  generalize (w.alloc (.cells #[.slice A1 n1 c1, .slice A2 n2 c2, .slice A3 n3 c3] 29)).alloc (.cells #[.slice none 0 0, .slice none 0 0, .slice none 0 0] 29) = wA at *
  refine (check_any t _ _ _ _ ?_).mono ?_
  · exact kn_keep (by omega) (Nat.le_refl _) (fun _ _ _ => rfl) (fun b h _ => trivial) hknA
  rintro e w1 ⟨rfl, hb1⟩
  have k0 := kb0.below hb1
  have k1 := kb1.below hb1
  have hkn1 := hknA.below hb1
  have hsz1 : w.heap.size + 2 ≤ w1.heap.size := Nat.le_trans hsz hb1.size
  have hbB := hbA.trans (hb1.mono hbA.size)
  obtain ⟨q1, q2, q3⟩ := k0.cell
  obtain ⟨q4, q5, q6⟩ := k1.cell
  have r1 := k1.frozen 0
  have r2 := k1.frozen 1
  have r3 := k1.frozen 2
  have HK := hide hkn1
  have HUP := hide hup
  have HNE := hide hne1
  clear hbA kb0 kb1 hsz hknA hb1 hkn1 hup hne1
  by_cases hc : chkP t = 0
  · obtain ⟨h, H, _⟩ := chkP_ok.1 hc
    have hT : T = TreeP.putT c t := by rw [HT.out, putR, if_pos hc]
    have hpo := (TreeP.put_ok (c := c) (by omega) H (TreeP.inB_none _)).1
    have hpt := tput_any c t 0 2 h none none _ _ _ w1 V' (fun b hb => HUP.out b (by omega)) (by omega) H (TreeP.inB_none _) HK.out
    rw [hc]
    have hE : E = 0 := HE.out.trans hc
    subst hE
    have HPT := hide hpt
    have HPO := hide hpo
    have HT2 := hide hT
    clear hc HT HE H hT hpo hpt
    go_wp2_with fail
    refine HPT.out.mono ?_
    rintro e w2 ⟨⟨x, y, us, rfl, s1, s2, s3⟩, hb2⟩
    have hpo := HPO.out
    have hT := HT2.out
    unfold TreeP.putT at hT
    unfold TreeP.PutOk at hpo
    generalize (TreeP.putP c t).1 = ks at *
    generalize (TreeP.putP c t).2 = kys at *
    obtain ⟨AX, cX, rfl, gX, sX⟩ := s1
    obtain ⟨AY, cY, rfl, gY, sY⟩ := s3
    have k12 := k1.below hb2
    have hbC := hbB.trans (hb2.mono hbB.size)
    obtain ⟨p4, p5, p6⟩ := k12.cell
    have p7 := k12.frozen 0
    have p8 := k12.frozen 1
    have p9 := k12.frozen 2
    clear HPT HPO HT2 q1 q2 q3 q4 q5 q6 r1 r2 r3
    rcases hpo with ⟨k, e1, e2, h3⟩ | ⟨e1, h3⟩
    · subst e1 e2
      obtain rfl : T = k := hT
      simp only [List.length_singleton, List.length_nil] at *
      obtain ⟨ad, x1, x2, x3, e, f1, f2, f3, f4⟩ := kid_at sX s2 (i := 0) (k := T) rfl
      subst e
      have ea : ad.add (0 * 3) = ad := by cases ad; simp [Addr.add]
      rw [ea] at f1 f2 f3
      obtain ⟨B1, o1, t1, B2, o2, t2, B3, o3, t3, rfl, rfl, rfl⟩ := kn_shape f4
      have F4 := hide f4
      clear h3 s2 sX sY f4 ea
      go_wp2_with fail
      have kF := kn_set3 (b := w.heap.size + 1) (u1 := .slice B1 o1 t1) (u2 := .slice B2 o2 t2) (u3 := .slice B3 o3 t3) F4.out HNE.out
      obtain ⟨s1, s2, s3⟩ := (k12.set (u1 := .slice B1 o1 t1) (u2 := .slice B2 o2 t2) (u3 := .slice B3 o3 t3)).cell
      refine bodyPost_ret (v := .tuple #[.agg #[.slice B1 o1 t1, .slice B2 o2 t2, .slice B3 o3 t3], .int .i64 0]) (by simp [results, Tryz.results4, go_sem, s1, s2, s3]) rfl ⟨⟨_, _, _, rfl, kn_keep (Nat.le_refl _) (Nat.le_refl _) (fun _ _ _ => rfl) (fun b hb _ => HVV.out b hb) kF⟩, below_set3 hbC (by omega)⟩
    · match ks, e1 with
      | [k1', k2'], _ =>
        obtain rfl : T = .mk [] kys [k1', k2'] := hT
        have hl := TreeP.invL_len h3
        simp only [List.length_cons, List.length_nil] at *
        generalize hky : kys.length = nky at *
        clear h3
        go_wp2_with fail
        have kF := knL_set3 (b := w.heap.size + 1) (u1 := .slice none 0 0) (u2 := .slice AY nky cY) (u3 := .slice AX (0 + 1 + 1) cX) s2 HNE.out
        have sXF := sl_set3 (b := w.heap.size + 1) (u1 := .slice none 0 0) (u2 := .slice AY nky cY) (u3 := .slice AX (0 + 1 + 1) cX) sX HNE.out
        have sYF := sl_set3 (b := w.heap.size + 1) (u1 := .slice none 0 0) (u2 := .slice AY nky cY) (u3 := .slice AX (0 + 1 + 1) cX) sY HNE.out
        obtain ⟨s1, s2, s3⟩ := (k12.set (u1 := .slice none 0 0) (u2 := .slice AY nky cY) (u3 := .slice AX (0 + 1 + 1) cX)).cell
        refine bodyPost_ret (v := .tuple #[.agg #[.slice none 0 0, .slice AY nky cY, .slice AX (0 + 1 + 1) cX], .int .i64 0]) (by simp [results, Tryz.results4, go_sem, s1, s2, s3]) rfl ⟨⟨_, _, _, rfl, kn_keep (Nat.le_refl _) (Nat.le_refl _) (fun _ _ _ => rfl) (fun b hb _ => HVV.out b hb) (kn_of (slv_nil _ _) ⟨AY, cY, rfl, gY, sYF⟩ ⟨AX, cX, rfl, gX, sXF⟩ kF rfl (by omega) (by omega) (by omega))⟩, below_set3 hbC (by omega)⟩
  · have hT : T = .mk [] [] [] := by rw [HT.out, putR, if_neg hc]
    have hc1 := chkP_no hc
    rw [hc1]
    have hE : E = 1 := HE.out.trans hc1
    subst hE
    subst hT
    clear hc hc1 HT HE
    go_wp2_with fail
    obtain ⟨s1, s2, s3⟩ := (k1.set (u1 := .slice none 0 0) (u2 := .slice none 0 0) (u3 := .slice none 0 0)).cell
    refine bodyPost_ret (v := .tuple #[.agg #[.slice none 0 0, .slice none 0 0, .slice none 0 0], .int .i64 1]) (by simp [results, Tryz.results4, go_sem, s1, s2, s3]) rfl ⟨⟨_, _, _, rfl, kn_none _⟩, below_set3 hbB (by omega)⟩
end Go.Proofs.YtojincohnjophaaGreatDoor

/-! The walk of layer 20's Del. -/
namespace Go.Proofs.YtojincohnjophaaGreatDoor
open Go.RowKit
open TreeP (Kt Cell kl flat flatL WS Inv InvL InB)
set_option linter.unusedVariables false
attribute [local go_sem ↓] Go.wp_at_zero Go.wp_at_succ

end Go.Proofs.YtojincohnjophaaGreatDoor

/-! The plain side of layer 20's laws: what few makes of a tree, ranges, and what put and del leave, with no program in sight. -/
namespace Go.Proofs.YtojincohnjophaaGreatDoor.TreeP
set_option linter.unusedVariables false

/-- few cells: no deeper than may be -/
theorem inv_64 {t : Kt} {h : Nat} (H : Inv 0 2 h none none t) (hc : (flat t).length ≤ 100000000) : h ≤ 27 := by
  rcases Nat.lt_or_ge h 2 with h2 | h2
  · omega
  · have := root_count H h2
    rcases Nat.lt_or_ge h 28 with h3 | h3
    · omega
    · have h4 : 2 ^ 28 ≤ 2 ^ h := Nat.pow_le_pow_right (by omega) h3
      have : (2:Nat) ^ 28 = 268435456 := by decide
      omega
end Go.Proofs.YtojincohnjophaaGreatDoor.TreeP

/-! The walks of layer 20's reference, lists of cells: Get, Without, Range, With, Same. -/
namespace Go.Proofs.YtojincohnjophaaGreatDoor
open Go.RowKit
open TreeP (Kt Cell kl flat flatL)
set_option linter.unusedVariables false
attribute [local go_sem ↓] Go.wp_at_zero Go.wp_at_succ

/-- an own list of cells -/
def OwnC (w : World) (base : Nat) (v : Value) (l : List Cell) : Prop := w.ownsRow base 36 2 v l.length (cellsV l)
theorem OwnC.mk {w : World} {base : Nat} {v : Value} {l : List Cell} (h : w.ownsRow base 36 2 v l.length (cellsV l)) : OwnC w base v l := h
theorem OwnC.nil (w : World) (base : Nat) : OwnC w base (.slice none 0 0) [] := World.ownsRow_nil w _ _ _
theorem OwnC.of_app {w : World} {base : Nat} {v : Value} {l m : List Cell} {c : Cell} {n : Nat} (h : w.ownsRow base 36 2 v (n + 1) (cellsV l ++ [.string c.1, .string c.2])) (hn : n = l.length) (e : l ++ [c] = m) : OwnC w base v m := by
  subst e hn
  unfold OwnC
  rw [cellsV_append, List.length_append]
  exact h
theorem OwnC.sl {w : World} {base : Nat} {v : Value} {l : List Cell} (h : OwnC w base v l) : ∃ A c, v = .slice A l.length c ∧ Sl w (fun _ => True) 2 A l.length (cellsV l) := by
  obtain ⟨A, c, e, _, hs⟩ := SlV.own (V := fun _ => True) (show w.ownsRow base 36 2 v l.length (cellsV l) from h) (fun _ _ => trivial)
  exact ⟨A, c, e, hs⟩
theorem OwnC.below {w w' : World} {base : Nat} {v : Value} {l : List Cell} (h : OwnC w base v l) (hb : Below w.heap.size w w') : OwnC w' base v l := own_below h hb
theorem OwnC.mono {w : World} {base base' : Nat} {v : Value} {l : List Cell} (h : OwnC w base v l) (hb : base' ≤ base) : OwnC w base' v l := ⟨h.1, h.2.imp id fun ⟨g, cap, cur, a, b, c⟩ => ⟨g, cap, cur, a, Nat.le_trans hb b, c⟩⟩
theorem empty_list {s : ByteArray} : s.toList.isEmpty = decide (s = .empty) := by
  have h : (ByteArray.empty).toList = [] := by rw [ByteArray.toList_eq]; rfl
  rw [Bool.eq_iff_iff, List.isEmpty_iff, decide_eq_true_eq, ← h]
  exact ⟨TreeP.toList_inj, fun e => by rw [e]⟩

end Go.Proofs.YtojincohnjophaaGreatDoor
