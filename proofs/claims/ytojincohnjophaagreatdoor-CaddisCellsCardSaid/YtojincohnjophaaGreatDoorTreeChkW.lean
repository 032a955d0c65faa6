/- The walks of layer 20's check. -/
import Derived.Test.YtojincohnjophaaGreatDoorTreeFind
namespace Go.Proofs.YtojincohnjophaaGreatDoor
open Go.RowKit
open TreeP (Kt Cell kl flat flatL WS)
set_option linter.unusedVariables false
attribute [local go_sem ↓] Go.wp_at_zero Go.wp_at_succ

/-- the walk's own block -/
def BoxW (w : World) (b : Nat) (ws : WS) : Prop := w.heap[b]? = some (.cells #[.int .i64 (ws.level : Nat), .bool ws.any, .string ws.last, .string ws.floor] 115 (0, 0))
theorem BoxW.cell {w : World} {b : Nat} {ws : WS} (h : BoxW w b ws) : w.cell? ⟨b, 0, none⟩ = some (.int .i64 (ws.level : Nat)) ∧ w.cell? ⟨b, 1, none⟩ = some (.bool ws.any) ∧ w.cell? ⟨b, 2, none⟩ = some (.string ws.last) ∧ w.cell? ⟨b, 3, none⟩ = some (.string ws.floor) := by
  unfold BoxW at h
  refine ⟨?_, ?_, ?_, ?_⟩ <;> simp [World.cell?, h]
theorem BoxW.frozen {w : World} {b : Nat} {ws : WS} (h : BoxW w b ws) (i : Nat) : w.frozen? ⟨b, i, none⟩ = false := by
  unfold BoxW at h
  simp [World.frozen?, h]
theorem BoxW.lt {w : World} {b : Nat} {ws : WS} (h : BoxW w b ws) : b < w.heap.size := (Array.getElem?_eq_some_iff.1 h).1
theorem BoxW.up {w : World} {b : Nat} {ws : WS} (h : BoxW w b ws) (o : Obj) : BoxW (w.alloc o) b ws := blk_under h
theorem BoxW.level {w : World} {b : Nat} {ws : WS} (h : BoxW w b ws) (d : Nat) : BoxW (w.setCell ⟨b, 0, none⟩ (.int .i64 (d : Nat))) b { ws with level := d } := by
  unfold BoxW at *
  simp [World.setCell, Array.getElem?_modify, h]
theorem BoxW.floor {w : World} {b : Nat} {ws : WS} (h : BoxW w b ws) (k : ByteArray) : BoxW (w.setCell ⟨b, 3, none⟩ (.string k)) b { ws with floor := k } := by
  unfold BoxW at *
  simp [World.setCell, Array.getElem?_modify, h]
theorem BoxW.seen {w : World} {b : Nat} {ws : WS} (h : BoxW w b ws) (k : ByteArray) : BoxW ((w.setCell ⟨b, 1, none⟩ (.bool true)).setCell ⟨b, 2, none⟩ (.string k)) b { ws with any := true, last := k } := by
  unfold BoxW at *
  simp [World.setCell, Array.getElem?_modify, h]
theorem BoxW.seen' {w : World} {b : Nat} {ws : WS} (h : BoxW w b ws) (k : ByteArray) : BoxW ((w.setCell ⟨b, 2, none⟩ (.string k)).setCell ⟨b, 1, none⟩ (.bool true)) b { ws with any := true, last := k } := by
  unfold BoxW at *
  simp [World.setCell, Array.getElem?_modify, h]

theorem gset {w0 w : World} {b o : Nat} {v : Value} (h : w0.grownBy w (some b)) : w0.grownBy (w.setCell ⟨b, o, none⟩ v) (some b) :=
  ⟨h.os, h.tape, h.output, by simpa [World.setCell] using h.size, fun k hk hne => by
    rw [← h.block k hk hne]
    simp only [World.setCell, Array.getElem?_modify]
    rw [if_neg (fun e => hne (by rw [e]))]⟩
theorem gall {w0 w : World} {b : Option Nat} (h : w0.grownBy w b) (o : Obj) : w0.grownBy (w.alloc o) b := h.trans (World.grownBy_alloc w o b)
theorem gdrew {w0 w : World} {b : Option Nat} (h : w0.grownBy w b) (n : Nat) : w0.grownBy (w.drewN n) b := ⟨h.os, h.tape, h.output, h.size, h.block⟩
theorem gdrew1 {w0 w : World} {b : Option Nat} (h : w0.grownBy w b) : w0.grownBy w.drew b := ⟨h.os, h.tape, h.output, h.size, h.block⟩
theorem gsl {w w' : World} {V : Nat → Prop} {size n b : Nat} {A : Option Addr} {xs : List Value} (h : Sl w V size A n xs) (hg : w.grownBy w' (some b)) (hV : ∀ k, V k → k ≠ b) : Sl w' V size A n xs :=
  h.keep hg.size (fun k hk hlt => hg.block k hlt (by simpa using hV k hk))
theorem gkn {w w' : World} {V : Nat → Prop} {B b : Nat} {v1 v2 v3 : Value} {t : Kt} (h : Kn w V B v1 v2 v3 t) (hg : w.grownBy w' (some b)) (hV : ∀ k, V k → k ≠ b) : Kn w' V B v1 v2 v3 t :=
  kn_keep (Nat.le_refl _) hg.size (fun k hk hlt => hg.block k hlt (by simpa using hV k hk)) (fun k hk _ => hk) h

/-- what a walk's step answers -/
def WalkR (w w' : World) (b : Nat) (e : Ending) (r : Option WS) : Prop := e = .returned (.bool r.isSome) ∧ (∀ ws, r = some ws → BoxW w' b ws) ∧ (∃ ws, BoxW w' b ws) ∧ w.grownBy w' (some b)

theorem drop_cons {α : Type} {l : List α} {k : Nat} {x : α} (h : l[k]? = some x) : l.drop k = x :: l.drop (k + 1) := by
  have h1 := (List.getElem?_eq_some_iff.1 h).1
  rw [List.drop_eq_getElem_cons h1, (List.getElem?_eq_some_iff.1 h).2]

/-- what is still to be looked at of a leaf's cells comes to R -/
def LeafGo (cells : List Cell) (k : Nat) (ws : WS) (R : Option WS) : Prop := R = TreeP.cellsW (cells.drop k) ws
theorem leafGo_zero {cells : List Cell} {ws : WS} {R : Option WS} (h : R = TreeP.cellsW cells ws) : LeafGo cells 0 ws R := by simpa [LeafGo] using h
theorem leafGo_ok {cells : List Cell} {k : Nat} {ws : WS} {R : Option WS} {x : Cell} (h : LeafGo cells k ws R) (hx : cells[k]? = some x) (ho : TreeP.okC ws x = true) : LeafGo cells (k + 1) { ws with any := true, last := x.1 } R := by
  unfold LeafGo at *
  rw [drop_cons hx, TreeP.cellsW, if_pos ho] at h
  exact h
theorem leafGo_no {cells : List Cell} {k : Nat} {ws : WS} {R : Option WS} {x : Cell} (h : LeafGo cells k ws R) (hx : cells[k]? = some x) (ho : TreeP.okC ws x = false) : R = none := by
  unfold LeafGo at *
  rw [drop_cons hx, TreeP.cellsW, if_neg (by simp [ho])] at h
  exact h
theorem leafGo_end {cells : List Cell} {k : Nat} {ws : WS} {R : Option WS} (h : LeafGo cells k ws R) (hk : k = cells.length) : R = some ws := by
  unfold LeafGo at h
  rw [hk, List.drop_length, TreeP.cellsW] at h
  exact h

set_option maxRecDepth 100000 in
set_option maxHeartbeats 1600000 in
theorem leaf_any (b : Nat) (ws : WS) (v1 v2 v3 : Value) (cells : List Cell) (keys : List ByteArray) (kids : List Kt) (d : Nat) (V : Nat → Prop) (w : World) (hB : BoxW w b ws) (hkn : Kn w V 9223372036854775807 v1 v2 v3 (.mk cells keys kids)) (hVb : ∀ k, V k → k ≠ b) (hd : d ≤ 1000) (hlv : ws.level ≤ 1000) :
    Calls Tryz.prog 78 #[.pointer (some ⟨b, 0, none⟩), .agg #[v1, v2, v3], .int .i64 d] w fun e w' => WalkR w w' b e (TreeP.leafW cells keys d ws) := by
  obtain ⟨R, hR⟩ : ∃ R, R = TreeP.leafW cells keys d ws := ⟨_, rfl⟩
  rw [← hR]
  unfold TreeP.leafW at hR
  obtain ⟨⟨A1, c1, rfl, g1, _, s1⟩, ⟨A2, c2, rfl, g2, _, s2⟩, A3, c3, vals, rfl, g3, _, s3, k3⟩ := kn_mk.1 hkn
  obtain ⟨n, hn⟩ : ∃ n, n = cells.length := ⟨_, rfl⟩
  obtain ⟨nk, hnk⟩ : ∃ nk, nk = keys.length := ⟨_, rfl⟩
  obtain ⟨nd, hnd⟩ : ∃ nd, nd = kids.length := ⟨_, rfl⟩
  rw [← hn] at s1 g1 hR ⊢
  rw [← hnk] at hR ⊢
  rw [← hnd] at ⊢
  have hblt := hB.lt
  have hB1 := hB.up (.cells #[.slice A1 n c1, .slice A2 nk c2, .slice A3 nd c3] 29)
  have hg1 := World.grownBy_alloc w (.cells #[.slice A1 n c1, .slice A2 nk c2, .slice A3 nd c3] 29) (some b)
  have k1 : (w.alloc (.cells #[.slice A1 n c1, .slice A2 nk c2, .slice A3 nd c3] 29)).cell? ⟨w.heap.size, 0, none⟩ = some (.slice A1 n c1) := by go_simp
  have k2 : (w.alloc (.cells #[.slice A1 n c1, .slice A2 nk c2, .slice A3 nd c3] 29)).cell? ⟨w.heap.size, 1, none⟩ = some (.slice A2 nk c2) := by go_simp
  have hsz1 : w.heap.size < (w.alloc (.cells #[.slice A1 n c1, .slice A2 nk c2, .slice A3 nd c3] 29)).heap.size := by simp
  clear hkn s2 s3 k3
  by_cases h1 : nk ≠ 0 ∨ 4 < n ∨ (1 < d ∧ n < 2)
  · rw [if_pos h1] at hR
    subst hR
    have HB1 := hide hB1
    have HG1 := hide hg1
    clear hn hnk hnd hB hB1 hg1
    have done : ∀ e w', e = .returned (.bool false) → w' = w.alloc (.cells #[.slice A1 n c1, .slice A2 nk c2, .slice A3 nd c3] 29) → WalkR w w' b e none := by
      rintro e w' rfl rfl
      exact ⟨rfl, fun _ h => (by cases h), ⟨_, HB1.out⟩, HG1.out⟩
    by_cases q1 : nk = 0
    · have d1 : ((nk : Int) != 0) = false := by simp [q1]
      by_cases q2 : 4 < n
      · have d2 : decide ((4 : Int) < (n : Int)) = true := by simp; omega
        clear q1 h1
        go_enter Tryz.func78, Tryz.ntmps78
        go_wp2_with fail
        go_ret
        exact done _ _ rfl rfl
      · have d2 : decide ((4 : Int) < (n : Int)) = false := by simp; omega
        have h3 : 1 < d ∧ n < 2 := by omega
        have d3 : decide ((1 : Int) < (d : Int)) = true := by simp; omega
        have d4 : decide ((n : Int) < 2) = true := by simp; omega
        clear q1 h1 h3
        go_enter Tryz.func78, Tryz.ntmps78
        go_wp2_with fail
        go_ret
        exact done _ _ rfl rfl
    · have d1 : ((nk : Int) != 0) = true := by simp [q1]
      clear q1 h1
      go_enter Tryz.func78, Tryz.ntmps78
      go_wp2_with fail
      go_ret
      exact done _ _ rfl rfl
  · rw [if_neg h1] at hR
    have d1 : ((nk : Int) != 0) = false := by simp; omega
    have d2 : decide ((4 : Int) < (n : Int)) = false := by simp; omega
    have d34 : (1 < d ∧ ¬ n < 2) ∨ ¬ 1 < d := by omega
    obtain ⟨l1, l2, l3, l4⟩ := hB1.cell
    have l5 := hB1.frozen 0
    by_cases h2 : ws.level ≠ 0 ∧ ws.level ≠ d
    · rw [if_pos h2] at hR
      subst hR
      have d5 : ((ws.level : Int) != 0) = true := by simp; omega
      have d6 : ((ws.level : Int) != (d : Int)) = true := by simp; omega
      have HB1 := hide hB1
      have HG1 := hide hg1
      clear hn hnk hnd hB hB1 hg1 h1 h2
      have done : ∀ e w', e = .returned (.bool false) → w' = w.alloc (.cells #[.slice A1 n c1, .slice A2 nk c2, .slice A3 nd c3] 29) → WalkR w w' b e none := by
        rintro e w' rfl rfl
        exact ⟨rfl, fun _ h => (by cases h), ⟨_, HB1.out⟩, HG1.out⟩
      rcases d34 with ⟨h3, h4⟩ | h3
      · have d3 : decide ((1 : Int) < (d : Int)) = true := by simp; omega
        have d4 : decide ((n : Int) < 2) = false := by simp; omega
        clear h3 h4
        go_enter Tryz.func78, Tryz.ntmps78
        go_wp2_with fail
        go_ret
        exact done _ _ rfl rfl
      · have d3 : decide ((1 : Int) < (d : Int)) = false := by simp; omega
        clear h3
        go_enter Tryz.func78, Tryz.ntmps78
        go_wp2_with fail
        go_ret
        exact done _ _ rfl rfl
    · rw [if_neg h2] at hR
      have d5 : ((ws.level : Int) != 0) = false ∨ (((ws.level : Int) != 0) = true ∧ ((ws.level : Int) != (d : Int)) = false) := by
        by_cases q : ws.level = 0
        · left; simp [q]
        · right; exact ⟨by simp; omega, by simp; omega⟩
      have hB2 := (hB.level d).up (.cells #[.slice A1 n c1, .slice A2 nk c2, .slice A3 nd c3] 29)
      have hg2 := gall (gset (o := 0) (v := .int .i64 (d : Nat)) (World.grownBy.refl w (some b))) (.cells #[.slice A1 n c1, .slice A2 nk c2, .slice A3 nd c3] 29)
      obtain ⟨R0, hR0⟩ : ∃ R0 : WS, R0 = { ws with level := d } := ⟨_, rfl⟩
      rw [← hR0] at hB2 hR
      have hk1 : ((w.setCell ⟨b, 0, none⟩ (.int .i64 (d : Nat))).alloc (.cells #[.slice A1 n c1, .slice A2 nk c2, .slice A3 nd c3] 29)).cell? ⟨w.heap.size, 0, none⟩ = some (.slice A1 n c1) := by
        have e : w.heap.size = (w.setCell ⟨b, 0, none⟩ (.int .i64 (d : Nat))).heap.size := by simp [World.setCell]
        exact (BoxK.cell (w := (w.setCell ⟨b, 0, none⟩ (.int .i64 (d : Nat))).alloc (.cells #[.slice A1 n c1, .slice A2 nk c2, .slice A3 nd c3] 29)) (blk_top e)).1
      have n5 : n ≤ 4 := by omega
      have HN := hide hn
      have HR := hide hR
      clear hn hnk hnd hB hB1 hg1 h1 h2 hR0 hR k1 hlv l2 l3 l4
      rcases d34 with ⟨h3, h4⟩ | h3
      · have d3 : decide ((1 : Int) < (d : Int)) = true := by simp; omega
        have d4 : decide ((n : Int) < 2) = false := by simp; omega
        clear h3 h4
        rcases d5 with d5 | ⟨d5, d6⟩
        all_goals go_enter Tryz.func78, Tryz.ntmps78
        all_goals go_wp2_with fail
        all_goals
          go_loopw [8, 49] (fun x i wr => ∃ (k : Nat) (wsk : WS), k ≤ n ∧ i = .int .i64 k ∧ BoxW wr b wsk ∧ LeafGo cells k wsk R ∧ w.grownBy wr (some b)) (fun _ i _ => n - (intOf i).toNat)
          case atStart => exact ⟨0, R0, Nat.zero_le _, rfl, hB2, leafGo_zero HR.out, hg2⟩
          case round =>
            clear hB2 hg2 hk1 hsz1 k2 l1 l5
            obtain ⟨k, wsk, hk, rfl, hBk, hgo, hgk⟩ := hrel
            by_cases hlt : k < n
            · obtain ⟨ad, x, e, hx, f1, f2⟩ := (gsl s1 hgk hVb).cell hlt
              subst e
              have hBa := hBk.up (.cells #[.string x.1, .string x.2] 36)
              have hga := gall hgk (.cells #[.string x.1, .string x.2] 36)
              obtain ⟨l1, l2, l3, l4⟩ := hBa.cell
              have l5 := hBa.frozen 1
              have l6 := hBa.frozen 2
              have hne : wr.heap.size ≠ b := by have := hBk.lt; omega
              have HBa := hide hBa
              have HGa := hide hga
              have HGO := hide hgo
              have HX := hide hx
              clear hBa hga hgo hx hBk hgk s1
              cases hany : wsk.any with
              | false =>
                rw [hany] at l2
                cases hfl : kl x.1 wsk.floor with
                | true =>
                  have hfl' : Op.bytesLess x.1.toList wsk.floor.toList = true := hfl
                  have hno := leafGo_no HGO.out HX.out (by simp [TreeP.okC, hany, hfl])
                  have HNO := hide hno
                  clear hany hfl hno
                  go_wp2_with fail
                  go_quiet (fail)
                  go_wp2_with fail
                  go_ret
                  exact ⟨by rw [HNO.out]; rfl, fun _ h => (by rw [HNO.out] at h; cases h), ⟨_, HBa.out⟩, gdrew HGa.out _⟩
                | false =>
                  have hfl' : Op.bytesLess x.1.toList wsk.floor.toList = false := hfl
                  have hok := leafGo_ok HGO.out HX.out (by simp [TreeP.okC, hany, hfl])
                  have HOK := hide hok
                  clear hany hfl hok
                  go_wp2_with fail
                  go_quiet (fail)
                  go_wp2_with fail
                  go_region
                  all_goals go_wp2_with fail
                  all_goals
                    go_roundw
                    case rel => exact ⟨k + 1, _, by omega, by go_num, (by first | exact HBa.out.seen x.1 | exact HBa.out.seen' x.1), HOK.out, (by first | exact gdrew1 (gdrew (gset (gset HGa.out)) _) | exact gdrew (gset (gset HGa.out)) _ | exact gset (gset (gdrew HGa.out _)))⟩
                    case measure => simp [intOf]; omega
              | true =>
                rw [hany] at l2
                cases hls : kl wsk.last x.1 with
                | false =>
                  have hle : (Op.bytesLess x.1.toList wsk.last.toList || x.1.toList == wsk.last.toList) = true := by rw [leq_kl, hls]; rfl
                  have hno := leafGo_no HGO.out HX.out (by simp [TreeP.okC, hany, hls])
                  have HNO := hide hno
                  clear hany hls hno
                  go_wp2_with fail
                  go_quiet (fail)
                  go_wp2_with fail
                  go_ret
                  exact ⟨by rw [HNO.out]; rfl, fun _ h => (by rw [HNO.out] at h; cases h), ⟨_, HBa.out⟩, gdrew HGa.out _⟩
                | true =>
                  have hle : (Op.bytesLess x.1.toList wsk.last.toList || x.1.toList == wsk.last.toList) = false := by rw [leq_kl, hls]; rfl
                  cases hfl : kl x.1 wsk.floor with
                  | true =>
                    have hfl' : Op.bytesLess x.1.toList wsk.floor.toList = true := hfl
                    have hno := leafGo_no HGO.out HX.out (by simp [TreeP.okC, hany, hfl])
                    have HNO := hide hno
                    clear hany hls hfl hno
                    go_wp2_with fail
                    go_quiet (fail)
                    go_wp2_with fail
                    go_ret
                    exact ⟨by rw [HNO.out]; rfl, fun _ h => (by rw [HNO.out] at h; cases h), ⟨_, HBa.out⟩, gdrew HGa.out _⟩
                  | false =>
                    have hfl' : Op.bytesLess x.1.toList wsk.floor.toList = false := hfl
                    have hok := leafGo_ok HGO.out HX.out (by simp [TreeP.okC, hany, hls, hfl])
                    have HOK := hide hok
                    clear hany hls hfl hok
                    go_wp2_with fail
                    go_quiet (fail)
                    go_wp2_with fail
                    go_region
                    all_goals go_wp2_with fail
                    all_goals
                      go_roundw
                      case rel => exact ⟨k + 1, _, by omega, by go_num, (by first | exact HBa.out.seen x.1 | exact HBa.out.seen' x.1), HOK.out, (by first | exact gdrew1 (gdrew (gset (gset HGa.out)) _) | exact gdrew (gset (gset HGa.out)) _ | exact gset (gset (gdrew HGa.out _)))⟩
                      case measure => simp [intOf]; omega
            · obtain rfl : k = n := by omega
              have hend := leafGo_end hgo HN.out
              have HE := hide hend
              clear hend hgo
              go_wp2_with fail
              go_ret
              exact ⟨by rw [HE.out]; rfl, fun ws h => (by rw [HE.out] at h; injection h with h; rw [← h]; exact hBk), ⟨_, hBk⟩, hgk⟩
      · have d3 : decide ((1 : Int) < (d : Int)) = false := by simp; omega
        clear h3
        rcases d5 with d5 | ⟨d5, d6⟩
        all_goals go_enter Tryz.func78, Tryz.ntmps78
        all_goals go_wp2_with fail
        all_goals
          go_loopw [8, 49] (fun x i wr => ∃ (k : Nat) (wsk : WS), k ≤ n ∧ i = .int .i64 k ∧ BoxW wr b wsk ∧ LeafGo cells k wsk R ∧ w.grownBy wr (some b)) (fun _ i _ => n - (intOf i).toNat)
          case atStart => exact ⟨0, R0, Nat.zero_le _, rfl, hB2, leafGo_zero HR.out, hg2⟩
          case round =>
            clear hB2 hg2 hk1 hsz1 k2 l1 l5
            obtain ⟨k, wsk, hk, rfl, hBk, hgo, hgk⟩ := hrel
            by_cases hlt : k < n
            · obtain ⟨ad, x, e, hx, f1, f2⟩ := (gsl s1 hgk hVb).cell hlt
              subst e
              have hBa := hBk.up (.cells #[.string x.1, .string x.2] 36)
              have hga := gall hgk (.cells #[.string x.1, .string x.2] 36)
              obtain ⟨l1, l2, l3, l4⟩ := hBa.cell
              have l5 := hBa.frozen 1
              have l6 := hBa.frozen 2
              have hne : wr.heap.size ≠ b := by have := hBk.lt; omega
              have HBa := hide hBa
              have HGa := hide hga
              have HGO := hide hgo
              have HX := hide hx
              clear hBa hga hgo hx hBk hgk s1
              cases hany : wsk.any with
              | false =>
                rw [hany] at l2
                cases hfl : kl x.1 wsk.floor with
                | true =>
                  have hfl' : Op.bytesLess x.1.toList wsk.floor.toList = true := hfl
                  have hno := leafGo_no HGO.out HX.out (by simp [TreeP.okC, hany, hfl])
                  have HNO := hide hno
                  clear hany hfl hno
                  go_wp2_with fail
                  go_quiet (fail)
                  go_wp2_with fail
                  go_ret
                  exact ⟨by rw [HNO.out]; rfl, fun _ h => (by rw [HNO.out] at h; cases h), ⟨_, HBa.out⟩, gdrew HGa.out _⟩
                | false =>
                  have hfl' : Op.bytesLess x.1.toList wsk.floor.toList = false := hfl
                  have hok := leafGo_ok HGO.out HX.out (by simp [TreeP.okC, hany, hfl])
                  have HOK := hide hok
                  clear hany hfl hok
                  go_wp2_with fail
                  go_quiet (fail)
                  go_wp2_with fail
                  go_region
                  all_goals go_wp2_with fail
                  all_goals
                    go_roundw
                    case rel => exact ⟨k + 1, _, by omega, by go_num, (by first | exact HBa.out.seen x.1 | exact HBa.out.seen' x.1), HOK.out, (by first | exact gdrew1 (gdrew (gset (gset HGa.out)) _) | exact gdrew (gset (gset HGa.out)) _ | exact gset (gset (gdrew HGa.out _)))⟩
                    case measure => simp [intOf]; omega
              | true =>
                rw [hany] at l2
                cases hls : kl wsk.last x.1 with
                | false =>
                  have hle : (Op.bytesLess x.1.toList wsk.last.toList || x.1.toList == wsk.last.toList) = true := by rw [leq_kl, hls]; rfl
                  have hno := leafGo_no HGO.out HX.out (by simp [TreeP.okC, hany, hls])
                  have HNO := hide hno
                  clear hany hls hno
                  go_wp2_with fail
                  go_quiet (fail)
                  go_wp2_with fail
                  go_ret
                  exact ⟨by rw [HNO.out]; rfl, fun _ h => (by rw [HNO.out] at h; cases h), ⟨_, HBa.out⟩, gdrew HGa.out _⟩
                | true =>
                  have hle : (Op.bytesLess x.1.toList wsk.last.toList || x.1.toList == wsk.last.toList) = false := by rw [leq_kl, hls]; rfl
                  cases hfl : kl x.1 wsk.floor with
                  | true =>
                    have hfl' : Op.bytesLess x.1.toList wsk.floor.toList = true := hfl
                    have hno := leafGo_no HGO.out HX.out (by simp [TreeP.okC, hany, hfl])
                    have HNO := hide hno
                    clear hany hls hfl hno
                    go_wp2_with fail
                    go_quiet (fail)
                    go_wp2_with fail
                    go_ret
                    exact ⟨by rw [HNO.out]; rfl, fun _ h => (by rw [HNO.out] at h; cases h), ⟨_, HBa.out⟩, gdrew HGa.out _⟩
                  | false =>
                    have hfl' : Op.bytesLess x.1.toList wsk.floor.toList = false := hfl
                    have hok := leafGo_ok HGO.out HX.out (by simp [TreeP.okC, hany, hls, hfl])
                    have HOK := hide hok
                    clear hany hls hfl hok
                    go_wp2_with fail
                    go_quiet (fail)
                    go_wp2_with fail
                    go_region
                    all_goals go_wp2_with fail
                    all_goals
                      go_roundw
                      case rel => exact ⟨k + 1, _, by omega, by go_num, (by first | exact HBa.out.seen x.1 | exact HBa.out.seen' x.1), HOK.out, (by first | exact gdrew1 (gdrew (gset (gset HGa.out)) _) | exact gdrew (gset (gset HGa.out)) _ | exact gset (gset (gdrew HGa.out _)))⟩
                      case measure => simp [intOf]; omega
            · obtain rfl : k = n := by omega
              have hend := leafGo_end hgo HN.out
              have HE := hide hend
              clear hend hgo
              go_wp2_with fail
              go_ret
              exact ⟨by rw [HE.out]; rfl, fun ws h => (by rw [HE.out] at h; injection h with h; rw [← h]; exact hBk), ⟨_, hBk⟩, hgk⟩
end Go.Proofs.YtojincohnjophaaGreatDoor
