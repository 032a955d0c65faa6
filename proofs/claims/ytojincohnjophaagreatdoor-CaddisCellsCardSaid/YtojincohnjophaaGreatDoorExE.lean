/- The parser of expressions: an atom (seat c). -/
import Derived.Test.YtojincohnjophaaGreatDoorExC
import Derived.Laws.ResultCell
import Derived.Laws.Rows
/-! The parser of statements: its state, is, take, words (seat c). -/
namespace Go.Proofs.YtojincohnjophaaGreatDoor
open Go.RowKit
set_option linter.unusedVariables false

/-- The cells of the parser. -/
def spCells (A : Option Addr) (n c i : Nat) (op tb wo : ByteArray) (wl : Value) : Array Value :=
  #[.slice A n c, .int .i64 (i : Nat), .string op, .string tb, .string .empty, .slice none 0 0, .slice none 0 0, .string .empty, .slice none 0 0, .slice none 0 0, .string .empty, .int .i64 0, .int .i64 0, .string .empty, .string .empty, .slice none 0 0, .slice none 0 0, .slice none 0 0, .string wo, .int .i64 0, .int .i64 0, .string .empty, .string .empty, wl, .string .empty]
structure Sp (w : World) (b : Nat) (A : Option Addr) (n c i : Nat) (op tb wo : ByteArray) (wl : Value) (ts : List Tok) : Prop where
  box : Box w b 165 (spCells A n c i op tb wo wl)
  sl : Sl w (fun x => x ≠ b) 2 A n (cellsTk ts)
theorem Sp.below {w w' : World} {b : Nat} {A : Option Addr} {n c i : Nat} {op tb wo : ByteArray} {wl : Value} {ts : List Tok} (h : Sp w b A n c i op tb wo wl ts) (hb : Below w.heap.size w w') : Sp w' b A n c i op tb wo wl ts := ⟨h.box.belowS hb, h.sl.below hb⟩
theorem Sp.other {w : World} {b : Nat} {A : Option Addr} {n c i : Nat} {op tb wo : ByteArray} {wl : Value} {ts : List Tok} (h : Sp w b A n c i op tb wo wl ts) (k : Nat) (u : Value) {vs : Array Value} (hv : Box (w.setCell ⟨b, k, none⟩ u) b 165 vs) {i' : Nat} {op' tb' wo' : ByteArray} {wl' : Value} (e : vs = spCells A n c i' op' tb' wo' wl') : Sp (w.setCell ⟨b, k, none⟩ u) b A n c i' op' tb' wo' wl' ts :=
  ⟨e ▸ hv, h.sl.keep (by simp [World.setCell]) fun x hx _ => Below.heap_setCell _ _ _ _ hx⟩
theorem Sp.set {w : World} {b : Nat} {A : Option Addr} {n c i : Nat} {op tb wo : ByteArray} {wl : Value} {ts : List Tok} (h : Sp w b A n c i op tb wo wl ts) (j : Nat) : Sp (w.setCell ⟨b, 1, none⟩ (.int .i64 (j : Nat))) b A n c j op tb wo wl ts := h.other 1 _ (h.box.set 1 _) rfl
theorem Sp.setOp {w : World} {b : Nat} {A : Option Addr} {n c i : Nat} {op tb wo : ByteArray} {wl : Value} {ts : List Tok} (h : Sp w b A n c i op tb wo wl ts) (s : ByteArray) : Sp (w.setCell ⟨b, 2, none⟩ (.string s)) b A n c i s tb wo wl ts := h.other 2 _ (h.box.set 2 _) rfl
theorem Sp.setTb {w : World} {b : Nat} {A : Option Addr} {n c i : Nat} {op tb wo : ByteArray} {wl : Value} {ts : List Tok} (h : Sp w b A n c i op tb wo wl ts) (s : ByteArray) : Sp (w.setCell ⟨b, 3, none⟩ (.string s)) b A n c i op s wo wl ts := h.other 3 _ (h.box.set 3 _) rfl
theorem Sp.setW {w : World} {b : Nat} {A : Option Addr} {n c i : Nat} {op tb wo : ByteArray} {wl : Value} {ts : List Tok} (h : Sp w b A n c i op tb wo wl ts) (s : ByteArray) (l : Value) : Sp ((((((w.setCell ⟨b, 18, none⟩ (.string s)).setCell ⟨b, 19, none⟩ (.int .i64 0)).setCell ⟨b, 20, none⟩ (.int .i64 0)).setCell ⟨b, 21, none⟩ (.string .empty)).setCell ⟨b, 22, none⟩ (.string .empty)).setCell ⟨b, 23, none⟩ l) b A n c i op tb s l ts :=
  by
    have h1 : Sp _ b A n c i op tb s wl ts := h.other 18 (.string s) (h.box.set 18 _) rfl
    have h2 : Sp _ b A n c i op tb s wl ts := h1.other 19 (.int .i64 0) (h1.box.set 19 _) rfl
    have h3 : Sp _ b A n c i op tb s wl ts := h2.other 20 (.int .i64 0) (h2.box.set 20 _) rfl
    have h4 : Sp _ b A n c i op tb s wl ts := h3.other 21 (.string .empty) (h3.box.set 21 _) rfl
    have h5 : Sp _ b A n c i op tb s wl ts := h4.other 22 (.string .empty) (h4.box.set 22 _) rfl
    exact h5.other 23 l (h5.box.set 23 _) rfl
theorem Sp.exc {w w' : World} {b k : Nat} {A : Option Addr} {n c i : Nat} {op tb wo : ByteArray} {wl : Value} {ts : List Tok} (h : Sp w b A n c i op tb wo wl ts) (hk : Below w.heap.size w w') : Sp w' b A n c i op tb wo wl ts := h.below hk

set_option maxRecDepth 100000 in
set_option maxHeartbeats 800000 in
theorem sis_any (b : Nat) (A : Option Addr) (n c i : Nat) (op tb wo : ByteArray) (wl : Value) (ts : List Tok) (word : ByteArray) (hn : n ≤ 1000000) (w : World) (h : Sp w b A n c i op tb wo wl ts) :
    Calls Tryz.prog 148 #[.pointer (some ⟨b, 0, none⟩), .string word] w fun q w' => q = .returned (.bool (takes ts i word)) ∧ Below w.heap.size w w' := by
  obtain ⟨r, hr⟩ : ∃ r, r = takes ts i word := ⟨_, rfl⟩
  rw [← hr]
  have H := hide h
  have c0 := h.box.cellAt (i := 0) rfl
  have c1 := h.box.cellAt (i := 1) rfl
  by_cases hlt : i < n
  · obtain ⟨ad, t, hA, ht, hc1, hc2⟩ := h.sl.tok hlt
    subst hA
    have hrr : r = isB t.1 t.2 word := by rw [hr]; unfold takes; rw [ht]
    have HC := hide (is_any t.1 t.2 word)
    rw [← hrr] at HC
    obtain ⟨tk, tv⟩ := t
    have hd : decide ((i : Int) < (n : Int)) = true := by simp; omega
    have hd0 : decide (i < n) = true := by simp; omega
    have hi1 : (0 : Int) ≤ (i : Int) := by omega
    have hi2 : (i : Int) < (n : Int) := by omega
    have hbx : Below w.heap.size w w.drew := (Below.refl _ _).drew
    have HS : Hid (∀ ww, Below w.heap.size w ww → (ww.cell? ⟨b, 0, none⟩ = some (.slice (some ad) n c) ∧ ww.cell? ⟨b, 1, none⟩ = some (.int .i64 (i : Nat))) ∧ ww.cell? (ad.add (i * 2)) = some (.int .i64 (tk : Nat)) ∧ ww.cell? ⟨(ad.add (i * 2)).block, (ad.add (i * 2)).off + 1, none⟩ = some (.string tv)) := by
      intro ww hb
      have h2 := h.below hb
      obtain ⟨a2, t2, ha2, ht2, h3, h4⟩ := h2.sl.tok hlt
      obtain rfl := Option.some.inj ha2
      obtain rfl := Option.some.inj (ht.symm.trans ht2)
      exact ⟨⟨h2.box.cellAt rfl, h2.box.cellAt rfl⟩, h3, h4⟩
    clear hr hrr ht h
    go_enter Tryz.func148, Tryz.ntmps148
    go_upto_region 1 with (fail)
    go_region_held3 (fun ww => (ww.cell? ⟨b, 0, none⟩ = some (.slice (some ad) n c) ∧ ww.cell? ⟨b, 1, none⟩ = some (.int .i64 (i : Nat))) ∧ ww.cell? (ad.add (i * 2)) = some (.int .i64 (tk : Nat)) ∧ ww.cell? ⟨(ad.add (i * 2)).block, (ad.add (i * 2)).off + 1, none⟩ = some (.string tv))
      (first | exact HS.out _ hbx)
      (((with_reducible refine (HC.out _).mono ?_); (rintro q wn ⟨rfl, hbn⟩; have hbx := hbx.trans (hbn.mono hbx.size))))
    go_wp2_with fail
    go_ret
    exact ⟨rfl, hbx⟩
  · have hd : decide ((i : Int) < (n : Int)) = false := by simp; omega
    have hd0 : decide (i < n) = false := by simp; omega
    have hrr : r = false := by
      rw [hr]; unfold takes
      rw [List.getElem?_eq_none (by have := h.sl.toks; omega)]
    subst hrr
    have hS : w.drew.cell? ⟨b, 0, none⟩ = some (.slice A n c) ∧ w.drew.cell? ⟨b, 1, none⟩ = some (.int .i64 (i : Nat)) := ⟨h.box.drew.cellAt rfl, h.box.drew.cellAt rfl⟩
    clear hr h c0 c1
    go_enter Tryz.func148, Tryz.ntmps148
    go_upto_region 1 with (fail)
    refine RegE.begin_ (n := 24) (S := fun ww => ww.cell? ⟨b, 0, none⟩ = some (.slice A n c) ∧ ww.cell? ⟨b, 1, none⟩ = some (.int .i64 (i : Nat))) (by kernel_rfl) (by kernel_rfl) (by kernel_rfl) ?_
    refine RegE.take (i := 0) (v := ?k1vv) rfl (by kernel_rfl) (by kernel_rfl) rfl (by kernel_rfl) (by kernel_rfl) (by kernel_rfl) (fun _ _ _ h => h) (Or.inl ⟨by first | rfl | simp [Region.wanted, yielded], ?k1vy⟩) hS ?k1vr
    case k1vy => intro ww hSw; obtain ⟨hs1, hs2⟩ := hSw; (go_simp <;> with_reducible rfl)
    try simp only [Act.put, List.getElem_toArray, List.getElem_cons_zero, List.setIfInBounds_toArray, List.set_cons_zero, List.set_cons_succ]
    refine RegE.take (i := 1) (v := ?k2vv) rfl (by kernel_rfl) (by kernel_rfl) rfl (by kernel_rfl) (by kernel_rfl) (by kernel_rfl) (fun _ _ _ h => h) (Or.inl ⟨by first | rfl | simp [Region.wanted, yielded], ?k2vy⟩) hS ?k2vr
    case k2vy => intro ww hSw; obtain ⟨hs1, hs2⟩ := hSw; (go_simp <;> with_reducible rfl)
    try simp only [Act.put, List.getElem_toArray, List.getElem_cons_zero, List.getElem_cons_succ, List.setIfInBounds_toArray, List.set_cons_zero, List.set_cons_succ]
    refine RegE.take (i := 2) (v := ?k3vv) rfl (by kernel_rfl) (by kernel_rfl) rfl (by kernel_rfl) (by kernel_rfl) (by kernel_rfl) (fun _ _ _ h => h) (Or.inl ⟨by first | rfl | simp [Region.wanted, yielded], ?k3vy⟩) hS ?k3vr
    case k3vy => intro ww hSw; obtain ⟨hs1, hs2⟩ := hSw; (go_simp <;> with_reducible rfl)
    try simp only [Act.put, List.getElem_toArray, List.getElem_cons_zero, List.getElem_cons_succ, List.setIfInBounds_toArray, List.set_cons_zero, List.set_cons_succ]
    refine RegE.take (i := 3) (v := ?k4vv) rfl (by kernel_rfl) (by kernel_rfl) rfl (by kernel_rfl) (by kernel_rfl) (by kernel_rfl) (fun _ _ _ h => h) (Or.inl ⟨by first | rfl | simp [Region.wanted, yielded], ?k4vy⟩) hS ?k4vr
    case k4vy => intro ww hSw; obtain ⟨hs1, hs2⟩ := hSw; (go_simp <;> with_reducible rfl)
    try simp only [Act.put, List.getElem_toArray, List.getElem_cons_zero, List.getElem_cons_succ, List.setIfInBounds_toArray, List.set_cons_zero, List.set_cons_succ]
    refine RegE.take (i := 4) (v := ?k5vv) rfl (by kernel_rfl) (by kernel_rfl) rfl (by kernel_rfl) (by kernel_rfl) (by kernel_rfl) (fun _ _ _ h => h) (Or.inl ⟨by first | rfl | simp [Region.wanted, yielded], ?k5vy⟩) hS ?k5vr
    case k5vy => intro ww hSw; obtain ⟨hs1, hs2⟩ := hSw; (go_simp <;> with_reducible rfl)
    try simp only [Act.put, List.getElem_toArray, List.getElem_cons_zero, List.getElem_cons_succ, List.setIfInBounds_toArray, List.set_cons_zero, List.set_cons_succ]
    refine RegE.take (i := 5) (v := ?k6vv) rfl (by kernel_rfl) (by kernel_rfl) rfl (by kernel_rfl) (by kernel_rfl) (by kernel_rfl) (fun _ _ _ h => h) (Or.inl ⟨by first | rfl | simp [Region.wanted, yielded], ?k6vy⟩) hS ?k6vr
    case k6vy => intro ww hSw; obtain ⟨hs1, hs2⟩ := hSw; (go_simp <;> with_reducible rfl)
    try simp only [Act.put, List.getElem_toArray, List.getElem_cons_zero, List.getElem_cons_succ, List.setIfInBounds_toArray, List.set_cons_zero, List.set_cons_succ]
    refine RegE.take (i := 6) (v := ?k7vv) rfl (by kernel_rfl) (by kernel_rfl) rfl (by kernel_rfl) (by kernel_rfl) (by kernel_rfl) (fun _ _ _ h => h) (Or.inl ⟨by first | rfl | simp [Region.wanted, yielded], ?k7vy⟩) hS ?k7vr
    case k7vy => intro ww hSw; obtain ⟨hs1, hs2⟩ := hSw; (go_simp <;> with_reducible rfl)
    try simp only [Act.put, List.getElem_toArray, List.getElem_cons_zero, List.getElem_cons_succ, List.setIfInBounds_toArray, List.set_cons_zero, List.set_cons_succ]
    refine RegE.take (i := 7) (v := ?k8vv) rfl (by kernel_rfl) (by kernel_rfl) rfl (by kernel_rfl) (by kernel_rfl) (by kernel_rfl) (fun _ _ _ h => h) (Or.inl ⟨by first | rfl | simp [Region.wanted, yielded], ?k8vy⟩) hS ?k8vr
    case k8vy => intro ww hSw; obtain ⟨hs1, hs2⟩ := hSw; (go_simp <;> with_reducible rfl)
    try simp only [Act.put, List.getElem_toArray, List.getElem_cons_zero, List.getElem_cons_succ, List.setIfInBounds_toArray, List.set_cons_zero, List.set_cons_succ]
    refine RegE.take (i := 8) (v := ?k9vv) rfl (by kernel_rfl) (by kernel_rfl) rfl (by kernel_rfl) (by kernel_rfl) (by kernel_rfl) (fun _ _ _ h => h) (Or.inl ⟨by first | rfl | simp [Region.wanted, yielded], ?k9vy⟩) hS ?k9vr
    case k9vy => intro ww hSw; obtain ⟨hs1, hs2⟩ := hSw; (go_simp <;> with_reducible rfl)
    try simp only [Act.put, List.getElem_toArray, List.getElem_cons_zero, List.getElem_cons_succ, List.setIfInBounds_toArray, List.set_cons_zero, List.set_cons_succ]
    refine RegE.take (i := 9) (v := ?k10vv) rfl (by kernel_rfl) (by kernel_rfl) rfl (by kernel_rfl) (by kernel_rfl) (by kernel_rfl) (fun _ _ _ h => h) (Or.inl ⟨by first | rfl | simp [Region.wanted, yielded], ?k10vy⟩) hS ?k10vr
    case k10vy => intro ww hSw; obtain ⟨hs1, hs2⟩ := hSw; (go_simp <;> with_reducible rfl)
    try simp only [Act.put, List.getElem_toArray, List.getElem_cons_zero, List.getElem_cons_succ, List.setIfInBounds_toArray, List.set_cons_zero, List.set_cons_succ]
    refine RegE.take (i := 10) (v := ?k11vv) rfl (by kernel_rfl) (by kernel_rfl) rfl (by kernel_rfl) (by kernel_rfl) (by kernel_rfl) (fun _ _ _ h => h) (Or.inl ⟨by first | rfl | simp [Region.wanted, yielded], ?k11vy⟩) hS ?k11vr
    case k11vy => intro ww hSw; obtain ⟨hs1, hs2⟩ := hSw; (go_simp <;> with_reducible rfl)
    try simp only [Act.put, List.getElem_toArray, List.getElem_cons_zero, List.getElem_cons_succ, List.setIfInBounds_toArray, List.set_cons_zero, List.set_cons_succ]
    refine RegE.take (i := 11) (v := undef) rfl (by kernel_rfl) (by kernel_rfl) rfl (by kernel_rfl) (by kernel_rfl) (by kernel_rfl) (fun _ _ _ h => h) (Or.inr ⟨by first | rfl | simp [Region.wanted, yielded], rfl⟩) hS ?k12vr
    try simp only [Act.put, List.getElem_toArray, List.getElem_cons_zero, List.getElem_cons_succ, List.setIfInBounds_toArray, List.set_cons_zero, List.set_cons_succ]
    refine RegE.take (i := 12) (v := undef) rfl (by kernel_rfl) (by kernel_rfl) rfl (by kernel_rfl) (by kernel_rfl) (by kernel_rfl) (fun _ _ _ h => h) (Or.inr ⟨by first | rfl | simp [Region.wanted, yielded], rfl⟩) hS ?k13vr
    try simp only [Act.put, List.getElem_toArray, List.getElem_cons_zero, List.getElem_cons_succ, List.setIfInBounds_toArray, List.set_cons_zero, List.set_cons_succ]
    refine RegE.take (i := 13) (v := undef) rfl (by kernel_rfl) (by kernel_rfl) rfl (by kernel_rfl) (by kernel_rfl) (by kernel_rfl) (fun _ _ _ h => h) (Or.inr ⟨by first | rfl | simp [Region.wanted, yielded], rfl⟩) hS ?k14vr
    try simp only [Act.put, List.getElem_toArray, List.getElem_cons_zero, List.getElem_cons_succ, List.setIfInBounds_toArray, List.set_cons_zero, List.set_cons_succ]
    refine RegE.take (i := 14) (v := undef) rfl (by kernel_rfl) (by kernel_rfl) rfl (by kernel_rfl) (by kernel_rfl) (by kernel_rfl) (fun _ _ _ h => h) (Or.inr ⟨by first | rfl | simp [Region.wanted, yielded], rfl⟩) hS ?k15vr
    try simp only [Act.put, List.getElem_toArray, List.getElem_cons_zero, List.getElem_cons_succ, List.setIfInBounds_toArray, List.set_cons_zero, List.set_cons_succ]
    refine RegE.take (i := 15) (v := undef) rfl (by kernel_rfl) (by kernel_rfl) rfl (by kernel_rfl) (by kernel_rfl) (by kernel_rfl) (fun _ _ _ h => h) (Or.inr ⟨by first | rfl | simp [Region.wanted, yielded], rfl⟩) hS ?k16vr
    try simp only [Act.put, List.getElem_toArray, List.getElem_cons_zero, List.getElem_cons_succ, List.setIfInBounds_toArray, List.set_cons_zero, List.set_cons_succ]
    refine RegE.take (i := 16) (v := undef) rfl (by kernel_rfl) (by kernel_rfl) rfl (by kernel_rfl) (by kernel_rfl) (by kernel_rfl) (fun _ _ _ h => h) (Or.inr ⟨by first | rfl | simp [Region.wanted, yielded], rfl⟩) hS ?k17vr
    try simp only [Act.put, List.getElem_toArray, List.getElem_cons_zero, List.getElem_cons_succ, List.setIfInBounds_toArray, List.set_cons_zero, List.set_cons_succ]
    refine RegE.take (i := 17) (v := undef) rfl (by kernel_rfl) (by kernel_rfl) rfl (by kernel_rfl) (by kernel_rfl) (by kernel_rfl) (fun _ _ _ h => h) (Or.inr ⟨by first | rfl | simp [Region.wanted, yielded], rfl⟩) hS ?k18vr
    try simp only [Act.put, List.getElem_toArray, List.getElem_cons_zero, List.getElem_cons_succ, List.setIfInBounds_toArray, List.set_cons_zero, List.set_cons_succ]
    refine RegE.take (i := 18) (v := undef) rfl (by kernel_rfl) (by kernel_rfl) rfl (by kernel_rfl) (by kernel_rfl) (by kernel_rfl) (fun _ _ _ h => h) (Or.inr ⟨by first | rfl | simp [Region.wanted, yielded], rfl⟩) hS ?k19vr
    try simp only [Act.put, List.getElem_toArray, List.getElem_cons_zero, List.getElem_cons_succ, List.setIfInBounds_toArray, List.set_cons_zero, List.set_cons_succ]
    refine RegE.take (i := 19) (v := undef) rfl (by kernel_rfl) (by kernel_rfl) rfl (by kernel_rfl) (by kernel_rfl) (by kernel_rfl) (fun _ _ _ h => h) (Or.inr ⟨by first | rfl | simp [Region.wanted, yielded], rfl⟩) hS ?k20vr
    try simp only [Act.put, List.getElem_toArray, List.getElem_cons_zero, List.getElem_cons_succ, List.setIfInBounds_toArray, List.set_cons_zero, List.set_cons_succ]
    refine RegE.take (i := 20) (v := undef) rfl (by kernel_rfl) (by kernel_rfl) rfl (by kernel_rfl) (by kernel_rfl) (by kernel_rfl) (fun _ _ _ h => h) (Or.inr ⟨by first | rfl | simp [Region.wanted, yielded], rfl⟩) hS ?k21vr
    try simp only [Act.put, List.getElem_toArray, List.getElem_cons_zero, List.getElem_cons_succ, List.setIfInBounds_toArray, List.set_cons_zero, List.set_cons_succ]
    refine RegE.take (i := 21) (v := undef) rfl (by kernel_rfl) (by kernel_rfl) rfl (by kernel_rfl) (by kernel_rfl) (by kernel_rfl) (fun _ _ _ h => h) (Or.inr ⟨by first | rfl | simp [Region.wanted, yielded], rfl⟩) hS ?k22vr
    try simp only [Act.put, List.getElem_toArray, List.getElem_cons_zero, List.getElem_cons_succ, List.setIfInBounds_toArray, List.set_cons_zero, List.set_cons_succ]
    refine RegE.take (i := 22) (v := undef) rfl (by kernel_rfl) (by kernel_rfl) rfl (by kernel_rfl) (by kernel_rfl) (by kernel_rfl) (fun _ _ _ h => h) (Or.inr ⟨by first | rfl | simp [Region.wanted, yielded], rfl⟩) hS ?k23vr
    try simp only [Act.put, List.getElem_toArray, List.getElem_cons_zero, List.getElem_cons_succ, List.setIfInBounds_toArray, List.set_cons_zero, List.set_cons_succ]
    refine RegE.take (i := 23) (v := ?k24vv) rfl (by kernel_rfl) (by kernel_rfl) rfl (by kernel_rfl) (by kernel_rfl) (by kernel_rfl) (fun _ _ _ h => h) (Or.inl ⟨by first | rfl | simp [Region.wanted, yielded], ?k24vy⟩) hS ?k24vr
    case k24vy => intro ww hSw; obtain ⟨hs1, hs2⟩ := hSw; (go_simp <;> with_reducible rfl)
    try simp only [Act.put, List.getElem_toArray, List.getElem_cons_zero, List.getElem_cons_succ, List.setIfInBounds_toArray, List.set_cons_zero, List.set_cons_succ]
    refine RegE.done rfl (by kernel_rfl) (fun K hK => ?_)
    go_simp
    refine hK _ _ ?_
    clear hK K
    go_wp2_with fail
    go_ret
    exact ⟨rfl, (Below.refl _ _).drew⟩
set_option maxRecDepth 100000 in
set_option maxHeartbeats 800000 in
theorem stake_any (b : Nat) (A : Option Addr) (n c i : Nat) (op tb wo : ByteArray) (wl : Value) (ts : List Tok) (word : ByteArray) (hn : n ≤ 1000000) (w : World) (h : Sp w b A n c i op tb wo wl ts) :
    Calls Tryz.prog 142 #[.pointer (some ⟨b, 0, none⟩), .string word] w fun q w' => q = .returned (.bool (takes ts i word)) ∧ Exc b w w' ∧ Sp w' b A n c (if takes ts i word then i + 1 else i) op tb wo wl ts := by
  have HC := hide (sis_any b A n c i op tb wo wl ts word hn w h)
  obtain ⟨r, hr⟩ : ∃ r, r = takes ts i word := ⟨_, rfl⟩
  rw [← hr] at HC ⊢
  have H := hide h
  have hin : (i : Int) ≤ 1000000 ∨ r = false := by
    by_cases hi : i < n
    · left; omega
    · right; rw [hr]; unfold takes
      rw [List.getElem?_eq_none (by have := h.sl.toks; omega)]
  clear hr h
  go_enter Tryz.func142, Tryz.ntmps142
  go_wp2_with fail
  refine HC.out.mono ?_
  rintro q w1 ⟨rfl, hb⟩
  have hP := H.out.below hb
  have f1 := hP.box.frozen 1
  have k1 : w1.cell? ⟨b, 1, none⟩ = some (.int .i64 (i : Nat)) := hP.box.cellAt rfl
  have HX := hide ((Exc.of (b := b) hb))
  have HP := hide hP
  clear hP hb
  cases r with
  | true =>
    have hi : (i : Int) ≤ 1000000 := by rcases hin with h | h; exact h; exact absurd h (by decide)
    clear hin
    go_wp2_with fail
    go_ret
    exact ⟨rfl, HX.out.set 1 _, HP.out.set (i + 1)⟩
  | false =>
    go_wp2_with fail
    go_ret
    exact ⟨rfl, HX.out, HP.out⟩
/-- What is held of a parser in memory while a function value with it is handed about. -/
structure Spw (w : World) (b pb : Nat) (A : Option Addr) (n c i : Nat) (op tb wo : ByteArray) (wl : Value) (ts : List Tok) : Prop where
  sp : Sp w b A n c i op tb wo wl ts
  box : Box w pb 163 #[.pointer (some ⟨b, 0, none⟩)]
set_option maxRecDepth 100000 in
set_option maxHeartbeats 800000 in
theorem wclos_any (b pb : Nat) (hne : pb ≠ b) (A : Option Addr) (n c i : Nat) (op tb wo : ByteArray) (wl : Value) (ts : List Tok) (word : ByteArray) (hn : n ≤ 1000000) (w : World) (h : Spw w b pb A n c i op tb wo wl ts) (ht : takes ts i word = true) :
    Calls Tryz.prog 180 #[.string word, .pointer (some ⟨pb, 0, none⟩)] w fun q w' => q = .returned (.bool false) ∧ Exc b w w' ∧ Spw w' b pb A n c (i + 1) op tb wo wl ts := by
  have HC := hide (fun ww (hh : Sp ww b A n c i op tb wo wl ts) => stake_any b A n c i op tb wo wl ts word hn ww hh)
  rw [ht] at HC
  have H := hide h
  have p0 := h.box.cellAt (i := 0) rfl
  clear ht h
  go_enter Tryz.func180, Tryz.ntmps180
  go_wp2_with fail
  refine (HC.out _ H.out.sp).mono ?_
  rintro q w1 ⟨rfl, hx, hp⟩
  simp only [if_true] at hp
  have HX := hide hx
  have HB := hide (H.out.box.exc hx hne)
  have HP := hide hp
  clear hx hp
  go_wp2_with fail
  go_ret
  exact ⟨rfl, HX.out, HP.out, HB.out⟩
/-- The words stand there, one behind the other. -/
def AllTaken (ts : List Tok) (i : Nat) (ws : List ByteArray) : Prop := ∀ k u, ws[k]? = some u → takes ts (i + k) u = true
set_option maxRecDepth 100000 in
set_option maxHeartbeats 800000 in
theorem sindex_any (b pb : Nat) (hne : pb ≠ b) (A : Option Addr) (n c i : Nat) (op tb wo : ByteArray) (wl : Value) (ts : List Tok) (ws : List ByteArray) (B : Option Addr) (m e : Nat) (hn : n ≤ 1000000) (hm : m ≤ 1000000) (w : World) (h : Spw w b pb A n c i op tb wo wl ts) (hw : Sl w (fun x => x ≠ b) 1 B m (strs ws)) (ht : AllTaken ts i ws) :
    Calls Tryz.prog 83 #[.slice B m e, .func (.func 180) #[] #[.pointer (some ⟨pb, 0, none⟩)]] w fun q w' => q = .returned (.int .i64 (-1)) ∧ Exc b w w' ∧ Spw w' b pb A n c (i + m) op tb wo wl ts := by
  have HC := hide (fun i u (hu : takes ts i u = true) ww (hh : Spw ww b pb A n c i op tb wo wl ts) => wclos_any b pb hne A n c i op tb wo wl ts u hn ww hh hu)
  have HW := hide hw
  have HP := hide h
  have HA := hide ht
  clear h hw ht
  go_enter Tryz.func83, Tryz.ntmps83
  go_wp2_with fail
  go_loopw [8] (fun iv wr => ∃ k : Nat, k ≤ m ∧ iv = .int .i64 k ∧ Exc b w wr ∧ Spw wr b pb A n c (i + k) op tb wo wl ts) (fun iv _ => m - (intOf iv).toNat)
  case atStart => exact ⟨0, Nat.zero_le _, rfl, Exc.refl _ _, HP.out⟩
  case round =>
    obtain ⟨k, hkm, rfl, hx, hp⟩ := hrel
    by_cases hlt : k < m
    · obtain ⟨ad, u, hB, hu, hc⟩ := (HW.out.exc hx).str hlt
      subst hB
      have HK := hide (HC.out (i + k) u (HA.out k u hu) wr hp)
      have HX := hide hx
      clear hp hx hu
      go_wp2_with fail
      refine HK.out.mono ?_
      rintro q wn ⟨rfl, hxn, hpn⟩
      have HX2 := hide (HX.out.trans hxn)
      have HPN := hide hpn
      clear hxn hpn
      go_wp2_with fail
      go_roundw
      case rel => exact ⟨k + 1, by omega, by go_num, HX2.out, HPN.out⟩
      case measure => simp [intOf]; omega
    · obtain rfl : k = m := by omega
      have HX := hide hx
      have HPN := hide hp
      clear hx hp
      go_wp2_with fail
      go_ret
      exact ⟨rfl, HX.out, HPN.out⟩
set_option maxRecDepth 100000 in
set_option maxHeartbeats 800000 in
theorem words_any (b : Nat) (A : Option Addr) (n c i : Nat) (op tb wo : ByteArray) (wl : Value) (ts : List Tok) (ws : List ByteArray) (B : Option Addr) (m e : Nat) (hn : n ≤ 1000000) (hm : m ≤ 1000000) (w : World) (h : Sp w b A n c i op tb wo wl ts) (hw : Sl w (fun x => x ≠ b) 1 B m (strs ws)) (ht : AllTaken ts i ws) :
    Calls Tryz.prog 140 #[.pointer (some ⟨b, 0, none⟩), .slice B m e] w fun q w' => q = .returned (.bool true) ∧ Exc b w w' ∧ Sp w' b A n c (i + m) op tb wo wl ts := by
  have hbw := h.box.lt
  have hb0 := (Below.refl w.heap.size w).alloc (Nat.le_refl _) (.cells #[.pointer (some ⟨b, 0, none⟩)] 163)
  have HC : Hid (Calls Tryz.prog 179 #[.slice B m e, .func (.func 180) #[] #[.pointer (some ⟨w.heap.size, 0, none⟩)]] (w.alloc (.cells #[.pointer (some ⟨b, 0, none⟩)] 163)) fun q w' => q = .returned (.bool false) ∧ Exc b (w.alloc (.cells #[.pointer (some ⟨b, 0, none⟩)] 163)) w' ∧ Spw w' b w.heap.size A n c (i + m) op tb wo wl ts) := by
    have hI := hide (sindex_any b w.heap.size (by omega) A n c i op tb wo wl ts ws B m e hn hm (w.alloc (.cells #[.pointer (some ⟨b, 0, none⟩)] 163)) ⟨h.below hb0, Box.new w _ _⟩ (hw.below hb0) ht)
    refine hide ?_
    clear h hw ht hb0
    generalize (w.alloc (.cells #[.pointer (some ⟨b, 0, none⟩)] 163)) = w0 at hI
    go_enter Tryz.func179, Tryz.ntmps179
    go_wp2_with fail
    refine hI.out.mono ?_
    rintro q w1 ⟨rfl, hx, hp⟩
    have HX := hide hx
    have HP := hide hp
    clear hx hp
    go_wp2_with fail
    go_ret
    exact ⟨rfl, HX.out, HP.out⟩
  have HB := hide hb0
  clear h hw ht hb0
  go_enter Tryz.func140, Tryz.ntmps140
  go_wp2_with fail
  refine HC.out.mono ?_
  rintro q w1 ⟨rfl, hx, hp⟩
  have HX := hide ((Exc.of (b := b) HB.out).trans hx)
  have HP := hide hp
  clear hx hp
  go_wp2_with fail
  go_ret
  exact ⟨rfl, HX.out, HP.out.sp⟩
end Go.Proofs.YtojincohnjophaaGreatDoor

/-! Reserved words, at given words (seat c). -/
namespace Go.Proofs.YtojincohnjophaaGreatDoor
open Go.RowKit
set_option linter.unusedVariables false

set_option maxRecDepth 100000 in
theorem reserved_k (w : World) : Calls Tryz.prog 216 #[.string ⟨#[107]⟩] w fun q w' => q = .returned (.bool false) ∧ w = w' := by
  go_enter Tryz.func216, Tryz.ntmps216
  go_wp2_with fail
  go_ret
  exact ⟨rfl, rfl⟩
set_option maxRecDepth 100000 in
theorem reserved_t (w : World) : Calls Tryz.prog 216 #[.string ⟨#[116]⟩] w fun q w' => q = .returned (.bool false) ∧ w = w' := by
  go_enter Tryz.func216, Tryz.ntmps216
  go_wp2_with fail
  go_ret
  exact ⟨rfl, rfl⟩
end Go.Proofs.YtojincohnjophaaGreatDoor

/-! The parser of expressions: an atom (seat c). -/
namespace Go.Proofs.YtojincohnjophaaGreatDoor
open Go.RowKit
set_option linter.unusedVariables false

def eK : Value := .agg #[.string ⟨#[99, 111, 108]⟩, .int .i64 0, .int .i64 0, .string .empty, .string ⟨#[107]⟩, .slice none 0 0]
def eN : Value := .agg #[.string ⟨#[108, 105, 116]⟩, .int .i64 1, .int .i64 1, .string .empty, .string .empty, .slice none 0 0]
theorem takes_at {ts : List Tok} {i : Nat} {k : Nat} {s word : ByteArray} (h : ts[i]? = some (k, s)) : takes ts i word = isB k s word := by unfold takes; rw [h]

theorem Exc.setNew {b : Nat} {a w : World} (h : Exc b a w) {x : Addr} (hx : a.heap.size ≤ x.block) (u : Value) : Exc b a (w.setCell x u) :=
  ⟨h.os, h.tape, h.output, by simpa [World.setCell] using h.size, fun k hk hb => (Below.heap_setCell _ _ _ _ (by omega)).trans (h.block k hk hb)⟩
/-- An expression that is laid in a cell of its own, and a temporary: what a function returns. -/
theorem res_expr {fn : Func} {p u : Tmp} (h : fn.results = #[.cell p 107, .tmp u]) (tmps : Array Value) (w : World) (g : Nat) (cs : Array Value) (hc : cs.size = 6)
    (hp : tmps.getD p undef = .pointer (some ⟨g, 0, none⟩)) (hB : Box w g 107 cs) : (results fn tmps).run Tryz.prog w = .ok (.tuple #[.agg cs, tmps.getD u undef]) w := by
  rw [results_cell_tmp h, hp]
  have hl := run_loadVar_row w g 107 107 cs (0, 0) _ hB Tryz.underlying107 rfl (by rw [hc]; kernel_rfl)
  simp [asAddr, hl, Result.andThen]
theorem isB_k (word : ByteArray) (h : word ≠ ⟨#[107]⟩) : isB 1 ⟨#[107]⟩ word = false := by
  have e : decide ((⟨#[107]⟩ : ByteArray) = word) = false := decide_eq_false (fun e => h e.symm)
  unfold isB; rw [e]; rfl
/-- Words that are laid in a new block. -/
theorem words_new (w : World) (b : Nat) (hb : b < w.heap.size) (ws : List ByteArray) (T : TypeId) : Sl (w.alloc (.cells (strs ws).toArray T)) (fun x => x ≠ b) 1 (some ⟨w.heap.size, 0, none⟩) ws.length (strs ws) :=
  ⟨by simp [strs_length], fun _ => ⟨_, rfl, by show w.heap.size ≠ b; omega, by simp, fun j u hu => by
    have := (Box.new w T (strs ws).toArray).cellAt (i := j) (v := u) (by simpa using hu)
    have e : (⟨w.heap.size, 0, none⟩ : Addr).add j = ⟨w.heap.size, j, none⟩ := by cases j <;> simp [Addr.add]
    rw [e]; exact this⟩⟩
set_option maxRecDepth 100000 in
set_option maxHeartbeats 800000 in
theorem atom_k (b : Nat) (A : Option Addr) (n c i deep : Nat) (ts : List Tok) (hn : n ≤ 1000000) (hi : ts[i]? = some (1, ⟨#[107]⟩)) (w : World) (h : Ps w b A n c i deep ts) :
    Calls Tryz.prog 268 #[.pointer (some ⟨b, 0, none⟩)] w fun q w' => q = .returned (.tuple #[eK, .bool true]) ∧ Exc b w w' ∧ Ps w' b A n c (i + 1) deep ts := by
  have hlt : i < n := by
    have := (List.getElem?_eq_some_iff.1 hi).1
    have := h.sl.toks; omega
  have HT := hide (fun ww (hh : Ps ww b A n c i deep ts) => take_any b A n c i deep ts ⟨#[40]⟩ hn ww hh)
  rw [takes_at hi, isB_k _ (by decide)] at HT
  have HO : takenO ts i [⟨#[45]⟩] = none := by unfold takenO; simp [takes_at hi, isB_k]
  have HD := hide (fun ww (B : Option Addr) (hh : Ps ww b A n c i deep ts) (hw : Sl ww (fun x => x ≠ b) 1 B 1 (strs [⟨#[45]⟩])) => taken_any b A n c i deep ts hn B 1 1 [⟨#[45]⟩] (by omega) ww hh hw)
  rw [HO] at HD
  have HM := hide (fun ww => lmay_word ⟨#[107]⟩ 107 [] rfl (by decide) (by decide) ww)
  have HR := hide reserved_k
  have HI := hide hi
  have HH := hide h
  have hb := h.box.lt
  have H := hide (h.below ((Below.refl _ _).alloc (Nat.le_refl _) (.cells #[.string .empty, .int .i64 0, .int .i64 0, .string .empty, .string .empty, .slice none 0 0] 107)))
  have kE := Box.new w 107 #[.string .empty, .int .i64 0, .int .i64 0, .string .empty, .string .empty, .slice none 0 0]
  have HE := hide ((Exc.refl b w).alloc (.cells #[.string .empty, .int .i64 0, .int .i64 0, .string .empty, .string .empty, .slice none 0 0] 107))
  clear hi HO h
  go_enter Tryz.func268, Tryz.ntmps268
  go_wp2_with fail
  refine (HT.out _ H.out).mono ?_
  rintro q w1 ⟨rfl, hx1, hp1⟩
  have kE := kE.exc hx1 (by omega)
  have HX1 := hide (HE.out.trans hx1)
  simp only [Bool.false_eq_true, if_false] at hp1
  have HP1 := hide hp1
  clear hx1 hp1 HE H
  go_wp2_with fail
  have hb1 : b < w1.heap.size := HP1.out.box.lt
  have kE := kE.up (.cells #[.string ⟨#[45]⟩] 9)
  have hlE := kE.lt
  have HP2 := HP1.out.below ((Below.refl _ _).alloc (Nat.le_refl _) (.cells #[.string ⟨#[45]⟩] 9))
  have HX2 := hide (HX1.out.alloc (.cells #[.string ⟨#[45]⟩] 9))
  refine (HD.out _ _ HP2 (words_new w1 b hb1 [⟨#[45]⟩] _)).mono ?_
  rintro q w2 ⟨rfl, hx2, hp2⟩
  have kE := kE.exc hx2 (by omega)
  have hlE2 := kE.lt
  have HX3 := hide (HX2.out.trans hx2)
  simp only [Option.isSome_none, Bool.false_eq_true, if_false] at hp2
  have HP3 := hide hp2
  have c0 := hp2.box.cellAt (i := 0) rfl
  have c1 := hp2.box.cellAt (i := 1) rfl
  have hd : decide ((n : Int) ≤ (i : Int)) = false := by simp; omega
  have hd0 : decide (n ≤ i) = false := by simp; omega
  have hi1 : (0 : Int) ≤ (i : Int) := by omega
  have hi2 : (i : Int) < (n : Int) := by omega
  obtain ⟨ad, t, hA, ht, hc1, hc2⟩ := hp2.sl.tok hlt
  subst hA
  obtain rfl := Option.some.inj (HI.out.symm.trans ht)
  have HS : Hid (∀ ww, Below w2.heap.size w2 ww → (ww.cell? ⟨b, 0, none⟩ = some (.slice (some ad) n c) ∧ ww.cell? ⟨b, 1, none⟩ = some (.int .i64 (i : Nat))) ∧ ww.cell? (ad.add (i * 2)) = some (.int .i64 1) ∧ ww.cell? ⟨(ad.add (i * 2)).block, (ad.add (i * 2)).off + 1, none⟩ = some (.string ⟨#[107]⟩)) := by
    intro ww hb
    have h2 := HP3.out.below hb
    obtain ⟨a2, t2, ha2, ht2, h3, h4⟩ := h2.sl.tok hlt
    obtain rfl := Option.some.inj ha2
    obtain rfl := Option.some.inj (HI.out.symm.trans ht2)
    exact ⟨⟨h2.box.cellAt rfl, h2.box.cellAt rfl⟩, h3, h4⟩
  have hbx : Below w2.heap.size w2 w2.drew := (Below.refl _ _).drew
  clear hx2 hp2 HP2 ht HX2 HX1 HP1
  go_upto_region 5 with (fail)
  go_region_held3 (fun ww => (ww.cell? ⟨b, 0, none⟩ = some (.slice (some ad) n c) ∧ ww.cell? ⟨b, 1, none⟩ = some (.int .i64 (i : Nat))) ∧ ww.cell? (ad.add (i * 2)) = some (.int .i64 1) ∧ ww.cell? ⟨(ad.add (i * 2)).block, (ad.add (i * 2)).off + 1, none⟩ = some (.string ⟨#[107]⟩))
    (first | exact HS.out _ hbx)
    (((with_reducible refine (HM.out _).mono ?_); (rintro q wn ⟨rfl, hbn⟩; have hbx := hbx.trans (hbn.mono hbx.size))))
  have hbW := hbx
  have hbx := hbx.drew
  go_upto_region 7 with (fail)
  go_region_held3 (fun ww => (ww.cell? ⟨b, 0, none⟩ = some (.slice (some ad) n c) ∧ ww.cell? ⟨b, 1, none⟩ = some (.int .i64 (i : Nat))) ∧ ww.cell? (ad.add (i * 2)) = some (.int .i64 1) ∧ ww.cell? ⟨(ad.add (i * 2)).block, (ad.add (i * 2)).off + 1, none⟩ = some (.string ⟨#[107]⟩))
    (first | exact HS.out _ hbx | exact HS.out _ (hbx.alloc hbx.size _))
    (fail)
  have hby := (hbW.alloc hbW.size (.cells #[.int .i64 1, .string ⟨#[107]⟩] 202)).drew
  have kT := (Box.new wn 202 #[.int .i64 1, .string ⟨#[107]⟩]).drew
  have hbn2 := hbn.size
  have kE := kE.belowS hby
  have hwn := hbW.size
  generalize hwy : (wn.alloc (.cells #[.int .i64 1, .string ⟨#[107]⟩] 202)).drew = wy at *
  have hP4 := HP3.out.below hby
  have HX4 := hide (HX3.out.below hby)
  have hbw := HP3.out.box.lt
  have c1 := hP4.box.cellAt (i := 1) rfl
  have f1 := hP4.box.frozen 1
  have hbT : b < wn.heap.size := by omega
  have kT := kT.other (a := ⟨b, 1, none⟩) (by simp; omega) (.int .i64 ((i + 1 : Nat) : Int))
  have kE := kE.other (a := ⟨b, 1, none⟩) (by simp; omega) (.int .i64 ((i + 1 : Nat) : Int))
  have HP5 := hide (hP4.set (i + 1))
  have HX5 := hide (HX4.out.set 1 (.int .i64 ((i + 1 : Nat) : Int)))
  have ei : ((i + 1 : Nat) : Int) = (i : Int) + 1 := by simp
  rw [ei] at kT kE HP5 HX5
  have z0 := kT.cellAt (i := 0) rfl
  have z1 := kT.cellAt (i := 1) rfl
  clear hbx hbW hby hbn hP4 HS ei
  go_upto_region 24 with (fail)
  generalize hwz : wy.setCell _ _ = wz at *
  have p0 := kE.cellAt (i := 0) rfl
  have f0 := kE.frozen 0
  have p1 := kE.cellAt (i := 1) rfl
  have f1 := kE.frozen 1
  have p2 := kE.cellAt (i := 2) rfl
  have f2 := kE.frozen 2
  have p3 := kE.cellAt (i := 3) rfl
  have f3 := kE.frozen 3
  have p4 := kE.cellAt (i := 4) rfl
  have f4 := kE.frozen 4
  have p5 := kE.cellAt (i := 5) rfl
  have f5 := kE.frozen 5
  have hbx : Below wz.heap.size wz wz.drew := (Below.refl _ _).drew
  have hneT : wn.heap.size ≠ w.heap.size := by omega
  have HS : Hid (∀ ww, Below wz.heap.size wz ww → ww.cell? ⟨wn.heap.size, 0, none⟩ = some (.int .i64 1) ∧ ww.cell? ⟨wn.heap.size, 1, none⟩ = some (.string ⟨#[107]⟩)) := fun ww hb => ⟨(kT.belowS hb).cellAt rfl, (kT.belowS hb).cellAt rfl⟩
  have HS2 : Hid (∀ u0 u1 u2 u3 u4 u5, (((((((wz.setCell ⟨w.heap.size, 0, none⟩ u0).setCell ⟨w.heap.size, 1, none⟩ u1).setCell ⟨w.heap.size, 2, none⟩ u2).setCell ⟨w.heap.size, 3, none⟩ u3).setCell ⟨w.heap.size, 4, none⟩ u4).setCell ⟨w.heap.size, 5, none⟩ u5).drew).cell? ⟨wn.heap.size, 0, none⟩ = some (.int .i64 1) ∧ (((((((wz.setCell ⟨w.heap.size, 0, none⟩ u0).setCell ⟨w.heap.size, 1, none⟩ u1).setCell ⟨w.heap.size, 2, none⟩ u2).setCell ⟨w.heap.size, 3, none⟩ u3).setCell ⟨w.heap.size, 4, none⟩ u4).setCell ⟨w.heap.size, 5, none⟩ u5).drew).cell? ⟨wn.heap.size, 1, none⟩ = some (.string ⟨#[107]⟩)) := by
    intro u0 u1 u2 u3 u4 u5
    have k6 := (((((kT.other (a := ⟨w.heap.size, 0, none⟩) (by simpa using hneT.symm) u0).other (a := ⟨w.heap.size, 1, none⟩) (by simpa using hneT.symm) u1).other (a := ⟨w.heap.size, 2, none⟩) (by simpa using hneT.symm) u2).other (a := ⟨w.heap.size, 3, none⟩) (by simpa using hneT.symm) u3).other (a := ⟨w.heap.size, 4, none⟩) (by simpa using hneT.symm) u4).other (a := ⟨w.heap.size, 5, none⟩) (by simpa using hneT.symm) u5
    exact ⟨k6.drew.cellAt rfl, k6.drew.cellAt rfl⟩
  go_region_held3 (fun ww => ww.cell? ⟨wn.heap.size, 0, none⟩ = some (.int .i64 1) ∧ ww.cell? ⟨wn.heap.size, 1, none⟩ = some (.string ⟨#[107]⟩))
    (first | (with_reducible exact HS.out _ hbx) | (with_reducible exact HS2.out _ _ _ _ _ _))
    (((with_reducible refine (HR.out _).mono ?_); (rintro q wq ⟨rfl, rfl⟩)))
  have hneb : w.heap.size ≠ b := by omega
  have kF := ((((((kE.set 0 (.string ⟨#[99, 111, 108]⟩)).set 1 (.int .i64 0)).set 2 (.int .i64 0)).set 3 (.string .empty)).set 4 (.string ⟨#[107]⟩)).set 5 (.slice none 0 0)).drew
  have HKF := hide kF
  have HXF := hide ((((((HX5.out.setNew (x := ⟨w.heap.size, 0, none⟩) (Nat.le_refl _) (.string ⟨#[99, 111, 108]⟩)).setNew (x := ⟨w.heap.size, 1, none⟩) (Nat.le_refl _) (.int .i64 0)).setNew (x := ⟨w.heap.size, 2, none⟩) (Nat.le_refl _) (.int .i64 0)).setNew (x := ⟨w.heap.size, 3, none⟩) (Nat.le_refl _) (.string .empty)).setNew (x := ⟨w.heap.size, 4, none⟩) (Nat.le_refl _) (.string ⟨#[107]⟩)).setNew (x := ⟨w.heap.size, 5, none⟩) (Nat.le_refl _) (.slice none 0 0)).drew
  have HBF := hide ((((((HP5.out.box.other (a := ⟨w.heap.size, 0, none⟩) (by simpa using hneb) (.string ⟨#[99, 111, 108]⟩)).other (a := ⟨w.heap.size, 1, none⟩) (by simpa using hneb) (.int .i64 0)).other (a := ⟨w.heap.size, 2, none⟩) (by simpa using hneb) (.int .i64 0)).other (a := ⟨w.heap.size, 3, none⟩) (by simpa using hneb) (.string .empty)).other (a := ⟨w.heap.size, 4, none⟩) (by simpa using hneb) (.string ⟨#[107]⟩)).other (a := ⟨w.heap.size, 5, none⟩) (by simpa using hneb) (.slice none 0 0)).drew
  clear p0 p1 p2 p3 p4 p5 f0 f1 f2 f3 f4 f5 HS HS2 kF kE kT hbx
  go_wp2_with fail
  refine bodyPost_ret (v := .tuple #[eK, .bool true]) ?_ rfl ⟨rfl, HXF.out, ⟨HBF.out, HH.out.sl.exc HXF.out⟩⟩
  exact res_expr (p := 2) (u := 3) rfl _ _ w.heap.size #[.string ⟨#[99, 111, 108]⟩, .int .i64 0, .int .i64 0, .string .empty, .string ⟨#[107]⟩, .slice none 0 0] rfl rfl HKF.out
end Go.Proofs.YtojincohnjophaaGreatDoor
