/- The parser of expressions: taken (seat c). -/
import Derived.Test.YtojincohnjophaaGreatDoorExA
/-! The parser of expressions: take, taken (seat c). -/
namespace Go.Proofs.YtojincohnjophaaGreatDoor
open Go.RowKit
set_option linter.unusedVariables false

theorem cellsTk_get : ∀ {l : List Tok} {k : Nat} {c : Tok}, l[k]? = some c → (cellsTk l)[k * 2]? = some (.int .i64 (c.1 : Nat)) ∧ (cellsTk l)[k * 2 + 1]? = some (.string c.2)
  | [], _, _, h => by simp at h
  | x :: l, 0, c, h => by
    obtain rfl : x = c := by simpa using h
    exact ⟨rfl, rfl⟩
  | x :: l, k + 1, c, h => by
    have := cellsTk_get (l := l) (k := k) (c := c) (by simpa using h)
    have e : (k + 1) * 2 = k * 2 + 2 := by omega
    rw [e]
    exact this
theorem Sl.toks {w : World} {V : Nat → Prop} {A : Option Addr} {n : Nat} {l : List Tok} (h : Sl w V 2 A n (cellsTk l)) : l.length = n := by
  have := h.1; rw [cellsTk_length] at this; omega
theorem Sl.tok {w : World} {V : Nat → Prop} {A : Option Addr} {n k : Nat} {l : List Tok} (h : Sl w V 2 A n (cellsTk l)) (hk : k < n) :
    ∃ a c, A = some a ∧ l[k]? = some c ∧ w.cell? (a.add (k * 2)) = some (.int .i64 (c.1 : Nat)) ∧ w.cell? ⟨(a.add (k * 2)).block, (a.add (k * 2)).off + 1, none⟩ = some (.string c.2) := by
  obtain ⟨a, e, _, _, hc⟩ := h.2 (by omega)
  have hl : k < l.length := by have := h.toks; omega
  have := cellsTk_get (List.getElem?_eq_getElem hl)
  exact ⟨a, l[k], e, List.getElem?_eq_getElem hl, hc _ _ this.1, by rw [← Addr.add_succ' _ 0, add_add']; exact hc _ _ this.2⟩

def takes (ts : List Tok) (i : Nat) (word : ByteArray) : Bool := match ts[i]? with
  | some t => isB t.1 t.2 word
  | none => false
/-- A parser of expressions in memory. -/
structure Ps (w : World) (b : Nat) (A : Option Addr) (n c i deep : Nat) (ts : List Tok) : Prop where
  box : Box w b 291 #[.slice A n c, .int .i64 (i : Nat), .int .i64 (deep : Nat)]
  sl : Sl w (fun x => x ≠ b) 2 A n (cellsTk ts)
theorem Ps.below {w w' : World} {b : Nat} {A : Option Addr} {n c i deep : Nat} {ts : List Tok} (h : Ps w b A n c i deep ts) (hb : Below w.heap.size w w') : Ps w' b A n c i deep ts := ⟨h.box.belowS hb, h.sl.below hb⟩
theorem Ps.set {w : World} {b : Nat} {A : Option Addr} {n c i deep : Nat} {ts : List Tok} (h : Ps w b A n c i deep ts) (j : Nat) : Ps (w.setCell ⟨b, 1, none⟩ (.int .i64 (j : Nat))) b A n c j deep ts :=
  ⟨h.box.set 1 _, h.sl.keep (by simp [World.setCell]) fun x hx _ => Below.heap_setCell _ _ _ _ hx⟩
set_option maxRecDepth 100000 in
set_option maxHeartbeats 800000 in
theorem take_any (b : Nat) (A : Option Addr) (n c i deep : Nat) (ts : List Tok) (word : ByteArray) (hn : n ≤ 1000000) (w : World) (h : Ps w b A n c i deep ts) :
    Calls Tryz.prog 260 #[.pointer (some ⟨b, 0, none⟩), .string word] w fun q w' => q = .returned (.bool (takes ts i word)) ∧ Exc b w w' ∧ Ps w' b A n c (if takes ts i word then i + 1 else i) deep ts := by
  obtain ⟨r, hr⟩ : ∃ r, r = takes ts i word := ⟨_, rfl⟩
  rw [← hr]
  have H := hide h
  have c0 := h.box.cellAt (i := 0) rfl
  have c1 := h.box.cellAt (i := 1) rfl
  by_cases hlt : i < n
  · obtain ⟨ad, t, hA, ht, hc1, hc2⟩ := h.sl.tok hlt
    subst hA
    have hrr : r = isB t.1 t.2 word := by rw [hr]; unfold takes; rw [ht]
    have HC := hide (is_any t.1 t.2 word)
    rw [← hrr] at HC
    obtain ⟨tk, tv⟩ := t
    have hd : decide ((n : Int) ≤ (i : Int)) = false := by simp; omega
    have hd0 : decide (n ≤ i) = false := by simp; omega
    have hi1 : (0 : Int) ≤ (i : Int) := by omega
    have hi2 : (i : Int) < (n : Int) := by omega
    have hbx : Below w.heap.size w w.drew := (Below.refl _ _).drew
    have HS : Hid (∀ ww, Below w.heap.size w ww → (ww.cell? ⟨b, 0, none⟩ = some (.slice (some ad) n c) ∧ ww.cell? ⟨b, 1, none⟩ = some (.int .i64 (i : Nat))) ∧ ww.cell? (ad.add (i * 2)) = some (.int .i64 (tk : Nat)) ∧ ww.cell? ⟨(ad.add (i * 2)).block, (ad.add (i * 2)).off + 1, none⟩ = some (.string tv)) := by
      intro ww hb
      have h2 := h.below hb
      obtain ⟨a2, t2, ha2, ht2, h3, h4⟩ := h2.sl.tok hlt
      obtain rfl := Option.some.inj ha2
      obtain rfl := Option.some.inj (ht.symm.trans ht2)
      exact ⟨⟨h2.box.cellAt rfl, h2.box.cellAt rfl⟩, h3, h4⟩
    clear hr hrr ht h
    go_enter Tryz.func260, Tryz.ntmps260
    go_upto_region 1 with (fail)
    go_region_held3 (fun ww => (ww.cell? ⟨b, 0, none⟩ = some (.slice (some ad) n c) ∧ ww.cell? ⟨b, 1, none⟩ = some (.int .i64 (i : Nat))) ∧ ww.cell? (ad.add (i * 2)) = some (.int .i64 (tk : Nat)) ∧ ww.cell? ⟨(ad.add (i * 2)).block, (ad.add (i * 2)).off + 1, none⟩ = some (.string tv))
      (first | exact HS.out _ hbx)
      (((with_reducible refine (HC.out _).mono ?_); (rintro q wn ⟨rfl, hbn⟩; have hbx := hbx.trans (hbn.mono hbx.size))))
    have hP := H.out.below hbx
    have f1 := hP.box.frozen 1
    have k1 := hP.box.cellAt (i := 1) rfl
    have HX := hide ((Exc.of (b := b) hbx))
    have HP := hide hP
    clear hP hbx hbn
    cases r with
    | true =>
      go_wp2_with fail
      go_ret
      exact ⟨rfl, HX.out.set 1 _, HP.out.set (i + 1)⟩
    | false =>
      go_wp2_with fail
      go_ret
      exact ⟨rfl, HX.out, HP.out⟩
  · have hd : decide ((n : Int) ≤ (i : Int)) = true := by simp; omega
    have hd0 : decide (n ≤ i) = true := by simp; omega
    have hrr : r = false := by
      rw [hr]; unfold takes
      rw [List.getElem?_eq_none (by have := h.sl.toks; omega)]
    subst hrr
    have hS : w.drew.cell? ⟨b, 0, none⟩ = some (.slice A n c) ∧ w.drew.cell? ⟨b, 1, none⟩ = some (.int .i64 (i : Nat)) := ⟨h.box.drew.cellAt rfl, h.box.drew.cellAt rfl⟩
    clear hr h c0 c1
    go_enter Tryz.func260, Tryz.ntmps260
    go_upto_region 1 with (fail)
    refine RegE.begin_ (n := 24) (S := fun ww => ww.cell? ⟨b, 0, none⟩ = some (.slice A n c) ∧ ww.cell? ⟨b, 1, none⟩ = some (.int .i64 (i : Nat))) (by kernel_rfl) (by kernel_rfl) (by kernel_rfl) ?_
    refine RegE.take (i := 0) (v := ?k1vv) rfl (by kernel_rfl) (by kernel_rfl) rfl (by kernel_rfl) (by kernel_rfl) (by kernel_rfl) (fun _ _ _ h => h) (Or.inl ⟨by first | rfl | simp [Region.wanted, yielded], ?k1vy⟩) hS ?k1vr
    case k1vy => intro ww hSw; obtain ⟨hs1, hs2⟩ := hSw; (go_simp <;> with_reducible rfl)
    try simp only [Act.put, List.getElem_toArray, List.getElem_cons_zero, List.setIfInBounds_toArray, List.set_cons_zero, List.set_cons_succ]
    refine RegE.take (i := 1) (v := ?k2vv) rfl (by kernel_rfl) (by kernel_rfl) rfl (by kernel_rfl) (by kernel_rfl) (by kernel_rfl) (fun _ _ _ h => h) (Or.inl ⟨by first | rfl | simp [Region.wanted, yielded], ?k2vy⟩) hS ?k2vr
    case k2vy => intro ww hSw; obtain ⟨hs1, hs2⟩ := hSw; (go_simp <;> with_reducible rfl)
    try simp only [Act.put, List.getElem_toArray, List.getElem_cons_zero, List.getElem_cons_succ, List.setIfInBounds_toArray, List.set_cons_zero, List.set_cons_succ]
    refine RegE.take (i := 2) (v := ?k3vv) rfl (by kernel_rfl) (by kernel_rfl) rfl (by kernel_rfl) (by kernel_rfl) (by kernel_rfl) (fun _ _ _ h => h) (Or.inl ⟨by first | rfl | simp [Region.wanted, yielded], ?k3vy⟩) hS ?k3vr
    case k3vy => intro ww hSw; obtain ⟨hs1, hs2⟩ := hSw; (go_simp <;> with_reducible rfl)
    try simp only [Act.put, List.getElem_toArray, List.getElem_cons_zero, List.getElem_cons_succ, List.setIfInBounds_toArray, List.set_cons_zero, List.set_cons_succ]
    refine RegE.take (i := 3) (v := ?k4vv) rfl (by kernel_rfl) (by kernel_rfl) rfl (by kernel_rfl) (by kernel_rfl) (by kernel_rfl) (fun _ _ _ h => h) (Or.inl ⟨by first | rfl | simp [Region.wanted, yielded], ?k4vy⟩) hS ?k4vr
    case k4vy => intro ww hSw; obtain ⟨hs1, hs2⟩ := hSw; (go_simp <;> with_reducible rfl)
    try simp only [Act.put, List.getElem_toArray, List.getElem_cons_zero, List.getElem_cons_succ, List.setIfInBounds_toArray, List.set_cons_zero, List.set_cons_succ]
    refine RegE.take (i := 4) (v := ?k5vv) rfl (by kernel_rfl) (by kernel_rfl) rfl (by kernel_rfl) (by kernel_rfl) (by kernel_rfl) (fun _ _ _ h => h) (Or.inl ⟨by first | rfl | simp [Region.wanted, yielded], ?k5vy⟩) hS ?k5vr
    case k5vy => intro ww hSw; obtain ⟨hs1, hs2⟩ := hSw; (go_simp <;> with_reducible rfl)
    try simp only [Act.put, List.getElem_toArray, List.getElem_cons_zero, List.getElem_cons_succ, List.setIfInBounds_toArray, List.set_cons_zero, List.set_cons_succ]
    refine RegE.take (i := 5) (v := ?k6vv) rfl (by kernel_rfl) (by kernel_rfl) rfl (by kernel_rfl) (by kernel_rfl) (by kernel_rfl) (fun _ _ _ h => h) (Or.inl ⟨by first | rfl | simp [Region.wanted, yielded], ?k6vy⟩) hS ?k6vr
    case k6vy => intro ww hSw; obtain ⟨hs1, hs2⟩ := hSw; (go_simp <;> with_reducible rfl)
    try simp only [Act.put, List.getElem_toArray, List.getElem_cons_zero, List.getElem_cons_succ, List.setIfInBounds_toArray, List.set_cons_zero, List.set_cons_succ]
    refine RegE.take (i := 6) (v := ?k7vv) rfl (by kernel_rfl) (by kernel_rfl) rfl (by kernel_rfl) (by kernel_rfl) (by kernel_rfl) (fun _ _ _ h => h) (Or.inl ⟨by first | rfl | simp [Region.wanted, yielded], ?k7vy⟩) hS ?k7vr
    case k7vy => intro ww hSw; obtain ⟨hs1, hs2⟩ := hSw; (go_simp <;> with_reducible rfl)
    try simp only [Act.put, List.getElem_toArray, List.getElem_cons_zero, List.getElem_cons_succ, List.setIfInBounds_toArray, List.set_cons_zero, List.set_cons_succ]
    refine RegE.take (i := 7) (v := ?k8vv) rfl (by kernel_rfl) (by kernel_rfl) rfl (by kernel_rfl) (by kernel_rfl) (by kernel_rfl) (fun _ _ _ h => h) (Or.inl ⟨by first | rfl | simp [Region.wanted, yielded], ?k8vy⟩) hS ?k8vr
    case k8vy => intro ww hSw; obtain ⟨hs1, hs2⟩ := hSw; (go_simp <;> with_reducible rfl)
    try simp only [Act.put, List.getElem_toArray, List.getElem_cons_zero, List.getElem_cons_succ, List.setIfInBounds_toArray, List.set_cons_zero, List.set_cons_succ]
    refine RegE.take (i := 8) (v := ?k9vv) rfl (by kernel_rfl) (by kernel_rfl) rfl (by kernel_rfl) (by kernel_rfl) (by kernel_rfl) (fun _ _ _ h => h) (Or.inl ⟨by first | rfl | simp [Region.wanted, yielded], ?k9vy⟩) hS ?k9vr
    case k9vy => intro ww hSw; obtain ⟨hs1, hs2⟩ := hSw; (go_simp <;> with_reducible rfl)
    try simp only [Act.put, List.getElem_toArray, List.getElem_cons_zero, List.getElem_cons_succ, List.setIfInBounds_toArray, List.set_cons_zero, List.set_cons_succ]
    refine RegE.take (i := 9) (v := ?k10vv) rfl (by kernel_rfl) (by kernel_rfl) rfl (by kernel_rfl) (by kernel_rfl) (by kernel_rfl) (fun _ _ _ h => h) (Or.inl ⟨by first | rfl | simp [Region.wanted, yielded], ?k10vy⟩) hS ?k10vr
    case k10vy => intro ww hSw; obtain ⟨hs1, hs2⟩ := hSw; (go_simp <;> with_reducible rfl)
    try simp only [Act.put, List.getElem_toArray, List.getElem_cons_zero, List.getElem_cons_succ, List.setIfInBounds_toArray, List.set_cons_zero, List.set_cons_succ]
    refine RegE.take (i := 10) (v := ?k11vv) rfl (by kernel_rfl) (by kernel_rfl) rfl (by kernel_rfl) (by kernel_rfl) (by kernel_rfl) (fun _ _ _ h => h) (Or.inl ⟨by first | rfl | simp [Region.wanted, yielded], ?k11vy⟩) hS ?k11vr
    case k11vy => intro ww hSw; obtain ⟨hs1, hs2⟩ := hSw; (go_simp <;> with_reducible rfl)
    try simp only [Act.put, List.getElem_toArray, List.getElem_cons_zero, List.getElem_cons_succ, List.setIfInBounds_toArray, List.set_cons_zero, List.set_cons_succ]
    refine RegE.take (i := 11) (v := undef) rfl (by kernel_rfl) (by kernel_rfl) rfl (by kernel_rfl) (by kernel_rfl) (by kernel_rfl) (fun _ _ _ h => h) (Or.inr ⟨by first | rfl | simp [Region.wanted, yielded], rfl⟩) hS ?k12vr
    try simp only [Act.put, List.getElem_toArray, List.getElem_cons_zero, List.getElem_cons_succ, List.setIfInBounds_toArray, List.set_cons_zero, List.set_cons_succ]
    refine RegE.take (i := 12) (v := undef) rfl (by kernel_rfl) (by kernel_rfl) rfl (by kernel_rfl) (by kernel_rfl) (by kernel_rfl) (fun _ _ _ h => h) (Or.inr ⟨by first | rfl | simp [Region.wanted, yielded], rfl⟩) hS ?k13vr
    try simp only [Act.put, List.getElem_toArray, List.getElem_cons_zero, List.getElem_cons_succ, List.setIfInBounds_toArray, List.set_cons_zero, List.set_cons_succ]
    refine RegE.take (i := 13) (v := undef) rfl (by kernel_rfl) (by kernel_rfl) rfl (by kernel_rfl) (by kernel_rfl) (by kernel_rfl) (fun _ _ _ h => h) (Or.inr ⟨by first | rfl | simp [Region.wanted, yielded], rfl⟩) hS ?k14vr
    try simp only [Act.put, List.getElem_toArray, List.getElem_cons_zero, List.getElem_cons_succ, List.setIfInBounds_toArray, List.set_cons_zero, List.set_cons_succ]
    refine RegE.take (i := 14) (v := undef) rfl (by kernel_rfl) (by kernel_rfl) rfl (by kernel_rfl) (by kernel_rfl) (by kernel_rfl) (fun _ _ _ h => h) (Or.inr ⟨by first | rfl | simp [Region.wanted, yielded], rfl⟩) hS ?k15vr
    try simp only [Act.put, List.getElem_toArray, List.getElem_cons_zero, List.getElem_cons_succ, List.setIfInBounds_toArray, List.set_cons_zero, List.set_cons_succ]
    refine RegE.take (i := 15) (v := undef) rfl (by kernel_rfl) (by kernel_rfl) rfl (by kernel_rfl) (by kernel_rfl) (by kernel_rfl) (fun _ _ _ h => h) (Or.inr ⟨by first | rfl | simp [Region.wanted, yielded], rfl⟩) hS ?k16vr
    try simp only [Act.put, List.getElem_toArray, List.getElem_cons_zero, List.getElem_cons_succ, List.setIfInBounds_toArray, List.set_cons_zero, List.set_cons_succ]
    refine RegE.take (i := 16) (v := undef) rfl (by kernel_rfl) (by kernel_rfl) rfl (by kernel_rfl) (by kernel_rfl) (by kernel_rfl) (fun _ _ _ h => h) (Or.inr ⟨by first | rfl | simp [Region.wanted, yielded], rfl⟩) hS ?k17vr
    try simp only [Act.put, List.getElem_toArray, List.getElem_cons_zero, List.getElem_cons_succ, List.setIfInBounds_toArray, List.set_cons_zero, List.set_cons_succ]
    refine RegE.take (i := 17) (v := undef) rfl (by kernel_rfl) (by kernel_rfl) rfl (by kernel_rfl) (by kernel_rfl) (by kernel_rfl) (fun _ _ _ h => h) (Or.inr ⟨by first | rfl | simp [Region.wanted, yielded], rfl⟩) hS ?k18vr
    try simp only [Act.put, List.getElem_toArray, List.getElem_cons_zero, List.getElem_cons_succ, List.setIfInBounds_toArray, List.set_cons_zero, List.set_cons_succ]
    refine RegE.take (i := 18) (v := undef) rfl (by kernel_rfl) (by kernel_rfl) rfl (by kernel_rfl) (by kernel_rfl) (by kernel_rfl) (fun _ _ _ h => h) (Or.inr ⟨by first | rfl | simp [Region.wanted, yielded], rfl⟩) hS ?k19vr
    try simp only [Act.put, List.getElem_toArray, List.getElem_cons_zero, List.getElem_cons_succ, List.setIfInBounds_toArray, List.set_cons_zero, List.set_cons_succ]
    refine RegE.take (i := 19) (v := undef) rfl (by kernel_rfl) (by kernel_rfl) rfl (by kernel_rfl) (by kernel_rfl) (by kernel_rfl) (fun _ _ _ h => h) (Or.inr ⟨by first | rfl | simp [Region.wanted, yielded], rfl⟩) hS ?k20vr
    try simp only [Act.put, List.getElem_toArray, List.getElem_cons_zero, List.getElem_cons_succ, List.setIfInBounds_toArray, List.set_cons_zero, List.set_cons_succ]
    refine RegE.take (i := 20) (v := undef) rfl (by kernel_rfl) (by kernel_rfl) rfl (by kernel_rfl) (by kernel_rfl) (by kernel_rfl) (fun _ _ _ h => h) (Or.inr ⟨by first | rfl | simp [Region.wanted, yielded], rfl⟩) hS ?k21vr
    try simp only [Act.put, List.getElem_toArray, List.getElem_cons_zero, List.getElem_cons_succ, List.setIfInBounds_toArray, List.set_cons_zero, List.set_cons_succ]
    refine RegE.take (i := 21) (v := undef) rfl (by kernel_rfl) (by kernel_rfl) rfl (by kernel_rfl) (by kernel_rfl) (by kernel_rfl) (fun _ _ _ h => h) (Or.inr ⟨by first | rfl | simp [Region.wanted, yielded], rfl⟩) hS ?k22vr
    try simp only [Act.put, List.getElem_toArray, List.getElem_cons_zero, List.getElem_cons_succ, List.setIfInBounds_toArray, List.set_cons_zero, List.set_cons_succ]
    refine RegE.take (i := 22) (v := undef) rfl (by kernel_rfl) (by kernel_rfl) rfl (by kernel_rfl) (by kernel_rfl) (by kernel_rfl) (fun _ _ _ h => h) (Or.inr ⟨by first | rfl | simp [Region.wanted, yielded], rfl⟩) hS ?k23vr
    try simp only [Act.put, List.getElem_toArray, List.getElem_cons_zero, List.getElem_cons_succ, List.setIfInBounds_toArray, List.set_cons_zero, List.set_cons_succ]
    refine RegE.take (i := 23) (v := undef) rfl (by kernel_rfl) (by kernel_rfl) rfl (by kernel_rfl) (by kernel_rfl) (by kernel_rfl) (fun _ _ _ h => h) (Or.inr ⟨by first | rfl | simp [Region.wanted, yielded], rfl⟩) hS ?k24vr
    try simp only [Act.put, List.getElem_toArray, List.getElem_cons_zero, List.getElem_cons_succ, List.setIfInBounds_toArray, List.set_cons_zero, List.set_cons_succ]
    refine RegE.done rfl (by kernel_rfl) (fun K hK => ?_)
    go_simp
    refine hK _ _ ?_
    clear hK K
    go_wp2_with fail
    go_ret
    exact ⟨rfl, (Exc.refl b w).drew, H.out.below (Below.refl _ _).drew⟩
end Go.Proofs.YtojincohnjophaaGreatDoor

/-! The parser of expressions: taken (seat c). -/
namespace Go.Proofs.YtojincohnjophaaGreatDoor
open Go.RowKit
set_option linter.unusedVariables false

def takenO (ts : List Tok) (i : Nat) (ws : List ByteArray) : Option ByteArray := ws.find? (fun x => takes ts i x)
theorem Sl.exc {w w' : World} {b size n : Nat} {A : Option Addr} {xs : List Value} (h : Sl w (fun x => x ≠ b) size A n xs) (hx : Exc b w w') : Sl w' (fun x => x ≠ b) size A n xs :=
  h.keep hx.size fun k hk hlt => hx.block k hlt hk
set_option maxRecDepth 100000 in
set_option maxHeartbeats 800000 in
theorem taken_any (b : Nat) (A : Option Addr) (n c i deep : Nat) (ts : List Tok) (hn : n ≤ 1000000) (B : Option Addr) (m e : Nat) (ws : List ByteArray) (hm : m ≤ 1000000) (w : World) (h : Ps w b A n c i deep ts) (hw : Sl w (fun x => x ≠ b) 1 B m (strs ws)) :
    Calls Tryz.prog 253 #[.pointer (some ⟨b, 0, none⟩), .slice B m e] w fun q w' => q = .returned (.string ((takenO ts i ws).getD .empty)) ∧ Exc b w w' ∧ Ps w' b A n c (if (takenO ts i ws).isSome then i + 1 else i) deep ts := by
  obtain ⟨r, hr⟩ : ∃ r, r = takenO ts i ws := ⟨_, rfl⟩
  rw [← hr]
  have HR := hide hr
  have HT := hide (fun ww (hh : Ps ww b A n c i deep ts) word => take_any b A n c i deep ts word hn ww hh)
  have hlen : ws.length = m := by have := hw.1; rw [strs_length] at this; omega
  have HL := hide hlen
  have HW := hide hw
  have HP := hide h
  clear hr h hw hlen
  go_enter Tryz.func253, Tryz.ntmps253
  go_wp2_with fail
  go_loopw [9] (fun iv wr => ∃ k : Nat, k ≤ m ∧ iv = .int .i64 k ∧ takenO ts i (ws.drop k) = takenO ts i ws ∧ Exc b w wr ∧ Ps wr b A n c i deep ts) (fun iv _ => m - (intOf iv).toNat)
  case atStart => exact ⟨0, Nat.zero_le _, rfl, rfl, Exc.refl _ _, HP.out⟩
  case round =>
    obtain ⟨k, hkm, rfl, hto, hx, hp⟩ := hrel
    have HTO := hide hto
    clear hto
    by_cases hlt : k < m
    · obtain ⟨ad, u, hA, hu, hc⟩ := (HW.out.exc hx).str hlt
      subst hA
      have hdr : ws.drop k = u :: ws.drop (k + 1) := by
        obtain ⟨h1, h2⟩ := List.getElem?_eq_some_iff.1 hu
        rw [List.drop_eq_getElem_cons h1, h2]
      have HU : Hid (takenO ts i ws = if takes ts i u then some u else takenO ts i (ws.drop (k + 1))) := by
        have h1 := HTO.out
        rw [hdr] at h1
        have h2 : takenO ts i (u :: ws.drop (k + 1)) = if takes ts i u then some u else takenO ts i (ws.drop (k + 1)) := by
          unfold takenO
          rw [List.find?_cons]
          cases takes ts i u <;> rfl
        exact hide (h1.symm.trans h2)
      clear hu hdr
      have HX := hide hx
      have HPW := hide hp
      obtain ⟨bt, hbt⟩ : ∃ x, x = takes ts i u := ⟨_, rfl⟩
      have HC := hide (HT.out wr hp u)
      rw [← hbt] at HC
      have HBT := hide hbt
      clear hp hx hbt
      go_wp2_with fail
      refine HC.out.mono ?_
      rintro q wn ⟨rfl, hxn, hpn⟩
      have HX2 := hide (HX.out.trans hxn)
      clear hxn
      cases bt with
      | true =>
        have hv : r = some u := by rw [HR.out, HU.out, ← HBT.out]; rfl
        subst hv
        have HPN := hide hpn
        clear hpn
        go_wp2_with fail
        go_ret
        exact ⟨rfl, HX2.out, HPN.out⟩
      | false =>
        have hto : takenO ts i (ws.drop (k + 1)) = takenO ts i ws := by rw [HU.out, ← HBT.out]; rfl
        have HTO2 := hide hto
        have HPN := hide hpn
        clear hpn hto
        go_wp2_with fail
        go_roundw
        case rel => exact ⟨k + 1, by omega, by go_num, HTO2.out, HX2.out, HPN.out⟩
        case measure => simp [intOf]; omega
    · obtain rfl : k = m := by omega
      have hv : r = none := by
        rw [HR.out, ← HTO.out, List.drop_of_length_le (by have := HL.out; omega)]; rfl
      subst hv
      go_wp2_with fail
      go_ret
      exact ⟨rfl, hx, hp⟩
end Go.Proofs.YtojincohnjophaaGreatDoor
