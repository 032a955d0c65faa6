/- Facts for the law of drawn regions. -/
import Derived.Test.YteoiadfcchalfaaRegT
import Derived.Test.YteoiadfcchalfaaLogE
namespace Go.Proofs.Yteoiadfcchalfaa
open Go.RowKit
open DiskP (Bytes Disk Wr Fate noughts)
open LogP (Log zeroL Live okL)
set_option linter.unusedVariables false

/-- what an operation leaves, and later allocations do not end -/
structure Fc where
  p : Value → World → Prop
  st : ∀ v w w', Below w.heap.size w w' → p v w → p v w'
def Gs (l : List Fc) (i : Nat) (v : Value) (w : World) : Prop := match l[i]? with
  | some f => f.p v w
  | none => True
theorem gs_keep (l : List Fc) (i : Nat) (v : Value) (w w' : World) (hb : Below w.heap.size w w') (h : Gs l i v w) : Gs l i v w' := by
  unfold Gs at *
  split
  · rename_i f hf
    rw [hf] at h
    exact f.st v w w' hb h
  · trivial
/-- this value -/
def Fc.is (x : Value) : Fc := ⟨fun v _ => v = x, fun _ _ _ _ h => h⟩
/-- a disk -/
def Fc.dk (V : Nat → Prop) (d : Disk) : Fc := ⟨fun v w => DkV w V v d, fun _ _ _ hb h => h.below hb⟩
/-- a tuple whose first limb is so -/
def Fc.two (f : Fc) (y : Value) : Fc := ⟨fun v w => ∃ x, v = .tuple #[x, y] ∧ f.p x w, fun _ _ _ hb ⟨x, e, h⟩ => ⟨x, e, f.st _ _ _ hb h⟩⟩
def Fc.three (f : Fc) (y z : Value) : Fc := ⟨fun v w => ∃ x, v = .tuple #[x, y, z] ∧ f.p x w, fun _ _ _ hb ⟨x, e, h⟩ => ⟨x, e, f.st _ _ _ hb h⟩⟩
/-- a new block -/
def Fc.box (B : Nat) (T : TypeId) (z : Array Value) : Fc := ⟨fun v w => ∃ b, v = .pointer (some ⟨b, 0, none⟩) ∧ B ≤ b ∧ Box w b T z, fun _ _ _ hb ⟨b, e, h1, h2⟩ => ⟨b, e, h1, h2.belowS hb⟩⟩

/-- nothing of a disk lies in a block that holds no string -/
theorem Dk.notBox {w : World} {V : Nat → Prop} {A B : Option Addr} {n c m e b : Nat} {d : Disk} {T : TypeId} {vs : Array Value} (h : Dk w V A n c B m e d) (hB : Box w b T vs) (hs : ∀ (i : Nat) (s : ByteArray), vs[i]? ≠ some (Value.string s)) : Dk w (fun x => V x ∧ x ≠ b) A n c B m e d := by
  have key : ∀ (a : Addr) s, w.cell? a = some (.string s) → a.block ≠ b := by
    intro a s hc e
    unfold Box at hB
    subst e
    simp only [World.cell?, hB] at hc
    split at hc
    · cases hc
    · exact hs _ _ hc
  refine ⟨⟨h.sS.1, fun hn => ?_⟩, ⟨h.sW.1, fun hm => ?_⟩, h.nle, h.mle, h.cle, h.ele, h.hi⟩
  · obtain ⟨a, e, hv, hx, hc⟩ := h.sS.2 hn
    obtain ⟨a', s, e', _, hc'⟩ := h.sec hn
    obtain rfl : a = a' := Option.some.inj (e.symm.trans e')
    exact ⟨a, e, ⟨hv, key _ _ hc'⟩, hx, hc⟩
  · obtain ⟨a, e, hv, hx, hc⟩ := h.sW.2 hm
    obtain ⟨a', x, e', _, _, hc'⟩ := h.wr hm
    obtain rfl : a = a' := Option.some.inj (e.symm.trans e')
    have hk := key _ _ hc'
    exact ⟨a, e, ⟨hv, hk⟩, hx, hc⟩

set_option maxRecDepth 100000 in
set_option maxHeartbeats 800000 in
theorem some_any (n : Nat) (w : World) (h1 : 1 ≤ n) (hn : n ≤ 4000) :
    Calls Try.prog 42 #[.int .i64 n] w fun q w' => ∃ v, q = .returned v ∧ DkV w' (fun b => w.heap.size ≤ b) v (DiskP.new n) ∧ Below w.heap.size w w' := by
  have hnew := fun w1 => new_any n w1 h1 hn
  obtain ⟨d, hd⟩ : ∃ d, d = DiskP.new n := ⟨_, rfl⟩
  rw [← hd] at hnew ⊢
  have HN := hide hnew
  clear hd
  clear hnew h1 hn
  go_enter Try.func42, Try.ntmps42
  go_wp2_with fail
  refine (HN.out _).mono ?_
  rintro q w1 ⟨v, rfl, ⟨A, m, c, B, k, e, rfl, hD⟩, hb1⟩
  have hb0 : Below w.heap.size w (w.alloc (.cells #[.slice none 0 0, .slice none 0 0, .int .i64 0, .bool false] 50)) := (Below.refl _ _).alloc (Nat.le_refl _) _
  have hbw := hb0.trans (hb1.mono hb0.size)
  have kA := (Box.new w 50 #[.slice none 0 0, .slice none 0 0, .int .i64 0, .bool false]).belowS hb1
  obtain ⟨lf, hlf⟩ : ∃ lf, lf = d.left := ⟨_, rfl⟩
  obtain ⟨dd, hdd⟩ : ∃ dd, dd = d.dead := ⟨_, rfl⟩
  rw [← hlf, ← hdd]
  have HL := hide hlf
  have HD' := hide hdd
  have HDK := hide hD
  have hlt := kA.lt
  obtain ⟨q0, q1, q2, q3⟩ := kA.cell4
  have f0 := kA.frozen 0
  have f1 := kA.frozen 1
  have f2 := kA.frozen 2
  have f3 := kA.frozen 3
  clear hlf hdd hD
  go_wp2_with fail
  have kC := (kA.set4 (u0 := .slice A m c) (u1 := .slice B k e) (u2 := .int .i64 lf) (u3 := .bool dd)).up (.cells #[.slice A m c, .slice B k e, .int .i64 lf, .bool dd] 50)
  have hbF := (below_set4 (b := w.heap.size) (u0 := .slice A m c) (u1 := .slice B k e) (u2 := .int .i64 lf) (u3 := .bool dd) hbw (Nat.le_refl _)).alloc (by rw [set4_size]; omega) (.cells #[.slice A m c, .slice B k e, .int .i64 lf, .bool dd] 50)
  obtain ⟨s0, s1, s2, s3⟩ := kC.cell4
  refine bodyPost_ret (v := .agg #[.slice A m c, .slice B k e, .int .i64 lf, .bool dd]) (by simp [results, Try.results42, go_sem, s0, s1, s2, s3]) rfl ⟨_, rfl, ⟨_, _, _, _, _, _, by rw [HL.out, HD'.out], ?_⟩, hbF⟩
  exact ((HDK.out.set4 fun x hx => by rw [World.size_alloc] at hx; omega).below ((Below.refl _ _).alloc (Nat.le_refl _) _)).mono fun x hx => by rw [World.size_alloc] at hx; omega

/-- octets of which no more is looked at than may be -/
def few18 (s : ByteArray) : ByteArray := if 500 < s.size ∧ s.size ≤ 4000 then s.extract 0 500 else if 4001 < s.size then s.extract 0 4001 else s
theorem few18_size (s : ByteArray) : (few18 s).size ≤ 4001 := by
  unfold few18
  split
  · rw [← oct_length, oct_extract]; simp; omega
  · split
    · rw [← oct_length, oct_extract]; simp; omega
    · omega
set_option maxRecDepth 100000 in
theorem few18_any (s : ByteArray) (w : World) (hs : s.size ≤ 9223372036854775807) : Calls Try.prog 43 #[.string s] w fun e w' => e = .returned (.string (few18 s)) ∧ w = w' := by
  obtain ⟨R, hR⟩ : ∃ R, R = few18 s := ⟨_, rfl⟩
  rw [← hR]
  unfold few18 at hR
  by_cases h1 : 500 < s.size
  · by_cases h2 : s.size ≤ 4000
    · rw [if_pos ⟨h1, h2⟩] at hR
      have HR := hide hR
      have b1 : decide ((500 : Int) < (s.size : Int)) = true := by simp; omega
      have b2 : decide ((s.size : Int) ≤ 4000) = true := by simp; omega
      have b3 : (500 : Int) ≤ (s.size : Int) := by omega
      clear hR h1 h2
      go_enter Try.func43, Try.ntmps43
      go_wp2_with fail
      go_ret
      exact ⟨by rw [HR.out]; rfl, rfl⟩
    · rw [if_neg (fun h => h2 h.2)] at hR
      by_cases h3 : 4001 < s.size
      · rw [if_pos h3] at hR
        have HR := hide hR
        have b1 : decide ((500 : Int) < (s.size : Int)) = true := by simp; omega
        have b2 : decide ((s.size : Int) ≤ 4000) = false := by simp; omega
        have b3 : (4001 : Int) < (s.size : Int) := by omega
        have b4 : (4001 : Int) ≤ (s.size : Int) := by omega
        clear hR h1 h2 h3
        go_enter Try.func43, Try.ntmps43
        go_wp2_with fail
        go_ret
        exact ⟨by rw [HR.out]; rfl, rfl⟩
      · rw [if_neg h3] at hR
        have HR := hide hR
        have b1 : decide ((500 : Int) < (s.size : Int)) = true := by simp; omega
        have b2 : decide ((s.size : Int) ≤ 4000) = false := by simp; omega
        have b3 : ¬ (4001 : Int) < (s.size : Int) := by omega
        clear hR h1 h2 h3
        go_enter Try.func43, Try.ntmps43
        go_wp2_with fail
        go_ret
        exact ⟨by rw [HR.out]; rfl, rfl⟩
  · rw [if_neg (fun h => h1 h.1), if_neg (by omega)] at hR
    have HR := hide hR
    have b1 : decide ((500 : Int) < (s.size : Int)) = false := by simp; omega
    have b3 : ¬ (4001 : Int) < (s.size : Int) := by omega
    clear hR h1
    go_enter Try.func43, Try.ntmps43
    go_wp2_with fail
    go_ret
    exact ⟨by rw [HR.out]; rfl, rfl⟩
end Go.Proofs.Yteoiadfcchalfaa
