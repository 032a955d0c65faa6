/- The walk of KeepCuts. (printed by cu.py) -/
import Derived.Test.YteoiadfcchalfaaKeepS
import Derived.Test.YteoiadfcchalfaaSlotFewW
import Derived.Test.YteoiadfcchalfaaOpenW
import Derived.Deep.DeepCutAuto
import Derived.Deep.CutBlock
import Derived.Deep.RegionHeld3
namespace Go.Proofs.Yteoiadfcchalfaa
open Go.RowKit
open DiskP (Bytes Disk Wr Fate noughts)
open KeepP (Cut Head K Kept okC okH pagesP saveP beginP openP)
open LogP (Log zeroL Live okL Holds)
set_option linter.unusedVariables false
namespace Cu

/-- what is kept behind i acts -/
structure Ck (c : Cut) (i : Nat) (k : K) : Prop where
  kept : Kept k
  cut : k.cut = c
  gen : k.head.gen ≤ 1 + i
  seq : k.head.seq + k.records.length ≤ 1 + i
theorem Ck.le {c : Cut} {i j : Nat} {k : K} (h : Ck c i k) (hi : i ≤ j) : Ck c j k := ⟨h.kept, h.cut, Nat.le_trans h.gen (by omega), Nat.le_trans h.seq (by omega)⟩
theorem Ck.maxq {c : Cut} {i : Nat} {k : K} (h : Ck c i k) (hi : i ≤ 1000) : k.head.seq + k.records.length ≤ LogP.maxSeq ∧ k.records.length ≤ 1001 := by
  have := h.seq
  unfold LogP.maxSeq
  omega
/-- what an act that was answered so leaves: nt, nr is what it meant to -/
def Out (c : Cut) (i : Nat) (k : K) (nt : Bytes) (nr : List Bytes) (k' : K) (e : Nat) : Prop :=
  (e = 0 ∧ Ck c (i + 1) k' ∧ k'.text = nt ∧ k'.records = nr) ∨ (e ≠ 0 ∧ e ≠ 14 ∧ k' = k) ∨
  (e = 14 ∧ DiskP.may k'.drive = true ∧ ∀ f : Fate, ∃ k5, Ck c (i + 1) k5 ∧ k5.drive = DiskP.crash k'.drive f ∧ ((k5.text = k.text ∧ k5.records = k.records) ∨ (k5.text = nt ∧ k5.records = nr)))
theorem Ck.add {c : Cut} {i : Nat} {k k' : K} {s : Bytes} {e : Nat} (h : Ck c i k) (ha : AddE k s k' e) : Out c i k k.text (k.records ++ [s]) k' e := by
  have hg := h.gen
  have hq := h.seq
  have hlen : k.head.seq + (k.records ++ [s]).length ≤ 1 + (i + 1) := by rw [List.length_append, List.length_singleton]; omega
  rcases ha with ⟨rfl, h1, rfl⟩ | ⟨rfl, h1, h2, rfl⟩ | ⟨rfl, h1, h2, d', l', rfl, h3, h4⟩ | ⟨rfl, h1, d', rfl, hm, hf⟩
  · exact .inr (.inl ⟨by decide, by decide, rfl⟩)
  · exact .inr (.inl ⟨by decide, by decide, rfl⟩)
  · exact .inl ⟨rfl, ⟨h3, h.cut, Nat.le_trans hg (by omega), hlen⟩, rfl, rfl⟩
  · refine .inr (.inr ⟨rfl, hm, fun f => ?_⟩)
    rcases hf f with hk | ⟨l2, hk⟩
    · exact ⟨_, ⟨hk, h.cut, Nat.le_trans hg (by omega), Nat.le_trans hq (by omega)⟩, rfl, .inl ⟨rfl, rfl⟩⟩
    · exact ⟨_, ⟨hk, h.cut, Nat.le_trans hg (by omega), hlen⟩, rfl, .inr ⟨rfl, rfl⟩⟩
theorem Ck.save {c : Cut} {i : Nat} {k k' : K} {t : Bytes} {e : Nat} (h : Ck c i k) (ha : SaveE k t k' e) : Out c i k t [] k' e := by
  have hg := h.gen
  have hq := h.seq
  have hs := kept_seq h.kept
  have new : ∀ d, Kept (svN k t d) → Ck c (i + 1) (svN k t d) := fun d hk => ⟨hk, h.cut, by show k.head.gen + 1 ≤ _; omega, by show k.log.seq + 0 ≤ _; omega⟩
  rcases ha with ⟨rfl, h1, rfl⟩ | ⟨rfl, h1, d', rfl, h3, h4⟩ | ⟨rfl, h1, h2, d', rfl, hm, hf⟩
  · exact .inr (.inl ⟨by decide, by decide, rfl⟩)
  · exact .inl ⟨rfl, new _ h3, rfl, rfl⟩
  · refine .inr (.inr ⟨rfl, hm, fun f => ?_⟩)
    rcases hf f with hk | hk
    · exact ⟨_, ⟨hk, h.cut, Nat.le_trans hg (by omega), Nat.le_trans hq (by omega)⟩, rfl, .inl ⟨rfl, rfl⟩⟩
    · exact ⟨_, new _ hk, rfl, .inr ⟨rfl, rfl⟩⟩
theorem Ck.crash {c : Cut} {i : Nat} {k : K} (h : Ck c i k) (f : Fate) : Ck c i { k with drive := DiskP.crash k.drive f } := ⟨h.kept.crash f, h.cut, h.gen, h.seq⟩

theorem own_chg {w w' : World} {S : Nat → Prop} {base : Nat} {e : TypeId} {size n : Nat} {v : Value} {xs : List Value} (h : w.ownsRow base e size v n xs) (hc : KChg S w w') (hd : ∀ x, S x → v.ownBlock ≠ some x) : w'.ownsRow base e size v n xs :=
  own_keepK h fun g hg => hc.block g (h.lt g hg).2 fun hs => hd g hs hg
theorem flat_get {α : Type} {f : α → List Value} {sz : Nat} (hf : ∀ x, (f x).length = sz) : ∀ {l : List α} {i k : Nat} {y : α} {u : Value}, l[i]? = some y → (f y)[k]? = some u → (l.flatMap f)[i * sz + k]? = some u
  | [], i, k, y, u, h, _ => by simp at h
  | x :: l, 0, k, y, u, h, hu => by
    simp only [List.getElem?_cons_zero, Option.some.injEq] at h
    subst h
    rw [List.flatMap_cons, Nat.zero_mul, Nat.zero_add, List.getElem?_append_left (List.getElem?_eq_some_iff.1 hu).1]
    exact hu
  | x :: l, i + 1, k, y, u, h, hu => by
    rw [List.flatMap_cons, List.getElem?_append_right (by rw [hf, Nat.add_mul]; omega), hf, show (i + 1) * sz + k - sz = i * sz + k by rw [Nat.add_mul]; omega]
    exact flat_get hf (by simpa using h) hu
theorem add_step (a : Addr) (n : Nat) : a.add (n + 1) = ⟨(a.add n).block, (a.add n).off + 1, none⟩ := by
  unfold Addr.add
  split
  · split <;> simp_all <;> omega
  · split <;> simp_all <;> omega
/-- an act of a list in memory -/
theorem sl_act {w : World} {V : Nat → Prop} {A : Option Addr} {n i : Nat} {l : List (ByteArray × Bool)} (h : Sl w V 2 A n (l.flatMap actV)) (hi : i < n) :
    ∃ a y, A = some a ∧ y ∈ l ∧ (a.add (i * 2)).block < w.heap.size ∧ w.cell? (a.add (i * 2)) = some (.string y.1) ∧ w.cell? ⟨(a.add (i * 2)).block, (a.add (i * 2)).off + 1, none⟩ = some (.bool y.2) := by
  obtain ⟨a, e, _, hb, hc⟩ := h.2 (by omega)
  have hl : i < l.length := by have := h.1; rw [flatMap_lenB (f := actV) (sz := 2) (fun _ => rfl)] at this; omega
  have hy : l[i]? = some l[i] := List.getElem?_eq_getElem hl
  have h0 := hc _ _ (flat_get (f := actV) (sz := 2) (fun _ => rfl) hy (k := 0) (u := .string l[i].1) rfl)
  have h1 := hc _ _ (flat_get (f := actV) (sz := 2) (fun _ => rfl) hy (k := 1) (u := .bool l[i].2) rfl)
  exact ⟨a, l[i], e, List.getElem_mem hl, World.block_lt_of_cell? w _ h0, h0, by rw [← add_step]; exact h1⟩
/-- a fate of a list in memory -/
theorem sl_fate {w : World} {V : Nat → Prop} {A : Option Addr} {n i : Nat} {l : List FtT} (h : Sl w V 3 A n (l.flatMap ftCells)) (hi : i < n) :
    ∃ a y, A = some a ∧ y ∈ l ∧ (a.add (i * 3)).block < w.heap.size ∧ w.cell? (a.add (i * 3)) = some (.slice y.1 y.2.1 y.2.2.1) ∧ w.cell? ⟨(a.add (i * 3)).block, (a.add (i * 3)).off + 1, none⟩ = some (.int .i64 y.2.2.2.torn) ∧ w.cell? ⟨(a.add (i * 3)).block, (a.add (i * 3)).off + 2, none⟩ = some (.int .i64 y.2.2.2.cut) := by
  obtain ⟨a, e, _, hb, hc⟩ := h.2 (by omega)
  have hl : i < l.length := by have := h.1; rw [flatMap_lenB (f := ftCells) (sz := 3) (fun _ => rfl)] at this; omega
  have hy : l[i]? = some l[i] := List.getElem?_eq_getElem hl
  have h0 := hc _ _ (flat_get (f := ftCells) (sz := 3) (fun _ => rfl) hy (k := 0) (u := .slice l[i].1 l[i].2.1 l[i].2.2.1) rfl)
  have h1 := hc _ _ (flat_get (f := ftCells) (sz := 3) (fun _ => rfl) hy (k := 1) (u := .int .i64 l[i].2.2.2.torn) rfl)
  have h2 := hc _ _ (flat_get (f := ftCells) (sz := 3) (fun _ => rfl) hy (k := 2) (u := .int .i64 l[i].2.2.2.cut) rfl)
  refine ⟨a, l[i], e, List.getElem_mem hl, World.block_lt_of_cell? w _ h0, h0, by rw [← add_step]; exact h1, ?_⟩
  rw [add_step, add_step] at h2
  rw [show (⟨(a.add (i * 3)).block, (a.add (i * 3)).off + 2, none⟩ : Addr) = ⟨(⟨(a.add (i * 3)).block, (a.add (i * 3)).off + 1, none⟩ : Addr).block, (⟨(a.add (i * 3)).block, (a.add (i * 3)).off + 1, none⟩ : Addr).off + 1, none⟩ from rfl]
  exact h2
theorem u8_cell {w : World} {V : Nat → Prop} {A : Option Addr} {n i : Nat} {l : List UInt8} (h : Sl w V 1 A n (bytesV l)) (hi : i < n) : ∃ a, ∃ b : UInt8, A = some a ∧ w.cell? (a.add i) = some (.int .u8 (b.toNat : Int)) := by
  obtain ⟨a, u, e, hx, hc⟩ := h.at_ hi
  rw [bytesV, List.getElem?_map] at hx
  cases hs : l[i]? with
  | none => rw [hs] at hx; cases hx
  | some b =>
    rw [hs] at hx
    simp only [Option.map_some, Option.some.injEq] at hx
    exact ⟨a, b, e, by rw [hc, hx]⟩
theorem same_sec {A B : Option Addr} {n m c d : Nat} {l r : List Bytes} {V U : Nat → Prop} {w : World} (h : Sl w V 1 A n (secV l)) (g : Sl w U 1 B m (secV r)) (hn : n ≤ 1000000) :
    Calls Try.prog 21 #[.slice A n c, .slice B m d] w fun e w' => e = .returned (.bool (decide (l = r))) ∧ ∃ q, w' = w.drewN q := by
  refine (same_any A B n m c d (l.map mkB) (r.map mkB) V U w h g (by omega)).mono ?_
  rintro e w' ⟨rfl, h⟩
  exact ⟨by rw [octs_map_mkB, octs_map_mkB], h⟩

theorem own_base {w : World} {B B' : Nat} {e : TypeId} {size n : Nat} {v : Value} {xs : List Value} (h : w.ownsRow B e size v n xs) (hB : B' ≤ B) : w.ownsRow B' e size v n xs := by
  refine ⟨h.1, h.2.imp id ?_⟩
  rintro ⟨g, cap, cur, rfl, hb, hg⟩
  exact ⟨g, cap, cur, rfl, Nat.le_trans hB hb, hg⟩
/-- what stands ahead of the round i -/
def CutsR (w0 : World) (c : Cut) (i : Nat) (pv tv lv : Value) (wr : World) : Prop :=
  ∃ b k S, pv = .pointer (some ⟨b, 0, none⟩) ∧ tv = .string (mkB k.text) ∧ i ≤ 20 ∧ KM wr S b k ∧ Ck c i k ∧ wr.ownsRow w0.heap.size 9 1 lv k.records.length (secV k.records) ∧ (∀ x, S x → w0.heap.size ≤ x ∧ x < wr.heap.size ∧ lv.ownBlock ≠ some x) ∧ Below w0.heap.size w0 wr
/-- what an act leaves in memory -/
def StepR (w0 : World) (c : Cut) (i b : Nat) (k : K) (lv : Value) (nv mv fv : Value) (wr : World) : Prop :=
  ∃ k' S nt nr e, fv = .int .i64 (e : Nat) ∧ nv = .string (mkB nt) ∧ Out c i k nt nr k' e ∧ KM wr S b k' ∧ wr.ownsRow w0.heap.size 9 1 lv k.records.length (secV k.records) ∧ wr.ownsRow w0.heap.size 9 1 mv nr.length (secV nr) ∧
    (∀ x, S x → w0.heap.size ≤ x ∧ x < wr.heap.size ∧ lv.ownBlock ≠ some x ∧ mv.ownBlock ≠ some x) ∧ Below w0.heap.size w0 wr

set_option maxRecDepth 100000 in
set_option maxHeartbeats 12800000 in
theorem keepCuts_walk (A0 : Option Addr) (n0 c0 : Nat) (acts : List (ByteArray × Bool)) (AB : Option Addr) (nb cb : Nat) (buds : List UInt8) (AF : Option Addr) (nf cf : Nat) (fts : List FtT) (w : World) (hs : Sl w (fun _ => True) 2 A0 n0 (acts.flatMap actV)) (hn : n0 ≤ 9223372036854775807) (hz : ∀ y ∈ acts, y.1.size ≤ 9223372036854775807)
    (hsB : Sl w (fun _ => True) 1 AB nb (bytesV buds)) (hnB : nb ≤ 9223372036854775807) (hsF : Sl w (fun _ => True) 3 AF nf (fts.flatMap ftCells)) (hnF : nf ≤ 9223372036854775807) (hzF : ∀ y ∈ fts, FtOk w y) :
    Calls Try.prog 18 #[.slice A0 n0 c0, .slice AB nb cb, .slice AF nf cf] w fun q w' => q = .returned (.bool true) ∧ Below w.heap.size w w' := by
  have HCU : Hid (∀ ww, Calls Try.prog 50 #[.int .u8 21] ww fun q w' => q = .returned (.agg #[.int .i64 11, .int .i64 4]) ∧ Below ww.heap.size ww w') := fun ww => cut21_any 21 ww (by decide)
  obtain ⟨c, hcc⟩ : ∃ c, c = cutN 21 := ⟨_, rfl⟩
  have hcl : c.log = 11 := by rw [hcc]; rfl
  have hcp : c.pages = 4 := by rw [hcc]; rfl
  have hco : okC c := by rw [hcc]; exact cutN_ok 21
  clear hcc
  obtain ⟨tb, htb⟩ : ∃ tb : ByteArray, tb = ⟨#[98, 101, 103, 105, 110]⟩ := ⟨_, rfl⟩
  have hfmt := fun ww => km_format c tb ww hco (by rw [htb]; decide) (by rw [hcp, htb]; exact pages_fit (by decide))
  rw [hcl, hcp] at hfmt
  have HFM : Hid (∀ ww, Calls Try.prog 52 #[.agg #[.int .i64 11, .int .i64 4], .string ⟨#[98, 101, 103, 105, 110]⟩] ww fun q w' => ∃ b k, q = .returned (.tuple #[.pointer (some ⟨b, 0, none⟩), .int .i64 0]) ∧ KM w' (fun x => ww.heap.size ≤ x) b k ∧ Ck c 0 k ∧ mkB k.text = ⟨#[98, 101, 103, 105, 110]⟩ ∧ k.records = [] ∧ Below ww.heap.size ww w') := fun ww => by
    rw [← htb]
    refine (hfmt ww).mono ?_
    rintro q w' ⟨b, d', h1, h2, h3, h4, _, h6⟩
    exact ⟨b, _, h1, h2, ⟨h3, rfl, Nat.le_refl _, Nat.le_refl _⟩, mkB_oct _, rfl, h6⟩
  have HS := hide hs
  have HZ := hide hz
  have HSB := hide hsB
  have HSF := hide hsF
  have HZF := hide hzF
  have HCL := hide hcl
  have HCP := hide hcp
  clear hcl hcp hco hfmt htb hs hz hsB hsF hzF
  go_enter Try.func18, Try.ntmps18
  go_wp2_with fail
  refine (HCU.out _).mono ?_
  rintro q w1 ⟨rfl, hb1⟩
  have kC2 := Box.new w1 85 #[.int .i64 11, .int .i64 4]
  have hb2 : Below w1.heap.size w1 (w1.alloc (.cells #[.int .i64 11, .int .i64 4] 85)) := (Below.refl _ _).alloc (Nat.le_refl _) _
  have hbw2 := hb1.trans (hb2.mono hb1.size)
  obtain ⟨bc, hbc⟩ : ∃ b, b = w1.heap.size := ⟨_, rfl⟩
  obtain ⟨w2, hw2⟩ : ∃ y, y = w1.alloc (.cells #[.int .i64 11, .int .i64 4] 85) := ⟨_, rfl⟩
  rw [← hw2] at kC2 hbw2
  rw [← hbc] at kC2
  have HW2 := hide hw2
  have HBC := hide hbc
  have HB2 := hide hbw2
  have HS2 := hide (HS.out.below hbw2)
  have HSB2 := hide (HSB.out.below hbw2)
  have HSF2 := hide (HSF.out.below hbw2)
  clear hw2 hbc hb2 hb1 hbw2 HCU HS HSB HSF
  go_upto_region 2 with (fail)
  rw [← HW2.out, ← HBC.out]
  clear HW2 HBC
  obtain ⟨q0, q1⟩ := kC2.cell2
  go_wp2_with fail
  refine (HFM.out _).mono ?_
  rintro q w3 ⟨b, k, rfl, hM, hk, htx, hrc, hb3⟩
  have HP0 : Hid (CutsR w2 c 0 (.pointer (some ⟨b, 0, none⟩)) (.string ⟨#[98, 101, 103, 105, 110]⟩) (.slice none 0 0) w3) :=
    ⟨b, k, _, rfl, by rw [htx], by omega, hM.now, hk, by rw [hrc]; exact ⟨rfl, .inl ⟨rfl, rfl⟩⟩, fun x hx => ⟨hx.1, hx.2, by simp [Value.ownBlock]⟩, hb3⟩
  clear q0 q1 hM hk htx hrc hb3 HFM
  go_upto_block 0 with (fail)
  go_cut [8, 10, 11] from 12 to 139 (fun pv tv lv wc => ∃ i, CutsR w2 c i pv tv lv wc)
  case first =>
    go_wp2_with fail
    go_loopw [8, 10, 11, 12] (fun pv tv lv iv wr => ∃ i : Nat, iv = .int .i64 i ∧ CutsR w2 c i pv tv lv wr) (fun _ _ _ iv _ => 20 - (intOf iv).toNat)
    case atStart => exact ⟨0, rfl, HP0.out⟩
    case round =>
      clear HP0
      obtain ⟨i, rfl, b, k, S, rfl, rfl, hi, hM, hk, hown, hS, hbw⟩ := hrel
      by_cases hgo : i < n0 ∧ i < 20
      · obtain ⟨h1, h2⟩ := hgo
        obtain ⟨aS, ⟨s, sv⟩, eA, hy, hltA, hc0, hc1⟩ := sl_act (HS2.out.below hbw) h1
        simp only at hc0 hc1
        have hfew := fun w2 => few21_any s w2 (HZ.out _ hy)
        have hfz := few21_size s
        obtain ⟨fs, hfs⟩ : ∃ fs, fs = few21 s := ⟨_, rfl⟩
        rw [← hfs] at hfew hfz
        have HCR : Hid (CutsR w2 c i (.pointer (some ⟨b, 0, none⟩)) (.string (mkB k.text)) u11 wr) := ⟨b, k, S, rfl, rfl, hi, hM, hk, hown, hS, hbw⟩
        have HFEW := hide hfew
        have HFZ := hide hfz
        have d1 : decide (i < n0) = true := by simpa using h1
        have d2 : decide ((i : Int) < 20) = true := by simp; omega
        have hni : (i : Int) < (n0 : Int) := by omega
        obtain ⟨kx, hkx⟩ : ∃ kx, kx = mkB k.text := ⟨_, rfl⟩
        rw [← hkx] at HCR ⊢
        have HM := hide hM
        have HK := hide hk
        have hkr := hk.maxq (by omega)
        have HKR := hide hkr
        have HOWN := hide hown
        have HS0 := hide hS
        have HBW := hide hbw
        have HKX := hide hkx
        clear hfew hfz hfs hy hM hk hown hS hbw hkx hkr
        subst eA
        go_wp2_with fail
        refine (HFEW.out _).mono ?_
        rintro q w8 ⟨rfl, rfl⟩
        go_upto_region 11 with (fail)
        go_cut [64] from 50 to 63 (fun bv wc => bv = .bool false ∧ CutsR w2 c i (.pointer (some ⟨b, 0, none⟩)) (.string kx) u11 wc)
        case first =>
          by_cases hb : i < nb
          · obtain ⟨aB, kb, eB, hcB⟩ := u8_cell (HSB2.out.below HBW.out) hb
            obtain ⟨kv, hkv⟩ : ∃ kv, kv = kb.toNat := ⟨_, rfl⟩
            have hk8 : kv ≤ 255 := by have := UInt8.toNat_lt kb; omega
            rw [← hkv] at hcB
            obtain ⟨q9, hq9⟩ : ∃ q9, q9 = kv % 40 := ⟨_, rfl⟩
            have hq9l : q9 ≤ 39 := by omega
            have d5 : decide (i < nb) = true := by simpa using hb
            have y1 : (i : Int) < (nb : Int) := by omega
            have y2 : (kv : Int).tmod 40 = (q9 : Int) := by rw [hq9]; rfl
            have y3 : IntKind.u8.wrap (q9 : Int) = (q9 : Int) := by simp [IntKind.wrap, IntKind.signed, IntKind.bits]; omega
            have y4 : IntKind.i64.wrap (q9 : Int) = (q9 : Int) := IntWalk.i64_in _ (by omega)
            have HBU := hide (km_budget HM.out HK.out.kept (q9 : Nat) (by omega) (by omega))
            clear hkv hq9
            subst eB
            go_wp2_with fail
            refine HBU.out.mono ?_
            rintro q wA ⟨rfl, hM', hk', hch⟩
            have HF : Hid (CutsR w2 c i (.pointer (some ⟨b, 0, none⟩)) (.string kx) u11 wA) := by
              have hk := HK.out
              exact ⟨b, _, S, rfl, by rw [HKX.out], hi, hM', ⟨hk', hk.cut, hk.gen, hk.seq⟩, own_chg HOWN.out hch fun x hx => (HS0.out x hx).2.2, fun x hx => ⟨(HS0.out x hx).1, Nat.lt_of_lt_of_le (HS0.out x hx).2.1 hch.size, (HS0.out x hx).2.2⟩, HBW.out.trans (hch.toBelow (fun x hx => (HS0.out x hx).1) HBW.out.size)⟩
            clear hM' hk' hch y2 y3 y4
            go_wp2_with fail
            go_meet
            exact ⟨rfl, HF.out⟩
          · have d5 : decide (i < nb) = false := by simpa using hb
            have y1 : ¬ (i : Int) < (nb : Int) := by omega
            go_wp2_with fail
            go_meet
            exact ⟨rfl, HCR.out⟩
        case rest =>
          revert wc
          intro wL hcut
          clear HM HK HKR HOWN HS0 HBW HKX HCR d1 d2 hc0 hc1
          obtain ⟨rfl, b', k, S, hpv, hkx', hi', hM, hk, hown, hS, hbw⟩ := hcut
          obtain rfl : b = b' := by injection hpv with h; injection h with h; injection h
          have hkx : kx = mkB k.text := by injection hkx'
          obtain ⟨Bl, mc, rfl⟩ := own_shape hown
          obtain ⟨rn, hrn⟩ : ∃ rn, rn = k.records.length := ⟨_, rfl⟩
          have hrz := (hk.maxq (by omega)).2
          rw [← hrn] at hown hrz ⊢
          obtain ⟨aT, ⟨s2, sv2⟩, eT, _, _, _, hcT⟩ := sl_act (HS2.out.below hbw) h1
          have HCT : Hid (∃ sv, ∀ ww, Below wL.heap.size wL ww → ww.cell? ⟨(aS.add (i * 2)).block, (aS.add (i * 2)).off + 1, none⟩ = some (.bool sv)) := by
            injection eT with eT
            subst eT
            exact ⟨sv2, fun ww hb => (hb.cell (World.block_lt_of_cell? wL _ hcT)).trans hcT⟩
          have hsl : Sl wL (fun _ => True) 1 (Bl) rn (strs (k.records.map mkB)) := (Sl.of_own hown).any
          have hoE := own_empty wL
          have hbE : Below wL.heap.size wL (wL.alloc (.cells #[] 9)) := (Below.refl _ _).alloc (Nat.le_refl _) _
          have hslE := hsl.below hbE
          have hALL := hide (And.intro hM (And.intro hk (And.intro hown (And.intro hS hbw))))
          have HKX := hide hkx
          have HRN := hide hrn
          have hnE : 0 + rn ≤ 1000000000000 := by omega
          have hzE := hbE.size
          have HBE := hide hbE
          clear hpv hkx' hM hk hown hS hbw hkx hrn hcT eT hsl hbE
          go_upto_region 13 with (fail)
          go_upto_region 14 with (at_builtin; refine wp_app_strs rfl _ _ rfl wL.heap.size _ 0 [] hoE rfl _ _ _ _ (k.records.map mkB) hslE rfl hnE hzE ?_; intro v1 w5 hA1; have hzA := hA1.size; have hwL5 : wL.heap.size ≤ w5.heap.size := Nat.le_trans hzE hzA; have hoA1 := hA1.own; go_upto_region 14 with (at_builtin; refine wp_app_str rfl _ _ rfl wL.heap.size _ _ _ hoA1 rfl fs rfl (by omega) hwL5 ?_; intro v2 w6 hA2))
          have hb5 := hA1.below hoE HBE.out (Nat.le_refl _) hzE
          have hb6 := hA2.below hoA1 hb5 (Nat.le_refl _) hwL5
          have ho6 := hA2.own
          rw [Nat.zero_add, List.nil_append, secV_snoc2] at ho6
          obtain ⟨Ml, ml, rfl⟩ := own_shape ho6
          obtain ⟨hM, hk, hown, hS, hbw⟩ := hALL.out
          obtain ⟨sv3, hct⟩ := HCT.out
          have hc6 := hct w6 hb6
          have hkr := hk.maxq (by omega)
          have hM6 := hM.below hb6
          have hown6 := own_below hown hb6
          have hbw6 := hbw.trans (hb6.mono hbw.size)
          have hS6 : ∀ x, S x → w2.heap.size ≤ x ∧ x < w6.heap.size ∧ (Value.slice Bl rn mc).ownBlock ≠ some x ∧ (Value.slice Ml (rn + 1) ml).ownBlock ≠ some x := fun x hx => ⟨(hS x hx).1, Nat.lt_of_lt_of_le (hS x hx).2.1 hb6.size, by rw [HRN.out]; exact (hS x hx).2.2, fun e => by have := (ho6.lt x e).1; have := (hS x hx).2.1; omega⟩
          have HADD := hide (km_addG hM6 hk.kept hkr.1 fs (by have := HFZ.out; omega) (by omega))
          have HSAV := hide (km_saveG hM6 hk.kept (by omega) fs (by have := HFZ.out; omega))
          have HK := hide hk
          have HOWN := hide hown6
          have HO6 : Hid (w6.ownsRow w2.heap.size 9 1 (.slice Ml (rn + 1) ml) (rn + 1) (secV (k.records ++ [oct fs]))) := own_base ho6 hbw.size
          have HS6 := hide hS6
          have HBW := hide hbw6
          clear hA1 hA2 hzA hwL5 hoA1 hb5 hb6 ho6 hM hk hown hS hbw hct hkr hM6 hown6 hbw6 hS6 hoE hslE hzE hALL HCT HBE
          go_upto_if 76 with (fail)
          go_cut [14, 15, 16] from 77 to 83 (fun nv mv fv wc => StepR w2 c i b k (.slice Bl rn mc) nv mv fv wc)
          case first =>
            cases sv3 with
            | true =>
              go_wp2_with fail
              refine HSAV.out.mono ?_
              rintro q wA ⟨k', e, rfl, hM', hch, hSE⟩
              have hbA := hch.toBelow (base := w2.heap.size) (fun x hx => (HS6.out x hx).1) HBW.out.size
              have hlo := HOWN.out.lt
              have HF : Hid (StepR w2 c i b k (.slice Bl rn mc) (.string fs) (.slice none 0 0) (.int .i64 (e : Nat)) wA) :=
                ⟨k', _, oct fs, [], e, rfl, by rw [mkB_oct], HK.out.save hSE, hM'.now, by rw [← HRN.out]; exact own_chg HOWN.out hch fun x hx => (HS6.out x hx).2.2.1, ⟨rfl, .inl ⟨rfl, rfl⟩⟩, fun x hx => ⟨by rcases hx.1 with h | h; exact (HS6.out x h).1; have := HBW.out.size; omega, hx.2, fun e => by rcases hx.1 with h | h; exact (HS6.out x h).2.2.1 e; have := (hlo x e).2; omega, by simp [Value.ownBlock]⟩, HBW.out.trans hbA⟩
              clear hM' hch hSE hbA hlo
              go_wp2_with fail
              go_meet
              exact HF.out
            | false =>
              go_wp2_with fail
              refine HADD.out.mono ?_
              rintro q wA ⟨k', e, rfl, hM', hch, hAE⟩
              have hbA := hch.toBelow (base := w2.heap.size) (fun x hx => (HS6.out x hx).1) HBW.out.size
              have hlo := HOWN.out.lt
              have hl6 := HO6.out.lt
              have HF : Hid (StepR w2 c i b k (.slice Bl rn mc) (.string kx) (.slice Ml (rn + 1) ml) (.int .i64 (e : Nat)) wA) :=
                ⟨k', _, k.text, k.records ++ [oct fs], e, rfl, by rw [HKX.out], HK.out.add hAE, hM'.now, by rw [← HRN.out]; exact own_chg HOWN.out hch fun x hx => (HS6.out x hx).2.2.1, by rw [List.length_append, List.length_singleton, ← HRN.out]; exact own_chg HO6.out hch fun x hx => (HS6.out x hx).2.2.2, fun x hx => ⟨by rcases hx.1 with h | h; exact (HS6.out x h).1; have := HBW.out.size; omega, hx.2, fun e => by rcases hx.1 with h | h; exact (HS6.out x h).2.2.1 e; have := (hlo x e).2; omega, fun e => by rcases hx.1 with h | h; exact (HS6.out x h).2.2.2 e; have := (hl6 x e).2; omega⟩, HBW.out.trans hbA⟩
              clear hM' hch hAE hbA hlo hl6
              go_wp2_with fail
              go_meet
              exact HF.out
          case rest =>
            clear HADD HSAV HOWN HO6 HS6 HBW hc6
            revert wc
            intro wM hcut
            obtain ⟨k', S', nt, nr, e, rfl, rfl, hout, hM, hown, hmv, hS, hbw⟩ := hcut
            obtain ⟨Nl, nc, rfl⟩ := own_shape hmv
            obtain ⟨nn, hnn⟩ : ∃ nn, nn = nr.length := ⟨_, rfl⟩
            obtain ⟨nx, hnx⟩ : ∃ nx, nx = mkB nt := ⟨_, rfl⟩
            rw [← hnn] at hmv hS ⊢
            rw [← hnx]
            rcases hout with ⟨rfl, hk', ht', hr'⟩ | ⟨h0, h14, rfl⟩ | ⟨rfl, hm, hf⟩
            · have HF : Hid (CutsR w2 c (i + 1) (.pointer (some ⟨b, 0, none⟩)) (.string nx) (.slice Nl nn nc) wM) := ⟨b, k', S', rfl, by rw [ht', hnx], by omega, hM, hk', by rw [hr', ← hnn]; exact hmv, fun x hx => ⟨(hS x hx).1, (hS x hx).2.1, (hS x hx).2.2.2⟩, hbw⟩
              clear hM hown hmv hS hbw hk' ht' hr' hnn hnx
              rw [show ((0 : Nat) : Int) = 0 from rfl]
              go_wp2_with fail
              go_roundw
              case rel => exact ⟨i + 1, by go_num, HF.out⟩
              case measure => simp [intOf]; omega
            · have HF : Hid (CutsR w2 c (i + 1) (.pointer (some ⟨b, 0, none⟩)) (.string kx) (.slice Bl rn mc) wM) := ⟨b, k', S', rfl, by rw [HKX.out], by omega, hM, HK.out.le (by omega), hown, fun x hx => ⟨(hS x hx).1, (hS x hx).2.1, (hS x hx).2.2.1⟩, hbw⟩
              have n0 : decide (e = 0) = false := by simpa using h0
              have n0'' : ((e : Int) == 0) = false := by rw [beq_eq_false_iff_ne]; omega
              have n0' : ¬ (e : Int) = 0 := by omega
              have n14 : ((e : Int) == 14) = false := by rw [beq_eq_false_iff_ne]; omega
              have n14' : ((e : Int) != 14) = true := by rw [bne_iff_ne]; omega
              have n14'' : ¬ (e : Int) = 14 := by omega
              have n14d : decide (e = 14) = false := by simpa using h14
              clear hM hown hmv hS hbw hnn hnx
              go_wp2_with fail
              go_roundw
              case rel => exact ⟨i + 1, by go_num, HF.out⟩
              case measure => simp [intOf]; omega
            · rw [show ((14 : Nat) : Int) = 14 from rfl]
              have kF := Box.new wM 47 #[.slice none 0 0, .int .i64 (-1), .int .i64 0]
              have hbF : Below wM.heap.size wM (wM.alloc (.cells #[.slice none 0 0, .int .i64 (-1), .int .i64 0] 47)) := (Below.refl _ _).alloc (Nat.le_refl _) _
              obtain ⟨bF, hbFe⟩ : ∃ x, x = wM.heap.size := ⟨_, rfl⟩
              obtain ⟨wF, hwF⟩ : ∃ wF, wF = wM.alloc (.cells #[.slice none 0 0, .int .i64 (-1), .int .i64 0] 47) := ⟨_, rfl⟩
              rw [← hwF] at kF hbF
              rw [← hbFe] at kF
              obtain ⟨bq, hq⟩ : ∃ bq, decide (i < nf) = bq := ⟨_, rfl⟩
              have HQ := hide hq
              have hbwF := hbw.trans (hbF.mono hbw.size)
              have HM := hide hM
              have HOWN := hide hown
              have HMV := hide hmv
              have HS0 := hide hS
              have HBW := hide hbw
              have HMY := hide hm
              have HFT := hide hf
              have HNN := hide hnn
              have HNX := hide hnx
              have HWF := hide hwF
              have HBFE := hide hbFe
              clear hM hown hmv hS hbw hm hf hnn hnx hwF hbFe
              go_upto_if 94 with (fail)
              rw [← HWF.out, ← HBFE.out]
              clear hq HWF
              go_cut [] from 95 to 99 (fun wx => ∃ FA fn fc ft, Box wx bF 47 #[.slice FA fn fc, .int .i64 ft.torn, .int .i64 ft.cut] ∧ Ft wx (fun _ => True) FA fn fc ft ∧ Below wM.heap.size wM wx)
              case first =>
                cases bq with
                | true =>
                  have hb : i < nf := of_decide_eq_true HQ.out
                  obtain ⟨aF, y, eF, hy, hlF, t0, t1, t2⟩ := sl_fate (HSF2.out.below hbwF) hb
                  obtain ⟨FA, fn, fc, ft⟩ := y
                  obtain ⟨hFt, hfc1, hfc2⟩ := HZF.out _ hy
                  simp only at hFt hfc1 hfc2 t0 t1 t2
                  have hFtF : Ft wF (fun b => b < w.heap.size) FA fn fc ft := Ft.below ⟨hFt.sl.lt, hFt.le⟩ (HB2.out.trans (hbwF.mono HB2.out.size))
                  obtain ⟨tn, htn⟩ : ∃ tn, tn = ft.torn := ⟨_, rfl⟩
                  obtain ⟨ct, hct⟩ : ∃ ct, ct = ft.cut := ⟨_, rfl⟩
                  have hfa := fun ww hF => fates_any FA fn fc ft (fun b => b < w.heap.size) ww hF hfc1 hfc2
                  unfold ftv at hfa
                  have e1 : (fates ft).torn = ft.torn := rfl
                  have e2 : (fates ft).cut = ft.cut := rfl
                  rw [e1, e2] at hfa
                  rw [← htn, ← hct] at hfa
                  rw [← htn] at t1
                  rw [← hct] at t2
                  have HFA := hide hfa
                  have HFT2 := hide hFtF
                  have HTN := hide htn
                  have HCT := hide hct
                  have hni2 : (i : Int) < (nf : Int) := by omega
                  have hkFl := kF.lt
                  clear hfa hFtF hFt htn hct e1 e2 hy
                  subst eF
                  go_wp2_with fail
                  refine (HFA.out _ HFT2.out).mono ?_
                  rintro q wx ⟨nF, rfl, _, hbx, hFx⟩
                  have kFx := kF.belowS hbx
                  have u0' := kFx.cellAt (i := 0) rfl
                  have u1' := kFx.cellAt (i := 1) rfl
                  have u2' := kFx.cellAt (i := 2) rfl
                  have f0 := kFx.frozen 0
                  have f1 := kFx.frozen 1
                  have f2 := kFx.frozen 2
                  have HFX := hide hFx
                  clear t0 t1 t2 hFx
                  go_wp2_with fail
                  go_meet
                  have hsz := hbwF.size
                  have hsz2 := HB2.out.size
                  have hsz3 := HBW.out.size
                  have hbe := HBFE.out
                  refine ⟨FA, nF, fc, fates ft, ?_, ⟨?_, HFX.out.le⟩, ?_⟩
                  · show Box _ _ _ #[_, .int .i64 ft.torn, .int .i64 ft.cut]
                    rw [← HTN.out, ← HCT.out]
                    exact ((kFx.set 0 _).set 1 _).set 2 _
                  · refine (HFX.out.sl.keep (by simp) fun b h1 h2 => ?_).mono fun _ _ => trivial
                    rw [Below.heap_setCell _ _ _ _ (by show b ≠ bF; omega), Below.heap_setCell _ _ _ _ (by show b ≠ bF; omega), Below.heap_setCell _ _ _ _ (by show b ≠ bF; omega)]
                  · exact (((hbF.trans (hbx.mono hbF.size)).setCell (by show wM.heap.size ≤ bF; omega) _).setCell (by show wM.heap.size ≤ bF; omega) _).setCell (by show wM.heap.size ≤ bF; omega) _
                | false =>
                  go_wp2_with fail
                  go_meet
                  exact ⟨none, 0, 0, ⟨[], -1, 0⟩, kF, ⟨Sl.nil, by decide⟩, hbF⟩
              case rest =>
                clear HSF2 hbwF kF hbF HQ
                revert wc
                intro wX hcut
                obtain ⟨FA, fn, fc, ft, kX, hFt, hbX⟩ := hcut
                obtain ⟨k5, hk5, hd5, hor⟩ := HFT.out ft
                obtain ⟨tn, htn⟩ : ∃ tn, tn = ft.torn := ⟨_, rfl⟩
                obtain ⟨ct, hct⟩ : ∃ ct, ct = ft.cut := ⟨_, rfl⟩
                have hcr := reo_crash HMY.out hd5 FA fc
                rw [← htn, ← hct] at kX hcr
                have HDI := hide (reo_disk (HM.out.below hbX))
                have HCR := hide hcr
                have HOP5 := hide (reo_open (cl := 11) (cp := 4) hk5.kept (by rw [hk5.cut, HCL.out]; rfl) (by rw [hk5.cut, HCP.out]; rfl))
                have kCX := (kC2.belowS HBW.out).belowS hbX
                have HSS : Hid (∀ (ww : World), Below wX.heap.size wX ww → ((ww.cell? ⟨bc, 0, none⟩ = some (.int .i64 11) ∧ ww.cell? ⟨bc, 1, none⟩ = some (.int .i64 4)) ∧ ww.cell? ⟨bF, 0, none⟩ = some (.slice FA fn fc) ∧ ww.cell? ⟨bF, 1, none⟩ = some (.int .i64 tn) ∧ ww.cell? ⟨bF, 2, none⟩ = some (.int .i64 ct))) := fun ww hb => ⟨(kCX.belowS hb).cell2, (kX.belowS hb).cellAt rfl, (kX.belowS hb).cellAt rfl, (kX.belowS hb).cellAt rfl⟩
                have HFX := hide hFt
                have HK5 := hide hk5
                have HOR := hide hor
                have HBX := hide hbX
                clear hFt hk5 hd5 hor htn hct hcr kCX kX hbX
                go_upto_region 25 with (fail)
                have hbx : Below wX.heap.size wX wX.drew := (Below.refl _ _).drew
                go_region_held3 (fun ww => ((ww.cell? ⟨bc, 0, none⟩ = some (.int .i64 11) ∧ ww.cell? ⟨bc, 1, none⟩ = some (.int .i64 4)) ∧ ww.cell? ⟨bF, 0, none⟩ = some (.slice FA fn fc) ∧ ww.cell? ⟨bF, 1, none⟩ = some (.int .i64 tn) ∧ ww.cell? ⟨bF, 2, none⟩ = some (.int .i64 ct)))
                  (first | (with_reducible exact (HSS.out wX (Below.refl _ _))) | (with_reducible exact (HSS.out _ hbx)))
                  (first
                    | ((with_reducible refine (HDI.out _ hbx).mono ?_); rintro q wn ⟨A4, n4, c4, B4, m4, x4, rfl, hD4, hbn⟩; have hbx := hbx.trans (hbn.mono hbx.size); have HD4 := hide hD4; clear hD4)
                    | ((with_reducible refine (HCR.out _ _ _ _ _ _ _ _ HD4.out (HFX.out.below hbx)).mono ?_); rintro q wm ⟨A5, n5, c5, B5, m5, x5, rfl, hD5, hbm⟩; have hz5 := hbx.size; have hbx := hbx.trans (hbm.mono hbx.size); have HD5 := hide hD5; clear hD5)
                    | ((with_reducible refine (HOP5.out _ _ _ _ _ _ _ _ HD5.out).mono ?_); rintro q wo5 ⟨b5, rfl, hM5, hbl5, hbo⟩; have hz6 := hbx.size; have hbx := hbx.trans (hbo.mono hbx.size)))
                have hM5' : KM wo5 (fun x => wX.heap.size ≤ x) b5 k5 := hM5.mono fun x hx hl => by rcases hx with h | h <;> omega
                have hbM : Below wM.heap.size wM wo5 := HBX.out.trans (hbx.mono HBX.out.size)
                have hbw5 := HBW.out.trans (hbM.mono HBW.out.size)
                have ho5 := own_below HOWN.out hbM
                have hm5 := own_below HMV.out hbM
                have hrz : rn ≤ 1000000 := by have := (HK.out.maxq (by omega)).2; rw [HRN.out]; omega
                have hkz : k5.records.length ≤ 1000000 := by have := (HK5.out.maxq (by omega)).2; omega
                have HFIN : Hid (∀ (tv : ByteArray) (lv : Value), tv = mkB k5.text → wo5.ownsRow w2.heap.size 9 1 lv k5.records.length (secV k5.records) → (∀ g, lv.ownBlock = some g → g < wX.heap.size) → ∀ ww, Below wo5.heap.size wo5 ww → CutsR w2 c (i + 1) (.pointer (some ⟨b5, 0, none⟩)) (.string tv) lv ww) := fun tv lv h1 h2 h3 ww hb =>
                  ⟨b5, k5, _, rfl, by rw [h1], by omega, hM5'.now.below hb, HK5.out, own_below h2 hb, fun x hx => ⟨by have := HBW.out.size; have := HBX.out.size; omega, Nat.lt_of_lt_of_le hx.2 hb.size, fun e => by have := h3 x e; omega⟩, hbw5.trans (hb.mono hbw5.size)⟩
                have hlo := HOWN.out.lt
                have hln := HMV.out.lt
                have HLO : Hid (∀ g, (Value.slice Bl rn mc).ownBlock = some g → g < wX.heap.size) := fun g hg => Nat.lt_of_lt_of_le (hlo g hg).2 HBX.out.size
                have HLN : Hid (∀ g, (Value.slice Nl nn nc).ownBlock = some g → g < wX.heap.size) := fun g hg => Nat.lt_of_lt_of_le (hln g hg).2 HBX.out.size
                have HO5 : Hid (wo5.ownsRow w2.heap.size 9 1 (.slice Bl rn mc) rn (secV k.records)) := by
                  have := HRN.out
                  show World.ownsRow _ _ _ _ _ _ _
                  rw [this] at ho5 ⊢
                  exact ho5
                have HM5 := hide hm5
                have HMM := hide hM5'
                clear hM5 hM5' hbl5 hz5 hz6 hbo hbn hbm HD4 HD5 HDI HCR HOP5 HSS hbM hbw5 ho5 hm5 hlo hln hbx
                by_cases hA : k5.text = k.text ∧ k5.records = k.records
                · obtain ⟨hA1, hA2⟩ := hA
                  have HTX := hide (reo_text (s := kx) HMM.out (by rw [hA1, HKX.out, oct_mkB]))
                  have HRC := hide (reo_records HMM.out hkz hA2 HRN.out)
                  have HSM : Hid (∀ ww (V : Nat → Prop) X xc, Below wo5.heap.size wo5 ww → Sl ww V 1 X rn (secV k.records) → Calls Try.prog 21 #[.slice X rn xc, .slice Bl rn mc] ww fun e w' => e = .returned (.bool true) ∧ ∃ q, w' = ww.drewN q) := fun ww V X xc hb h => by
                    have := same_sec (c := xc) (d := mc) h ((Sl.of_own HO5.out).below hb) hrz
                    simpa using this
                  have HF : Hid (∀ ww, Below wo5.heap.size wo5 ww → CutsR w2 c (i + 1) (.pointer (some ⟨b5, 0, none⟩)) (.string kx) (.slice Bl rn mc) ww) := HFIN.out kx _ (by rw [hA1, HKX.out]) (by rw [hA2, ← HRN.out]; exact HO5.out) HLO.out
                  clear hA1 hA2 HFIN hrz hkz
                  go_upto_region 29 with (fail)
                  have hb0 := Below.refl wo5.heap.size wo5
                  go_wp2_with fail
                  refine (HTX.out _ hb0).mono ?_
                  rintro q wpa ⟨rfl, rfl⟩
                  go_wp2_with fail
                  refine (HRC.out _ hb0).mono ?_
                  rintro q wpb ⟨Xp, xcp, rfl, hsX, hbpb⟩
                  have hbpc := hb0.trans (hbpb.mono hb0.size)
                  have HSMp := hide (HSM.out wpb _ Xp xcp hbpc hsX)
                  clear hsX
                  go_wp2_with fail
                  refine HSMp.out.mono ?_
                  rintro q wpc ⟨rfl, nqp, rfl⟩
                  have hbpd := below_drewN hbpc nqp
                  clear HSMp
                  go_wp2_with fail
                  refine (HTX.out _ hbpd).mono ?_
                  rintro q wra ⟨rfl, rfl⟩
                  go_wp2_with fail
                  refine (HRC.out _ hbpd).mono ?_
                  rintro q wrb ⟨Xr, xcr, rfl, hsX, hbrb⟩
                  have hbrc := hbpd.trans (hbrb.mono hbpd.size)
                  have HSMr := hide (HSM.out wrb _ Xr xcr hbrc hsX)
                  clear hsX
                  go_wp2_with fail
                  refine HSMr.out.mono ?_
                  rintro q wrc ⟨rfl, nqr, rfl⟩
                  have hbrd := below_drewN hbrc nqr
                  clear HSMr
                  go_wp2_with fail
                  go_roundw
                  case rel => exact ⟨i + 1, by go_num, HF.out _ hbrd⟩
                  case measure => simp [intOf]; omega
                · have hnew : k5.text = nt ∧ k5.records = nr := by
                    rcases HOR.out with h | h
                    · exact absurd h hA
                    · exact h
                  obtain ⟨hN1, hN2⟩ := hnew
                  have hnz : nn ≤ 1000000 := by rw [HNN.out, ← hN2]; exact hkz
                  have HTX := hide (reo_text (s := nx) HMM.out (by rw [hN1, HNX.out, oct_mkB]))
                  have HRC := hide (reo_records HMM.out hkz hN2 HNN.out)
                  have HSM : Hid (∀ ww (V : Nat → Prop) X xc, Below wo5.heap.size wo5 ww → Sl ww V 1 X nn (secV nr) → Calls Try.prog 21 #[.slice X nn xc, .slice Nl nn nc] ww fun e w' => e = .returned (.bool true) ∧ ∃ q, w' = ww.drewN q) := fun ww V X xc hb h => by
                    have := same_sec (c := xc) (d := nc) h ((Sl.of_own HM5.out).below hb) hnz
                    simpa using this
                  have HF : Hid (∀ ww, Below wo5.heap.size wo5 ww → CutsR w2 c (i + 1) (.pointer (some ⟨b5, 0, none⟩)) (.string nx) (.slice Nl nn nc) ww) := HFIN.out nx _ (by rw [hN1, HNX.out]) (by rw [hN2, ← HNN.out]; exact HM5.out) HLN.out
                  by_cases hT : nx = kx
                  · have hR : ¬ nr = k.records := fun e => hA ⟨by rw [hN1, ← oct_mkB nt, ← HNX.out, hT, HKX.out, oct_mkB], by rw [hN2, e]⟩
                    have HSD : Hid (∀ ww (V : Nat → Prop) X xc, Below wo5.heap.size wo5 ww → Sl ww V 1 X nn (secV nr) → Calls Try.prog 21 #[.slice X nn xc, .slice Bl rn mc] ww fun e w' => e = .returned (.bool false) ∧ ∃ q, w' = ww.drewN q) := fun ww V X xc hb h => by
                      have := same_sec (c := xc) (d := mc) h ((Sl.of_own HO5.out).below hb) hnz
                      simpa [hR] using this
                    have HNXT := hide HNX.out
                    clear hA hN1 hN2 HFIN hrz hkz hnz hR HNX HKX
                    subst hT
                    go_upto_region 29 with (fail)
                    go_wp2_with fail
                    refine (HTX.out _ (Below.refl _ _)).mono ?_
                    rintro q w7 ⟨rfl, rfl⟩
                    go_wp2_with fail
                    refine (HRC.out _ (Below.refl _ _)).mono ?_
                    rintro q w8 ⟨X, xc, rfl, hsX, hb8⟩
                    have HSD1 := hide (HSD.out w8 _ X xc hb8 hsX)
                    clear hsX
                    go_wp2_with fail
                    refine HSD1.out.mono ?_
                    rintro q w9 ⟨rfl, nq, rfl⟩
                    have hb9 : Below w7.heap.size w7 (w8.drewN nq) := hb8.trans (below_drewN (Below.refl _ _) nq)
                    obtain ⟨w9, hw9⟩ : ∃ y, y = w8.drewN nq := ⟨_, rfl⟩
                    rw [← hw9] at hb9 ⊢
                    clear hw9 hb8 HSD1 HSD
                    go_wp2_with fail
                    refine (HTX.out _ hb9).mono ?_
                    rintro q wsa ⟨rfl, rfl⟩
                    go_wp2_with fail
                    refine (HRC.out _ hb9).mono ?_
                    rintro q wsb ⟨Xs, xcs, rfl, hsX, hbsb⟩
                    have hbsc := hb9.trans (hbsb.mono hb9.size)
                    have HSMs := hide (HSM.out wsb _ Xs xcs hbsc hsX)
                    clear hsX
                    go_wp2_with fail
                    refine HSMs.out.mono ?_
                    rintro q wsc ⟨rfl, nqs, rfl⟩
                    have hbsd := below_drewN hbsc nqs
                    clear HSMs
                    go_wp2_with fail
                    go_roundw
                    case rel => exact ⟨i + 1, by go_num, HF.out _ hbsd⟩
                    case measure => simp [intOf]; omega
                  · have t1 : (nx.toList == kx.toList) = false := by
                      rw [beq_eq_false_iff_ne]
                      intro e
                      rw [ByteArray.toList_eq, ByteArray.toList_eq] at e
                      exact hT (oct_inj e)
                    have hb9 := Below.refl wo5.heap.size wo5
                    clear hA hN1 hN2 HFIN hrz hkz hnz HNX HKX
                    go_upto_region 29 with (fail)
                    go_wp2_with fail
                    refine (HTX.out _ (Below.refl _ _)).mono ?_
                    rintro q w9 ⟨rfl, rfl⟩
                    go_wp2_with fail
                    refine (HTX.out _ hb9).mono ?_
                    rintro q wsa ⟨rfl, rfl⟩
                    go_wp2_with fail
                    refine (HRC.out _ hb9).mono ?_
                    rintro q wsb ⟨Xs, xcs, rfl, hsX, hbsb⟩
                    have hbsc := hb9.trans (hbsb.mono hb9.size)
                    have HSMs := hide (HSM.out wsb _ Xs xcs hbsc hsX)
                    clear hsX
                    go_wp2_with fail
                    refine HSMs.out.mono ?_
                    rintro q wsc ⟨rfl, nqs, rfl⟩
                    have hbsd := below_drewN hbsc nqs
                    clear HSMs
                    go_wp2_with fail
                    go_roundw
                    case rel => exact ⟨i + 1, by go_num, HF.out _ hbsd⟩
                    case measure => simp [intOf]; omega
      · have HE : Hid (CutsR w2 c i (.pointer (some ⟨b, 0, none⟩)) (.string (mkB k.text)) u11 wr) := ⟨b, k, S, rfl, rfl, hi, hM, hk, hown, hS, hbw⟩
        by_cases h1 : i < n0
        · have d1 : decide (i < n0) = true := by simpa using h1
          have d2 : decide ((i : Int) < 20) = false := by simp; omega
          clear hgo h1 hM hk hown hS hbw hi
          go_wp2_with fail
          go_meet
          exact ⟨i, HE.out⟩
        · have d1 : decide (i < n0) = false := by simpa using h1
          clear hgo h1 hM hk hown hS hbw hi
          go_wp2_with fail
          go_meet
          exact ⟨i, HE.out⟩
  case rest =>
    clear HP0 HS2 HSB2 HSF2 HZ HZF
    revert wc
    intro wL hcut
    obtain ⟨i, b, k, S, rfl, rfl, hi, hM, hk, hown, hS, hbw⟩ := hcut
    obtain ⟨Bl, mc, rfl⟩ := own_shape hown
    obtain ⟨rn, hrn⟩ : ∃ rn, rn = k.records.length := ⟨_, rfl⟩
    obtain ⟨kx, hkx⟩ : ∃ kx, kx = mkB k.text := ⟨_, rfl⟩
    have hrz : rn ≤ 1000000 := by have := (hk.maxq (by omega)).2; omega
    rw [← hrn] at hown ⊢
    rw [← hkx]
    have hk5 := hk.crash ⟨[], -1, 0⟩
    obtain ⟨k5, hk5e⟩ : ∃ k5 : K, k5 = { k with drive := DiskP.crash k.drive ⟨[], -1, 0⟩ } := ⟨_, rfl⟩
    have g1 : k5.drive = DiskP.crash k.drive ⟨[], -1, 0⟩ := by rw [hk5e]
    have g2 : k5.text = k.text := by rw [hk5e]
    have g3 : k5.records = k.records := by rw [hk5e]
    rw [← hk5e] at hk5
    have HDI := hide (reo_disk hM)
    have HCR := hide (reo_crash0 hk.kept.log.live.may g1)
    have HOP5 := hide (reo_open (cl := 11) (cp := 4) hk5.kept (by rw [hk5.cut, HCL.out]; rfl) (by rw [hk5.cut, HCP.out]; rfl))
    have kCS := kC2.belowS hbw
    have HSS : Hid (∀ (ww : World), Below wL.heap.size wL ww → ww.cell? ⟨bc, 0, none⟩ = some (.int .i64 11) ∧ ww.cell? ⟨bc, 1, none⟩ = some (.int .i64 4)) := fun ww hb => (kCS.belowS hb).cell2
    have HG5 := hide (And.intro g2 (And.intro g3 (And.intro hkx (And.intro hrn hrz))))
    have HOWN := hide hown
    have HBW := hide (HB2.out.trans (hbw.mono HB2.out.size))
    clear hM hk hown hS hbw hk5 hk5e g1 g2 g3 kCS hrn hkx hrz hi
    go_upto_region 33 with (fail)
    have hbx : Below wL.heap.size wL wL.drew := (Below.refl _ _).drew
    go_region_held3 (fun ww => ww.cell? ⟨bc, 0, none⟩ = some (.int .i64 11) ∧ ww.cell? ⟨bc, 1, none⟩ = some (.int .i64 4))
      (first | (with_reducible exact (HSS.out wL (Below.refl _ _))) | (with_reducible exact (HSS.out _ hbx)))
      (first
        | ((with_reducible refine (HDI.out _ hbx).mono ?_); rintro q wn ⟨A4, n4, c4, B4, m4, x4, rfl, hD4, hbn⟩; have hbx := hbx.trans (hbn.mono hbx.size); have HD4 := hide hD4; clear hD4)
        | ((with_reducible refine (HCR.out _ _ _ _ _ _ _ HD4.out).mono ?_); rintro q wm ⟨A5, n5, c5, B5, m5, x5, rfl, hD5, hbm⟩; have hz5 := hbx.size; have hbx := hbx.trans (hbm.mono hbx.size); have HD5 := hide hD5; clear hD5)
        | ((with_reducible refine (HOP5.out _ _ _ _ _ _ _ _ HD5.out).mono ?_); rintro q wo5 ⟨b5, rfl, hM5, hbl5, hbo⟩; have hz6 := hbx.size; have hbx := hbx.trans (hbo.mono hbx.size)))
    obtain ⟨g2, g3, hkx, hrn, hrz⟩ := HG5.out
    have HTX := hide (reo_text (s := kx) hM5 (by rw [g2, hkx, oct_mkB]))
    have HRC := hide (reo_records hM5 (by rw [g3, ← hrn]; exact hrz) g3 hrn)
    have HSM : Hid (∀ ww (V : Nat → Prop) X xc, Below wo5.heap.size wo5 ww → Sl ww V 1 X rn (secV k.records) → Calls Try.prog 21 #[.slice X rn xc, .slice Bl rn mc] ww fun e w' => e = .returned (.bool true) ∧ ∃ q, w' = ww.drewN q) := fun ww V X xc hb h => by
      have := same_sec (c := xc) (d := mc) h (((Sl.of_own HOWN.out).below hbx).below hb) hrz
      simpa using this
    have HBX := hide (HBW.out.trans (hbx.mono HBW.out.size))
    clear hM5 hbl5 hz5 hz6 hbo hbn hbm HD4 HD5 HDI HCR HOP5 HSS g2 g3 hkx hrn hrz hbx HG5
    go_upto_region 34 with (fail)
    go_wp2_with fail
    refine (HTX.out _ (Below.refl _ _)).mono ?_
    rintro q w7 ⟨rfl, rfl⟩
    go_wp2_with fail
    refine (HRC.out _ (Below.refl _ _)).mono ?_
    rintro q w8 ⟨X, xc, rfl, hsX, hb8⟩
    have HSM1 := hide (HSM.out w8 _ X xc hb8 hsX)
    clear hsX
    go_wp2_with fail
    refine HSM1.out.mono ?_
    rintro q w9 ⟨rfl, nq, rfl⟩
    have hb9 : Below w7.heap.size w7 (w8.drewN nq) := hb8.trans (below_drewN (Below.refl _ _) nq)
    obtain ⟨w9, hw9⟩ : ∃ y, y = w8.drewN nq := ⟨_, rfl⟩
    rw [← hw9] at hb9 ⊢
    have HB9 := hide (HBX.out.trans (hb9.mono HBX.out.size))
    clear hw9 hb8 hb9 HSM1
    go_wp2_with fail
    refine (awake21_any _).mono ?_
    rintro q w10 ⟨rfl, hb10⟩
    have HBE := hide (HB9.out.trans (hb10.mono HB9.out.size))
    clear hb10
    go_wp2_with fail
    go_ret
    exact ⟨rfl, HBE.out⟩
end Cu
end Go.Proofs.Yteoiadfcchalfaa

