/- The walk of LogBack. (printed by genback.py) -/
import Derived.Test.YtojincohnjophaaGreatDoorKeepH
import Derived.Test.YtojincohnjophaaGreatDoorLogAw
import Derived.Test.YtojincohnjophaaGreatDoorKeepLaw
import Derived.Deep.DeepCutAuto
import Derived.Deep.CutBlock
import Derived.Deep.RegionHeld3
/-! What is kept, in memory; the walk of layer 21's Format. -/
namespace Go.Proofs.YtojincohnjophaaGreatDoor
open Go.RowKit
open DiskP (Bytes Disk Wr Fate noughts)
open KeepP (Cut Head K Kept okC okH readH zeroH newestP pagesP saveP beginP)
set_option linter.unusedVariables false

theorem own_keepK {w w' : World} {base : Nat} {e : TypeId} {size n : Nat} {v : Value} {xs : List Value} (h : w.ownsRow base e size v n xs) (hk : ∀ g, v.ownBlock = some g → w'.heap[g]? = w.heap[g]?) : w'.ownsRow base e size v n xs := by
  obtain ⟨h1, h2⟩ := h
  refine ⟨h1, ?_⟩
  rcases h2 with h2 | ⟨g, cap, cur, rfl, q1, q2, q3⟩
  · exact .inl h2
  · exact .inr ⟨g, cap, cur, rfl, q1, by rw [hk g rfl]; exact q2, q3⟩

/-- the cells of what is kept -/
abbrev kcells (A : Option Addr) (n c : Nat) (B : Option Addr) (m e : Nat) (rv : Value) (k : K) : Array Value :=
  #[.int .i64 (k.cut.log : Nat), .int .i64 (k.cut.pages : Nat), .slice A n c, .slice B m e, .int .i64 k.drive.left, .bool k.drive.dead, .int .i64 (k.head.gen : Nat), .int .i64 (k.head.half : Nat), .int .i64 (k.head.seq : Nat), .int .i64 (k.head.pages : Nat), .string (mkB k.text), rv,
    .int .i64 (k.log.frm : Nat), .int .i64 (k.log.len : Nat), .int .i64 (k.log.at_ : Nat), .int .i64 (k.log.seq : Nat)]
/-- what is kept, at block b; its records are the row rv of its own; its disk lies in blocks of V -/
def KeepAt (w : World) (V : Nat → Prop) (b : Nat) (rv : Value) (k : K) : Prop :=
  ∃ A n c B m e, Box w b 87 (kcells A n c B m e rv k) ∧ Dk w (fun x => V x ∧ x ≠ b ∧ rv.ownBlock ≠ some x) A n c B m e k.drive ∧ w.ownsRow 0 9 1 rv k.records.length (secV k.records) ∧ rv.ownBlock ≠ some b
/-- nothing that was there changes but b and the row rv -/
structure Chg (b : Nat) (rv : Value) (w w' : World) : Prop where
  os : w'.os = w.os
  tape : w'.tape = w.tape
  output : w'.output = w.output
  size : w.heap.size ≤ w'.heap.size
  block : ∀ x, x < w.heap.size → x ≠ b → rv.ownBlock ≠ some x → w'.heap[x]? = w.heap[x]?
theorem Chg.of {b : Nat} {rv : Value} {w w' : World} (h : Below w.heap.size w w') : Chg b rv w w' := ⟨h.os, h.tape, h.output, h.size, fun x hx _ _ => h.block x hx⟩
theorem Chg.below {b base : Nat} {rv : Value} {w0 w w' : World} (h : Chg b rv w w') (hb : Below base w0 w) (h1 : base ≤ b) (h2 : ∀ g, rv.ownBlock = some g → base ≤ g) (h0 : base ≤ w.heap.size) : Below base w0 w' :=
  ⟨h.os.trans hb.os, h.tape.trans hb.tape, h.output.trans hb.output, Nat.le_trans hb.size h.size, fun x hx => (h.block x (by omega) (by omega) (fun e => by have := h2 x e; omega)).trans (hb.block x hx)⟩
theorem KeepAt.keep {w w' : World} {V : Nat → Prop} {b : Nat} {rv : Value} {k : K} (h : KeepAt w V b rv k) (hs : w.heap.size ≤ w'.heap.size) (hk : ∀ x, x < w.heap.size → (V x ∨ x = b ∨ rv.ownBlock = some x) → w'.heap[x]? = w.heap[x]?) : KeepAt w' V b rv k := by
  obtain ⟨A, n, c, B, m, e, h1, h2, h3, h4⟩ := h
  exact ⟨A, n, c, B, m, e, h1.at (hk _ h1.lt (.inr (.inl rfl))), h2.keep hs fun x hx hl => hk x hl (.inl hx.1), own_keepK h3 fun g hg => hk g (h3.lt g hg).2 (.inr (.inr hg)), h4⟩
theorem KeepAt.below {w w' : World} {V : Nat → Prop} {b : Nat} {rv : Value} {k : K} (h : KeepAt w V b rv k) (hb : Below w.heap.size w w') : KeepAt w' V b rv k := h.keep hb.size fun x hx _ => hb.block x hx
theorem KeepAt.mono {w : World} {V V' : Nat → Prop} {b : Nat} {rv : Value} {k : K} (h : KeepAt w V b rv k) (hV : ∀ x, V x → x < w.heap.size → V' x) : KeepAt w V' b rv k := by
  obtain ⟨A, n, c, B, m, e, h1, h2, h3, h4⟩ := h
  exact ⟨A, n, c, B, m, e, h1, h2.lt'.mono fun x hx => ⟨hV x hx.1.1 hx.2, hx.1.2⟩, h3, h4⟩
theorem KeepAt.lt {w : World} {V : Nat → Prop} {b : Nat} {rv : Value} {k : K} (h : KeepAt w V b rv k) : b < w.heap.size ∧ ∀ g, rv.ownBlock = some g → g < w.heap.size := by
  obtain ⟨A, n, c, B, m, e, h1, h2, h3, h4⟩ := h
  exact ⟨h1.lt, fun g hg => (h3.lt g hg).2⟩

theorem size_bounds {c : Cut} (hc : okC c) : 2 ≤ KeepP.size c ∧ KeepP.size c ≤ 4000 := by
  obtain ⟨h1, h2, h3, h4⟩ := hc
  unfold KeepP.size KeepP.half
  omega
/-- what Format keeps -/
theorem format_kept {c : Cut} {t : Bytes} (hc : okC c) (hp : (pagesP t).length ≤ c.pages) :
    ∃ d', saveP (DiskP.new (KeepP.size c)) c ⟨1, 0, 1, (pagesP t).length⟩ (pagesP t) = (d', 0) ∧ Kept ⟨c, d', ⟨1, 0, 1, (pagesP t).length⟩, t, [], beginP c ⟨1, 0, 1, (pagesP t).length⟩⟩ ∧ d'.left = -1 := by
  obtain ⟨z1, z2⟩ := size_bounds hc
  have hg := DiskP.good_new (n := KeepP.size c) (by omega) (by omega)
  have hl : LogP.Live (KeepP.size c) (DiskP.new (KeepP.size c)) := ⟨hg.may, hg.len, hg.dead⟩
  have hp100 : c.pages ≤ 100 := hc.2.2.2
  have hh : okH ⟨1, 0, 1, (pagesP t).length⟩ := ⟨Nat.le_refl 1, by show 1 ≤ LogP.maxSeq; unfold LogP.maxSeq; omega, Nat.zero_le 1, Nat.le_refl 1, by show 1 ≤ LogP.maxSeq; unfold LogP.maxSeq; omega, by show (pagesP t).length < 65536; omega⟩
  obtain ⟨⟨d', e'⟩, he⟩ : ∃ r, saveP (DiskP.new (KeepP.size c)) c ⟨1, 0, 1, (pagesP t).length⟩ (pagesP t) = r := ⟨_, rfl⟩
  have he0 : e' = 0 := by
    rcases Nat.eq_zero_or_pos e' with h0 | h0
    · exact h0
    · have := KeepP.save_err hl hc hh rfl hp he (by omega)
      exact absurd rfl this.2.1
  subst he0
  have ho : ∀ s, (DiskP.done (DiskP.new (KeepP.size c)))[1 - 1 % 2]? = some s → KeepP.Old s 1 := by
    intro s hs
    have e : DiskP.done (DiskP.new (KeepP.size c)) = List.replicate (KeepP.size c) (noughts 128) := rfl
    rw [e] at hs
    have := List.eq_of_mem_replicate (List.mem_of_getElem? hs)
    rw [this]
    exact .inl (by decide)
  obtain ⟨q1, q2⟩ := KeepP.save_ok hl hc hh rfl hp ho he
  exact ⟨d', he, q1, q2 rfl⟩

/-- what Format has kept -/
abbrev fmtK (ct : Cut) (t : Bytes) (d : Disk) : K := ⟨ct, d, ⟨1, 0, 1, (pagesP t).length⟩, t, [], beginP ct ⟨1, 0, 1, (pagesP t).length⟩⟩

set_option maxRecDepth 100000 in
set_option maxHeartbeats 6400000 in
theorem format_any (ct : Cut) (s : ByteArray) (w : World) (hc : okC ct) (hs : s.size ≤ 1000000) (hfit : (pagesP (oct s)).length ≤ ct.pages) :
    Calls Tryz.prog 10 #[ctv ct, .string s] w fun q w' => ∃ b d', q = .returned (.tuple #[.pointer (some ⟨b, 0, none⟩), .int .i64 0]) ∧ KeepAt w' (fun x => w.heap.size ≤ x) b (.slice none 0 0) (fmtK ct (oct s) d') ∧ w.heap.size ≤ b ∧ Kept (fmtK ct (oct s) d') ∧ d'.left = -1 ∧ Below w.heap.size w w' := by
  obtain ⟨d', hsv, hkept, hleft⟩ := format_kept (t := oct s) hc hfit
  have hbg := fun w1 => begin_any ct ⟨1, 0, 1, (pagesP (oct s)).length⟩ w1 hc (Nat.zero_le 1)
  have hdead' : d'.dead = false := hkept.log.live.dead
  have hfl : (pagesP (oct s)).flatten.length ≤ 1000000 := by rw [KeepP.pages_len]; have := hc.2.2.2; omega
  have hgood := DiskP.good_new (n := KeepP.size ct) (by have := size_bounds hc; omega) (size_bounds hc).2
  have hsave : ∀ ww (V : Nat → Prop) A c B e Al al, Dk ww V A (KeepP.size ct) c B 0 e (DiskP.new (KeepP.size ct)) → ww.ownsRow 0 9 1 (.slice Al (pagesP (oct s)).length al) (pagesP (oct s)).length (secV (pagesP (oct s))) →
      Calls Tryz.prog 30 #[.agg #[.slice A (KeepP.size ct) c, .slice B 0 e, .int .i64 (-1), .bool false], ctv ct, .agg #[.int .i64 1, .int .i64 0, .int .i64 1, .int .i64 ((pagesP (oct s)).length : Nat)], .slice Al (pagesP (oct s)).length al] ww fun q w' => ∃ A2 c2 B2 m2 e2, q = .returned (.tuple #[.agg #[.slice A2 (KeepP.size ct) c2, .slice B2 m2 e2, .int .i64 (-1), .bool false], .int .i64 0]) ∧ Dk w' (fun x => V x ∨ ww.heap.size ≤ x) A2 (KeepP.size ct) c2 B2 m2 e2 d' ∧ Below ww.heap.size ww w' := by
    intro ww V A c B e Al al hD ho
    have hA5 : (pagesP (oct s)).length = 0 ∨ ∃ g o, Al = some ⟨g, o, none⟩ := by
      rcases Nat.eq_zero_or_pos (pagesP (oct s)).length with h0 | h0
      · exact .inl h0
      · obtain ⟨g, cap, hv, _⟩ := own_form ho h0
        injection hv with hv _ _
        exact .inr ⟨g, 0, hv⟩
    have := save_any A (KeepP.size ct) c B 0 e (DiskP.new (KeepP.size ct)) V ct ⟨1, 0, 1, (pagesP (oct s)).length⟩ Al _ al (pagesP (oct s)) _ ww hD hgood.may (by decide) hc (by show 1 ≤ 9223372036854775807; decide) (Nat.zero_le 1) (by show 1 ≤ 9223372036854775807; decide) (by show (pagesP (oct s)).length ≤ _; have := hc.2.2.2; omega) (Sl.of_own ho) hA5 (own_cap ho) hfl (by have := hc.2.2.2; omega)
    rw [hsv] at this
    refine this.mono ?_
    rintro q w' ⟨v, rfl, ⟨A2, n2, c2, B2, m2, e2, rfl, h2⟩, hb⟩
    have h2' : Dk w' _ A2 n2 c2 B2 m2 e2 d' := h2
    obtain rfl : n2 = KeepP.size ct := by rw [← h2'.len]; exact hkept.log.live.len
    exact ⟨A2, c2, B2, m2, e2, by show Ending.returned (.tuple #[.agg #[_, _, .int .i64 d'.left, .bool d'.dead], _]) = _; rw [hleft, hdead']; rfl, h2', hb⟩
  have hpg := fun w1 => pages_any s w1 hs
  have hsz : ∀ w1, Calls Tryz.prog 27 #[ctv ct] w1 fun q w' => q = .returned (.int .i64 (KeepP.size ct : Nat)) ∧ Below w1.heap.size w1 w' := fun w1 => by
    have := size_any (ct.log : Nat) (ct.pages : Nat) w1
    rw [sizeI_ok hc] at this
    exact this
  obtain ⟨z1, z2⟩ := size_bounds hc
  have hnew := fun w1 => new_any (KeepP.size ct) w1 (by omega) z2
  obtain ⟨N, hN⟩ : ∃ N, N = KeepP.size ct := ⟨_, rfl⟩
  rw [← hN] at hsz hnew z1 z2 hsave
  have HPG := hide hpg
  have HNEW := hide hnew
  have HSZ := hide hsz
  obtain ⟨t, ht⟩ : ∃ t, t = oct s := ⟨_, rfl⟩
  rw [← ht] at HPG hfit hsave hbg hkept hsv hfl
  obtain ⟨np, hnp⟩ : ∃ np, np = (pagesP t).length := ⟨_, rfl⟩
  rw [← hnp] at HPG hfit hsave hbg hkept
  have kC0 := Box.new w 46 #[.int .i64 (ct.log : Nat), .int .i64 (ct.pages : Nat)]
  have hb0 : Below w.heap.size w (w.alloc (.cells #[.int .i64 (ct.log : Nat), .int .i64 (ct.pages : Nat)] 46)) := (Below.refl _ _).alloc (Nat.le_refl _) _
  obtain ⟨w0, hw0⟩ : ∃ y, y = w.alloc (.cells #[.int .i64 (ct.log : Nat), .int .i64 (ct.pages : Nat)] 46) := ⟨_, rfl⟩
  rw [← hw0] at kC0 hb0
  have HW0 := hide hw0
  have HC := hide hc
  have HNN := hide hN
  have HT := hide ht
  have HNP := hide hnp
  have nz : decide ((N : Int) = 0) = false := by simp; omega
  have nz2 : ((N : Int) == 0) = false := by rw [beq_eq_false_iff_ne]; omega
  have nz3 : decide (N = 0) = false := by simp; omega
  have HSV := hide hsave
  have HBG : Hid (∀ w1, Calls Tryz.prog 31 #[.agg #[.int .i64 (ct.log : Nat), .int .i64 (ct.pages : Nat)], .agg #[.int .i64 1, .int .i64 0, .int .i64 1, .int .i64 (np : Nat)]] w1 fun q w' => q = .returned (.agg #[.int .i64 ((beginP ct ⟨1, 0, 1, np⟩).frm : Nat), .int .i64 ((beginP ct ⟨1, 0, 1, np⟩).len : Nat), .int .i64 ((beginP ct ⟨1, 0, 1, np⟩).at_ : Nat), .int .i64 ((beginP ct ⟨1, 0, 1, np⟩).seq : Nat)]) ∧ Below w1.heap.size w1 w') := hbg
  have HK : Hid (Kept (fmtK ct t d') ∧ d'.left = -1 ∧ d'.dead = false) := by
    refine ⟨?_, hleft, hdead'⟩
    rw [hnp] at hkept
    exact hkept
  clear hpg hsz hnew hN ht hnp hw0 hc hs hsave hbg hkept hsv hfl hgood hleft hdead'
  go_enter Tryz.func10, Tryz.ntmps10
  go_upto_region 1 with (fail)
  rw [← HW0.out]
  clear HW0
  obtain ⟨c0, c1⟩ := kC0.cell2
  go_wp2_with fail
  refine (HSZ.out _).mono ?_
  rintro q w1 ⟨rfl, hb1⟩
  have kC1 := kC0.belowS hb1
  have hbw1 := hb0.trans (hb1.mono hb0.size)
  clear c0 c1 kC0 hb0 hb1
  go_wp2_with fail
  refine (HPG.out _).mono ?_
  rintro q w2 ⟨v, rfl, ho2, hb2⟩
  obtain ⟨A2, c2, rfl⟩ := own_shape ho2
  have kC2 := kC1.belowS hb2
  have hbw2 := hbw1.trans (hb2.mono hbw1.size)
  obtain ⟨c0, c1⟩ := kC2.cell2
  clear kC1 hbw1 hb2 HPG
  have x1 : ¬ (ct.pages : Int) < (np : Int) := by omega
  have x2 : decide (ct.pages < np) = false := by simp; omega
  have kH2 := Box.new w2 77 #[.int .i64 1, .int .i64 0, .int .i64 1, .int .i64 (np : Nat)]
  have kC3 := kC2.up (.cells #[.int .i64 1, .int .i64 0, .int .i64 1, .int .i64 (np : Nat)] 77)
  have hb3 : Below w2.heap.size w2 (w2.alloc (.cells #[.int .i64 1, .int .i64 0, .int .i64 1, .int .i64 (np : Nat)] 77)) := (Below.refl _ _).alloc (Nat.le_refl _) _
  have hbw3 := hbw2.trans (hb3.mono hbw2.size)
  have HO3 := hide (own_below ho2 hb3)
  obtain ⟨bh, hbh⟩ : ∃ b, b = w2.heap.size := ⟨_, rfl⟩
  have hbh0 : w.heap.size ≤ bh := by rw [hbh]; exact hbw2.size
  obtain ⟨w3, hw3⟩ : ∃ y, y = w2.alloc (.cells #[.int .i64 1, .int .i64 0, .int .i64 1, .int .i64 (np : Nat)] 77) := ⟨_, rfl⟩
  rw [← hw3] at kH2 kC3 hbw3 HO3
  rw [← hbh] at kH2
  have HW3 := hide hw3
  have HBH := hide hbh
  clear hb3 hw3 hbh kC2 hbw2 ho2
  go_upto_region 7 with (fail)
  rw [← HW3.out, ← HBH.out]
  clear HW3 HBH c0 c1 x1 x2
  obtain ⟨c0, c1⟩ := kC3.cell2
  go_wp2_with fail
  refine (HSZ.out _).mono ?_
  rintro q w4 ⟨rfl, hb4⟩
  have kC4 := kC3.belowS hb4
  have kH4 := kH2.belowS hb4
  have HO4 := hide (own_below HO3.out hb4)
  have hbw4 := hbw3.trans (hb4.mono hbw3.size)
  clear c0 c1 kC3 kH2 HO3 hbw3 hb4
  go_wp2_with fail
  refine (HNEW.out _).mono ?_
  rintro q w5 ⟨v, rfl, ⟨A5, n5, c5, B5, m5, e5, rfl, hD5⟩, hb5⟩
  obtain rfl : n5 = N := by rw [← hD5.len, HNN.out]; simp [DiskP.new]
  obtain rfl : m5 = 0 := by rw [← hD5.wlen]; rfl
  have hD5' : Dk w5 (fun x => w4.heap.size ≤ x) A5 n5 c5 B5 0 e5 (DiskP.new n5) := hD5
  have e1 : (DiskP.new n5).left = -1 := rfl
  have e2 : (DiskP.new n5).dead = false := rfl
  simp only [dkv, e1, e2]
  have kC5 := (kC4.belowS hb5).up (.cells #[.slice A5 n5 c5, .slice B5 0 e5, .int .i64 (-1), .bool false] 54)
  have kH5 := (kH4.belowS hb5).up (.cells #[.slice A5 n5 c5, .slice B5 0 e5, .int .i64 (-1), .bool false] 54)
  have kD5 := Box.new w5 54 #[.slice A5 n5 c5, .slice B5 0 e5, .int .i64 (-1), .bool false]
  have hb6 : Below w5.heap.size w5 (w5.alloc (.cells #[.slice A5 n5 c5, .slice B5 0 e5, .int .i64 (-1), .bool false] 54)) := (Below.refl _ _).alloc (Nat.le_refl _) _
  have hbw5 := hbw4.trans (hb5.mono hbw4.size)
  have hbw6 := hbw5.trans (hb6.mono hbw5.size)
  have HD6 := hide ((hD5'.lt'.below hb6).mono (V' := fun x => w.heap.size ≤ x ∧ x < w5.heap.size) fun x hx => ⟨Nat.le_trans hbw4.size hx.1, hx.2⟩)
  have HO6 := hide (own_below (own_below HO4.out hb5) hb6)
  have hs56 := hbw5.size
  have hlC := (kC4.belowS hb5).lt
  have hlH := (kH4.belowS hb5).lt
  obtain ⟨bd, hbd⟩ : ∃ b, b = w5.heap.size := ⟨_, rfl⟩
  obtain ⟨w6, hw6⟩ : ∃ y, y = w5.alloc (.cells #[.slice A5 n5 c5, .slice B5 0 e5, .int .i64 (-1), .bool false] 54) := ⟨_, rfl⟩
  rw [← hw6] at kC5 kH5 kD5 hbw6 HD6 HO6
  rw [← hbd] at kD5 HD6 hs56 hlC hlH
  have HW6 := hide hw6
  have HBD := hide hbd
  clear hb6 hw6 hbd kC4 kH4 HO4 hbw4 hb5 hD5 hD5' e1 e2 hbw5 HNEW HSZ nz nz2 nz3
  go_upto_region 10 with (fail)
  rw [← HW6.out, ← HBD.out]
  clear HW6 HBD
  obtain ⟨c0, c1⟩ := kC5.cell2
  obtain ⟨p0, p1, p2, p3⟩ := kH5.cell4
  obtain ⟨q0, q1, q2, q3⟩ := kD5.cell4
  go_wp2_with fail
  refine (HSV.out w6 _ A5 c5 B5 e5 A2 c2 HD6.out (own_mono HO6.out (Nat.zero_le _))).mono ?_
  rintro q w7 ⟨A7, c7, B7, m7, e7, rfl, hD7, hb7⟩
  have kC7 := kC5.belowS hb7
  have kH7 := kH5.belowS hb7
  have kD7 := kD5.belowS hb7
  have hbw7 := hbw6.trans (hb7.mono hbw6.size)
  have f0 := kD7.frozen 0
  have f1 := kD7.frozen 1
  have f2 := kD7.frozen 2
  have f3 := kD7.frozen 3
  have kD8 := kD7.set4 (u0 := .slice A7 n5 c7) (u1 := .slice B7 m7 e7) (u2 := .int .i64 (-1)) (u3 := .bool false)
  have kC8 := kC7.far4 (c := bd) (u0 := .slice A7 n5 c7) (u1 := .slice B7 m7 e7) (u2 := .int .i64 (-1)) (u3 := .bool false) (by omega)
  have kH8 := kH7.far4 (c := bd) (u0 := .slice A7 n5 c7) (u1 := .slice B7 m7 e7) (u2 := .int .i64 (-1)) (u3 := .bool false) (by omega)
  have hD8 := (hD7.mono (V' := fun x => w.heap.size ≤ x ∧ x ≠ bd) fun x hx => hx.elim (fun h => ⟨h.1, by omega⟩) fun h => ⟨by have := hbw6.size; omega, by have := kD5.lt; omega⟩).set4 (b := bd) (u0 := .slice A7 n5 c7) (u1 := .slice B7 m7 e7) (u2 := .int .i64 (-1)) (u3 := .bool false) fun x hx => hx.2
  have hbw8 := below_set4 (b := bd) (u0 := .slice A7 n5 c7) (u1 := .slice B7 m7 e7) (u2 := .int .i64 (-1)) (u3 := .bool false) hbw7 hs56
  obtain ⟨w8, hw8⟩ : ∃ y, y = (((w7.setCell ⟨bd, 0, none⟩ (.slice A7 n5 c7)).setCell ⟨bd, 1, none⟩ (.slice B7 m7 e7)).setCell ⟨bd, 2, none⟩ (.int .i64 (-1))).setCell ⟨bd, 3, none⟩ (.bool false) := ⟨_, rfl⟩
  rw [← hw8] at kD8 kC8 kH8 hD8 hbw8
  have HW8 := hide hw8
  have HD8 := hide hD8
  clear c0 c1 p0 p1 p2 p3 q0 q1 q2 q3 hw8 hD8 hD7 kC5 kH5 kD5 hbw6 HD6 HO6 HSV hb7 kC7 kH7 hbw7
  obtain ⟨q0, q1, q2, q3⟩ := kD7.cell4
  go_upto_region 13 with (fail)
  rw [← HW8.out]
  clear HW8 q0 q1 q2 q3 f0 f1 f2 f3 kD7
  have HSS : Hid (∀ ww, Below w8.heap.size w8 ww → (ww.cell? ⟨w.heap.size, 0, none⟩ = some (.int .i64 (ct.log : Nat)) ∧ ww.cell? ⟨w.heap.size, 1, none⟩ = some (.int .i64 (ct.pages : Nat))) ∧ (ww.cell? ⟨bd, 0, none⟩ = some (.slice A7 n5 c7) ∧ ww.cell? ⟨bd, 1, none⟩ = some (.slice B7 m7 e7) ∧ ww.cell? ⟨bd, 2, none⟩ = some (.int .i64 (-1)) ∧ ww.cell? ⟨bd, 3, none⟩ = some (.bool false)) ∧ ww.cell? ⟨bh, 0, none⟩ = some (.int .i64 1) ∧ ww.cell? ⟨bh, 1, none⟩ = some (.int .i64 0) ∧ ww.cell? ⟨bh, 2, none⟩ = some (.int .i64 1) ∧ ww.cell? ⟨bh, 3, none⟩ = some (.int .i64 (np : Nat))) :=
    fun ww hb => ⟨(kC8.belowS hb).cell2, (kD8.belowS hb).cell4, (kH8.belowS hb).cell4⟩
  go_region_held3 (fun ww => (ww.cell? ⟨w.heap.size, 0, none⟩ = some (.int .i64 (ct.log : Nat)) ∧ ww.cell? ⟨w.heap.size, 1, none⟩ = some (.int .i64 (ct.pages : Nat))) ∧ (ww.cell? ⟨bd, 0, none⟩ = some (.slice A7 n5 c7) ∧ ww.cell? ⟨bd, 1, none⟩ = some (.slice B7 m7 e7) ∧ ww.cell? ⟨bd, 2, none⟩ = some (.int .i64 (-1)) ∧ ww.cell? ⟨bd, 3, none⟩ = some (.bool false)) ∧ ww.cell? ⟨bh, 0, none⟩ = some (.int .i64 1) ∧ ww.cell? ⟨bh, 1, none⟩ = some (.int .i64 0) ∧ ww.cell? ⟨bh, 2, none⟩ = some (.int .i64 1) ∧ ww.cell? ⟨bh, 3, none⟩ = some (.int .i64 (np : Nat)))
    (first | (with_reducible exact (HSS.out w8 (Below.refl _ _))) | (with_reducible exact (HSS.out w8.drew (Below.refl _ _).drew)) | (with_reducible exact (HSS.out wx hbx)) | (with_reducible exact (HSS.out _ (hbx.alloc hbx.size _))))
    (((with_reducible refine (HBG.out _).mono ?_); rintro q wx ⟨rfl, hbx⟩; have hbx := below_undrewD hbx))
  obtain ⟨hk, hkl, hkd⟩ := HK.out
  have hbwx := hbw8.trans (hbx.mono hbw8.size)
  have kF := Box.new wx 87 (kcells A7 n5 c7 B7 m7 e7 (.slice none 0 0) (fmtK ct t d'))
  have hbF : Below wx.heap.size wx (wx.alloc (.cells (kcells A7 n5 c7 B7 m7 e7 (.slice none 0 0) (fmtK ct t d')) 87)) := (Below.refl _ _).alloc (Nat.le_refl _) _
  have hDF := ((HD8.out.below hbx).lt'.below hbF).mono (V' := fun x => w.heap.size ≤ x ∧ x ≠ wx.heap.size ∧ (Value.slice none 0 0).ownBlock ≠ some x) fun x hx => ⟨hx.1.1, by have := hx.2; omega, by simp [Value.ownBlock]⟩
  have hbwF := hbwx.trans (hbF.mono hbwx.size)
  have hsx := hbwx.size
  have hcells : kcells A7 n5 c7 B7 m7 e7 (.slice none 0 0) (fmtK ct t d') = #[.int .i64 (ct.log : Nat), .int .i64 (ct.pages : Nat), .slice A7 n5 c7, .slice B7 m7 e7, .int .i64 (-1), .bool false, .int .i64 1, .int .i64 0, .int .i64 1, .int .i64 (np : Nat), .string s, .slice none 0 0, .int .i64 ((beginP ct ⟨1, 0, 1, np⟩).frm : Nat), .int .i64 ((beginP ct ⟨1, 0, 1, np⟩).len : Nat), .int .i64 ((beginP ct ⟨1, 0, 1, np⟩).at_ : Nat), .int .i64 ((beginP ct ⟨1, 0, 1, np⟩).seq : Nat)] := by
    have e1 : (fmtK ct t d').drive.left = -1 := hkl
    have e2 : (fmtK ct t d').drive.dead = false := hkd
    have e3 : mkB (fmtK ct t d').text = s := by show mkB t = s; rw [HT.out, mkB_oct]
    unfold kcells
    rw [e1, e2, e3, HNP.out]
    rfl
  have HFIN : Hid (KeepAt (wx.alloc (.cells (kcells A7 n5 c7 B7 m7 e7 (.slice none 0 0) (fmtK ct t d')) 87)) (fun x => w.heap.size ≤ x) wx.heap.size (.slice none 0 0) (fmtK ct t d')) :=
    ⟨A7, n5, c7, B7, m7, e7, kF, hDF, ⟨rfl, .inl ⟨rfl, rfl⟩⟩, by simp [Value.ownBlock]⟩
  have HBW := hide hbwF
  rw [hcells] at HFIN HBW
  clear kF hbF hDF hbwF hcells HSS HD8 kC8 kD8 kH8 hbx
  go_wp2_with fail
  exact bodyPost_ret (v := .tuple #[.pointer (some ⟨wx.heap.size, 0, none⟩), .int .i64 0]) (by simp [results, Tryz.results10, go_sem]) rfl ⟨wx.heap.size, d', rfl, by rw [← HT.out]; exact HFIN.out, hsx, by rw [← HT.out]; exact hk, hkl, HBW.out⟩
end Go.Proofs.YtojincohnjophaaGreatDoor

/-! The walk of layer 18's Clear. (printed by genclear.py) -/
namespace Go.Proofs.YtojincohnjophaaGreatDoor
open Go.RowKit
open DiskP (Bytes Disk Wr Fate noughts)
open LogP (Log zeroL Live okL)
set_option linter.unusedVariables false

def Fc.put (i : Nat) (s : ByteArray) : Fc := ⟨fun v w => ∃ b1 b2, v = stV (.put b1 b2 i s) ∧ stBox w (St.put b1 b2 i s), fun _ _ _ hb ⟨b1, b2, e, h⟩ => ⟨b1, b2, e, stBox.keep (B := 0) h fun b h => hb.block b h⟩⟩
end Go.Proofs.YtojincohnjophaaGreatDoor

/-! What the laws of layer 18 share: an append to a log that holds records; lists of logs in memory. -/
namespace Go.Proofs.YtojincohnjophaaGreatDoor
open Go.RowKit
open DiskP (Bytes Disk Wr Fate noughts)
open LogP (Log zeroL Live okL Holds)
set_option linter.unusedVariables false

namespace LogP
/-- a log of the records behind the first ones -/
theorem Holds.tail {n frm len at0 q0 : Nat} {d : Disk} {a b : List Bytes} {l : Log} (h : Holds n d frm len at0 q0 (a ++ b) l) : Holds n d frm len (at0 + sum a) (q0 + a.length) b l := by
  refine ⟨h.live, h.quiet, h.has.tail, ?_, by have := h.q1; omega, h.len2⟩
  rw [h.log, sum_append, List.length_append]
  simp only [Log.mk.injEq, true_and]
  omega
end LogP

/-- what lies in other blocks than a row of one's own is as it was behind an append to it -/
theorem Apd.far {w w' : World} {base : Nat} {e : TypeId} {size : Nat} {v v' : Value} {n : Nat} {xs : List Value} (h : Apd w w' base e size v v' n xs) {k : Nat} (hk : k < w.heap.size) (hne : v.ownBlock ≠ some k) : w'.heap[k]? = w.heap[k]? := h.grown.block k hk fun e => hne e.symm
theorem Apd.size {w w' : World} {base : Nat} {e : TypeId} {size : Nat} {v v' : Value} {n : Nat} {xs : List Value} (h : Apd w w' base e size v v' n xs) : w.heap.size ≤ w'.heap.size := h.grown.size

theorem four_of {vs : Array Value} (h : vs.size = 4) : ∃ a b c d, vs = #[a, b, c, d] := by
  refine ⟨vs[0], vs[1], vs[2], vs[3], ?_⟩
  apply Array.ext
  · simpa using h
  · intro i h1 h2
    have : i = 0 ∨ i = 1 ∨ i = 2 ∨ i = 3 := by omega
    rcases this with rfl | rfl | rfl | rfl <;> rfl
/-- the boxes of a disk and of the log behind it, at block b -/
structure LBox (wr : World) (V : Nat → Prop) (b : Nat) (A : Option Addr) (n c : Nat) (B : Option Addr) (m e : Nat) (d : Disk) (x : Log) : Prop where
  bd : Box wr b 54 #[.slice A n c, .slice B m e, .int .i64 d.left, .bool d.dead]
  bx : Box wr (b + 1) 82 #[.int .i64 (x.frm : Nat), .int .i64 (x.len : Nat), .int .i64 (x.at_ : Nat), .int .i64 (x.seq : Nat)]
  dk : Dk wr V A n c B m e d
theorem LBox.below {wr w' : World} {V : Nat → Prop} {b n c m e : Nat} {A B : Option Addr} {d : Disk} {x : Log} (h : LBox wr V b A n c B m e d x) (hb : Below wr.heap.size wr w') : LBox w' V b A n c B m e d x :=
  ⟨h.bd.belowS hb, h.bx.belowS hb, h.dk.below hb⟩

/-- the boxes of a disk and of a log, written anew -/
theorem LBox.put {w : World} {V : Nat → Prop} {b n c m e : Nat} {A B : Option Addr} {d : Disk} {x : Log} {lf : Int} {dd : Bool} {vs us : Array Value} (hvs : vs.size = 4) (hus : us.size = 4) (hd : Box w b 54 vs) (hx : Box w (b + 1) 82 us) (hD : Dk w V A n c B m e d) (hV : ∀ k, V k → k ≠ b ∧ k ≠ b + 1) (h1 : lf = d.left) (h2 : dd = d.dead) :
    LBox ((((((((w.setCell ⟨b, 0, none⟩ (.slice A n c)).setCell ⟨b, 1, none⟩ (.slice B m e)).setCell ⟨b, 2, none⟩ (.int .i64 lf)).setCell ⟨b, 3, none⟩ (.bool dd)).setCell ⟨b + 1, 0, none⟩ (.int .i64 (x.frm : Nat))).setCell ⟨b + 1, 1, none⟩ (.int .i64 (x.len : Nat))).setCell ⟨b + 1, 2, none⟩ (.int .i64 (x.at_ : Nat))).setCell ⟨b + 1, 3, none⟩ (.int .i64 (x.seq : Nat))) V b A n c B m e d x := by
  subst h1 h2
  obtain ⟨v0, v1, v2, v3, rfl⟩ := four_of hvs
  obtain ⟨u0, u1, u2, u3, rfl⟩ := four_of hus
  exact ⟨hd.set4.far4 (by omega), (hx.far4 (by omega)).set4, (hD.set4 fun k hk => (hV k hk).1).set4 fun k hk => (hV k hk).2⟩

/-- what an append has left: its disk, its log, its error -/
def AppEnd (V : Nat → Prop) (W : World) (R : Disk × Log × Nat) (p q e : Value) (wc : World) : Prop :=
  ∃ b7 b8 A n c B m k, p = .pointer (some ⟨b7, 0, none⟩) ∧ q = .pointer (some ⟨b8, 0, none⟩) ∧ e = .int .i64 (R.2.2 : Nat) ∧ W.heap.size ≤ b7 ∧ W.heap.size ≤ b8 ∧ b7 ≠ b8 ∧
    Box wc b7 54 #[.slice A n c, .slice B m k, .int .i64 R.1.left, .bool R.1.dead] ∧ Box wc b8 82 #[.int .i64 (R.2.1.frm : Nat), .int .i64 (R.2.1.len : Nat), .int .i64 (R.2.1.at_ : Nat), .int .i64 (R.2.1.seq : Nat)] ∧
    Dk wc (fun x => (V x ∧ x < W.heap.size ∨ W.heap.size ≤ x) ∧ x ≠ b7 ∧ x ≠ b8) A n c B m k R.1 ∧ Below W.heap.size W wc
end Go.Proofs.YtojincohnjophaaGreatDoor

/-! The walk of LogBack. (printed by genback.py) -/
namespace Go.Proofs.YtojincohnjophaaGreatDoor
open Go.RowKit
open DiskP (Bytes Disk Wr Fate noughts)
open LogP (Log zeroL Live okL Holds)
set_option linter.unusedVariables false

theorem secV_snoc2 (recs : List Bytes) (fs : ByteArray) : strs (recs.map mkB ++ [fs]) = secV (recs ++ [oct fs]) := by
  simp [secV, strs, mkB_oct]
end Go.Proofs.YtojincohnjophaaGreatDoor
