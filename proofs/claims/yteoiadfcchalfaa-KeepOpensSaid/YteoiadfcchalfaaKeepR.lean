/- The walk of law 21's cut and awake. (merged: KeepQ KeepR) -/
import Derived.Test.YteoiadfcchalfaaKeepO
import Derived.Test.YteoiadfcchalfaaSlotB
/-! What is kept, in memory, and its methods, as the laws of layer 21 use them. -/
namespace Go.Proofs.Yteoiadfcchalfaa
open Go.RowKit
open DiskP (Bytes Disk Wr Fate noughts)
open KeepP (Cut Head K Kept okC okH pagesP saveP beginP openP)
open LogP (Log zeroL Live okL Holds)
set_option linter.unusedVariables false

/-- what is kept, at block b, all of it in blocks of S -/
def KM (w : World) (S : Nat → Prop) (b : Nat) (k : K) : Prop := ∃ rv, KeepAt w S b rv k ∧ S b ∧ ∀ g, rv.ownBlock = some g → S g
/-- nothing that was there changes but in blocks of S -/
structure KChg (S : Nat → Prop) (w w' : World) : Prop where
  os : w'.os = w.os
  tape : w'.tape = w.tape
  output : w'.output = w.output
  size : w.heap.size ≤ w'.heap.size
  block : ∀ x, x < w.heap.size → ¬ S x → w'.heap[x]? = w.heap[x]?
theorem KChg.of {S : Nat → Prop} {b : Nat} {rv : Value} {w w' : World} (h : Chg b rv w w') (hb : S b) (hr : ∀ g, rv.ownBlock = some g → S g) : KChg S w w' :=
  ⟨h.os, h.tape, h.output, h.size, fun x hx hS => h.block x hx (fun e => hS (e ▸ hb)) fun e => hS (hr x e)⟩
theorem KChg.toBelow {S : Nat → Prop} {base : Nat} {w w' : World} (h : KChg S w w') (hS : ∀ x, S x → base ≤ x) (h0 : base ≤ w.heap.size) : Below base w w' :=
  ⟨h.os, h.tape, h.output, h.size, fun x hx => h.block x (by omega) fun hs => by have := hS x hs; omega⟩
theorem KM.below {w w' : World} {S : Nat → Prop} {b : Nat} {k : K} (h : KM w S b k) (hb : Below w.heap.size w w') : KM w' S b k := by
  obtain ⟨rv, h1, h2, h3⟩ := h
  exact ⟨rv, h1.below hb, h2, h3⟩
theorem KM.lt {w : World} {S : Nat → Prop} {b : Nat} {k : K} (h : KM w S b k) : b < w.heap.size := by
  obtain ⟨rv, h1, h2, h3⟩ := h
  exact h1.lt.1
theorem KM.mono {w : World} {S S' : Nat → Prop} {b : Nat} {k : K} (h : KM w S b k) (hS : ∀ x, S x → x < w.heap.size → S' x) : KM w S' b k := by
  obtain ⟨rv, h1, h2, h3⟩ := h
  have hl := h1.lt
  exact ⟨rv, h1.mono hS, hS _ h2 hl.1, fun g hg => hS _ (h3 g hg) (hl.2 g hg)⟩
theorem KM.other {w w' : World} {S S' : Nat → Prop} {b : Nat} {k : K} (h : KM w S b k) (hc : KChg S' w w') (hd : ∀ x, S x → ¬ S' x) : KM w' S b k := by
  obtain ⟨rv, h1, h2, h3⟩ := h
  refine ⟨rv, h1.keep hc.size fun x hx hs => hc.block x hx ?_, h2, h3⟩
  rcases hs with h | h | h
  · exact hd x h
  · exact hd x (h ▸ h2)
  · exact hd x (h3 x h)

theorem km_text {w : World} {S : Nat → Prop} {b : Nat} {k : K} (h : KM w S b k) :
    Calls Try.prog 55 #[.pointer (some ⟨b, 0, none⟩)] w fun q w' => q = .returned (.string (mkB k.text)) ∧ w = w' := by
  obtain ⟨rv, h1, _⟩ := h
  exact text_any S b rv k w h1
theorem km_gen {w : World} {S : Nat → Prop} {b : Nat} {k : K} (h : KM w S b k) :
    Calls Try.prog 62 #[.pointer (some ⟨b, 0, none⟩)] w fun q w' => q = .returned (.int .i64 (k.head.gen : Nat)) ∧ w = w' := by
  obtain ⟨rv, h1, _⟩ := h
  exact gen_any S b rv k w h1
theorem km_records {w : World} {S : Nat → Prop} {b : Nat} {k : K} (h : KM w S b k) (hr : k.records.length ≤ 1000000) :
    Calls Try.prog 59 #[.pointer (some ⟨b, 0, none⟩)] w fun q w' => ∃ v, q = .returned v ∧ w'.ownsRow w.heap.size 9 1 v k.records.length (secV k.records) ∧ Below w.heap.size w w' := by
  obtain ⟨rv, h1, _⟩ := h
  exact records_any S b rv k w h1 hr
theorem km_disk {w : World} {S : Nat → Prop} {b : Nat} {k : K} (h : KM w S b k) :
    Calls Try.prog 61 #[.pointer (some ⟨b, 0, none⟩)] w fun q w' => ∃ A n c B m e, q = .returned (.agg #[.slice A n c, .slice B m e, .int .i64 k.drive.left, .bool k.drive.dead]) ∧ Dk w' S A n c B m e k.drive ∧ Below w.heap.size w w' := by
  obtain ⟨rv, h1, _⟩ := h
  exact disk_any S b rv k w h1
/-- a kept disk, crashed -/
theorem km_crash {w : World} {V V2 : Nat → Prop} {A B FA : Option Addr} {n c m e fn fc : Nat} {f : Fate} {d : Disk} (hD : Dk w V A n c B m e d) (hm : DiskP.may d = true) (hF : Ft w V2 FA fn fc f) :
    Calls Try.prog 37 #[.agg #[.slice A n c, .slice B m e, .int .i64 d.left, .bool d.dead], .agg #[.slice FA fn fc, .int .i64 f.torn, .int .i64 f.cut]] w fun q w' => ∃ A n c B m e, q = .returned (.agg #[.slice A n c, .slice B m e, .int .i64 (DiskP.crash d f).left, .bool (DiskP.crash d f).dead]) ∧ Dk w' (fun x => w.heap.size ≤ x) A n c B m e (DiskP.crash d f) ∧ Below w.heap.size w w' := by
  refine (crash_any A n c B m e d V V2 FA fn fc f w hD hm hF).mono ?_
  rintro q w' ⟨v, rfl, ⟨A, n, c, B, m, e, rfl, h⟩, hb⟩
  exact ⟨A, n, c, B, m, e, rfl, h, hb⟩
/-- what is kept on a disk is opened -/
theorem km_open {w : World} {V : Nat → Prop} {A B : Option Addr} {n c m e : Nat} {k : K} (hk : Kept k) (hD : Dk w V A n c B m e k.drive) :
    Calls Try.prog 60 #[.agg #[.slice A n c, .slice B m e, .int .i64 k.drive.left, .bool k.drive.dead], .agg #[.int .i64 (k.cut.log : Nat), .int .i64 (k.cut.pages : Nat)]] w fun q w' => ∃ b, q = .returned (.tuple #[.pointer (some ⟨b, 0, none⟩), .int .i64 0]) ∧ KM w' (fun x => V x ∨ w.heap.size ≤ x) b k ∧ w.heap.size ≤ b ∧ Below w.heap.size w w' := by
  have hn : n = KeepP.size k.cut := by rw [← hD.len]; exact hk.log.live.len
  refine (open_any A n c B m e k.drive V k.cut w hD hk.log.live.may hk.log.live.dead hk.cut hn).mono ?_
  rintro q w' ⟨h, hb⟩
  rw [hk.opened] at h
  obtain ⟨b, rv, h1, h2, h3, h4⟩ := h
  exact ⟨b, h1, ⟨rv, h2, .inr h3, fun g hg => .inr (h4 g hg)⟩, h3, hb⟩
theorem km_format (ct : Cut) (s : ByteArray) (w : World) (hc : okC ct) (hs : s.size ≤ 1000000) (hfit : (pagesP (oct s)).length ≤ ct.pages) :
    Calls Try.prog 52 #[.agg #[.int .i64 (ct.log : Nat), .int .i64 (ct.pages : Nat)], .string s] w fun q w' => ∃ b d', q = .returned (.tuple #[.pointer (some ⟨b, 0, none⟩), .int .i64 0]) ∧ KM w' (fun x => w.heap.size ≤ x) b (fmtK ct (oct s) d') ∧ Kept (fmtK ct (oct s) d') ∧ d'.left = -1 ∧ w.heap.size ≤ b ∧ Below w.heap.size w w' := by
  refine (format_any ct s w hc hs hfit).mono ?_
  rintro q w' ⟨b, d', h1, h2, h3, h4, h5, h6⟩
  exact ⟨b, d', h1, ⟨_, h2, h3, fun g hg => by simp [Value.ownBlock] at hg⟩, h4, h5, h3, h6⟩
/-- what a save that has gone well keeps -/
abbrev svN (k : K) (t : Bytes) (d : Disk) : K := ⟨k.cut, d, svH k t, t, [], beginP k.cut (svH k t)⟩
theorem svH_ok {k : K} {t : Bytes} (hk : Kept k) (hr : svRoom k t) : okH (svH k t) := by
  obtain ⟨r1, r2, r3⟩ := hr
  have h1 := hk.hd
  have h2 := hk.log.log
  have h3 := hk.log.q1
  have h4 := hk.cut.2.2.2
  refine ⟨by show 1 ≤ k.head.gen + 1; omega, r2, by show 1 - k.head.half ≤ 1; omega, ?_, r3, by show (pagesP t).length < 65536; omega⟩
  show 1 ≤ k.log.seq
  rw [h2]
  show 1 ≤ k.head.seq + k.records.length
  omega
theorem km_save {w : World} {S : Nat → Prop} {b : Nat} {k : K} (h : KM w S b k) (hk : Kept k) (hl : k.drive.left = -1) (s : ByteArray) (hs : s.size ≤ 100000) (hroom : svRoom k (oct s)) :
    Calls Try.prog 56 #[.pointer (some ⟨b, 0, none⟩), .string s] w fun q w' => ∃ d', q = .returned (.int .i64 0) ∧ KM w' (fun x => S x ∨ w.heap.size ≤ x) b (svN k (oct s) d') ∧ Kept (svN k (oct s) d') ∧ d'.left = -1 ∧ KChg S w w' := by
  obtain ⟨rv, h1, h2, h3⟩ := h
  have hh := svH_ok hk hroom
  have hlv := hk.log.live
  have hh1 := hk.hd
  obtain ⟨⟨d', e⟩, he⟩ : ∃ r, saveP k.drive k.cut (svH k (oct s)) (pagesP (oct s)) = r := ⟨_, rfl⟩
  have he0 : e = 0 := by
    rcases Nat.eq_zero_or_pos e with h0 | h0
    · exact h0
    · exact absurd hl (KeepP.save_err hlv hk.cut hh rfl hroom.1 he (by omega)).2.1
  subst he0
  have hkN : Kept (svN k (oct s) d') := KeepP.opened_save hlv hk.cut hk.opened hh rfl rfl hroom.1 he
  have hdone : DiskP.done k.drive = k.drive.S := by rw [DiskP.done, hk.log.quiet]; rfl
  have hlN : d'.left = -1 := (KeepP.save_ok hlv hk.cut hh rfl hroom.1 (fun s' hs' => by
    rw [hdone, show 1 - (svH k (oct s)).gen % 2 = k.head.gen % 2 by show 1 - (k.head.gen + 1) % 2 = _; omega, hk.here] at hs'
    rw [← Option.some.inj hs']
    exact KeepP.Old.sector hh1 (by show k.head.gen < k.head.gen + 1; omega)) he).2 hl
  have hm1 := hroom.2.1
  have hm2 := hroom.2.2
  unfold LogP.maxSeq at hm1 hm2
  have hsv := ksave_any S b rv k s w h1 hlv.may hlv.dead (by rw [hk.log.quiet]; simp) hk.cut hh1.2.2.1 (by omega) (by omega) hs hroom
  rw [he] at hsv
  refine hsv.mono ?_
  rintro q w' ⟨rfl, rv', g1, g2, g3⟩
  rw [svK, if_pos rfl] at g1
  have hl1 := h1.lt
  refine ⟨d', rfl, ⟨rv', g1, .inl h2, fun g hg => ?_⟩, hkN, hlN, KChg.of g3 h2 h3⟩
  rcases g2 g hg with h | h
  · exact .inl (h3 g h)
  · exact .inr h
theorem km_add {w : World} {S : Nat → Prop} {b : Nat} {k : K} (h : KM w S b k) (hk : Kept k) (hq : k.head.seq + k.records.length ≤ LogP.maxSeq) (hl : k.drive.left = -1) (s : ByteArray) (hs : s.size ≤ 4000) (hrl : k.records.length ≤ 1000000) (hroom : LogP.sum k.records + LogP.secs s.size < k.cut.log) :
    Calls Try.prog 57 #[.pointer (some ⟨b, 0, none⟩), .string s] w fun q w' => ∃ d' l', q = .returned (.int .i64 0) ∧ KM w' (fun x => S x ∨ w.heap.size ≤ x) b { k with drive := d', records := k.records ++ [oct s], log := l' } ∧ Kept { k with drive := d', records := k.records ++ [oct s], log := l' } ∧ d'.left = -1 ∧ KChg S w w' := by
  obtain ⟨rv, h1, h2, h3⟩ := h
  have hlv := hk.log.live
  have hz := oct_length s
  have hA := add_any S b rv k s w h1 (hk.log.okL hq) hlv.dead (by rw [hk.log.quiet]; simp) (by omega) hrl
  rcases hk.add hq (oct s) with ⟨h0, _⟩ | ⟨_, h0, _⟩ | ⟨_, _, d', l', e, he, h0⟩
  · omega
  · rw [hz] at h0; exact absurd hroom h0
  · rcases h0 with ⟨rfl, hkN, hlN⟩ | ⟨_, h0, _⟩
    · rw [he] at hA
      refine hA.mono ?_
      rintro q w' ⟨rfl, rv', g1, g2, g3⟩
      rw [addK] at g1
      simp only at g1
      rw [if_pos trivial] at g1
      refine ⟨d', l', rfl, ⟨rv', g1, .inl h2, fun g hg => ?_⟩, hkN, hlN hl, KChg.of g3 h2 h3⟩
      rcases g2 g hg with h | h
      · exact .inl (h3 g h)
      · exact .inr h
    · exact absurd hl h0

end Go.Proofs.Yteoiadfcchalfaa

/-! The walk of law 21's cut and awake. -/
namespace Go.Proofs.Yteoiadfcchalfaa
open Go.RowKit
open DiskP (Bytes Disk Wr Fate noughts)
open KeepP (Cut Head K Kept okC okH pagesP saveP beginP openP)
open LogP (Log zeroL Live okL Holds)
set_option linter.unusedVariables false

set_option maxRecDepth 100000 in
theorem cut21_any (n : Nat) (w : World) (hn : n ≤ 255) : Calls Try.prog 50 #[.int .u8 n] w fun q w' => q = .returned (.agg #[.int .i64 ((cutN n).log : Nat), .int .i64 ((cutN n).pages : Nat)]) ∧ Below w.heap.size w w' := by
  unfold cutN
  obtain ⟨r, hr⟩ : ∃ r, r = n % 6 := ⟨_, rfl⟩
  obtain ⟨d, hd⟩ : ∃ d, d = n / 6 := ⟨_, rfl⟩
  obtain ⟨p, hp⟩ : ∃ p, p = d % 4 := ⟨_, rfl⟩
  have er : (n : Int).tmod 6 = (r : Int) := by rw [hr]; rfl
  have ed : (n : Int).tdiv 6 = (d : Int) := by rw [hd]; rfl
  have ep : (d : Int).tmod 4 = (p : Int) := by rw [hp]; rfl
  have hr5 : r ≤ 5 := by omega
  have hd42 : d ≤ 42 := by omega
  have hp3 : p ≤ 3 := by omega
  rw [← hr, ← hd, ← hp]
  have a1 : wrap64 (r : Int) = (r : Int) := by unfold wrap64; omega
  have a2 : wrap64 (8 + (r : Int)) = 8 + (r : Int) := by unfold wrap64; omega
  have a3 : (d : Int) % 256 = (d : Int) := by omega
  have a4 : (d : Int) % 4 = (p : Int) := by omega
  clear hr hd hp
  obtain ⟨q0, q1⟩ := (Box.new w 85 #[.int .i64 (8 + (r : Int)), .int .i64 (1 + (p : Int))]).cell2
  go_enter Try.func50, Try.ntmps50
  go_wp2_with fail
  exact bodyPost_ret (v := .agg #[.int .i64 (8 + (r : Int)), .int .i64 (1 + (p : Int))]) (by simp [results, Try.results50, go_sem, q0, q1]) rfl ⟨rfl, (Below.refl _ _).alloc (Nat.le_refl _) _⟩
theorem pages_fit {t : Bytes} {p : Nat} (h : KeepP.cells t.length + 2 < 3 * (p + 1)) : (pagesP t).length ≤ p := by
  have := KeepP.pages_few t
  omega
/-- a cut and a kept thing's disk, in a region that draws its order -/
abbrev Cut2 (ww : World) (bc : Nat) (cl cp : Int) : Prop := ww.cell? ⟨bc, 0, none⟩ = some (.int .i64 cl) ∧ ww.cell? ⟨bc, 1, none⟩ = some (.int .i64 cp)

set_option maxRecDepth 100000 in
set_option maxHeartbeats 3200000 in
theorem awake21_any (w : World) :
    Calls Try.prog 54 #[] w fun q w' => q = .returned (.bool true) ∧ Below w.heap.size w w' := by
  have HCU : Hid (∀ ww, Calls Try.prog 50 #[.int .u8 20] ww fun q w' => q = .returned (.agg #[.int .i64 10, .int .i64 4]) ∧ Below ww.heap.size ww w') := fun ww => cut21_any 20 ww (by decide)
  obtain ⟨c, hcc⟩ : ∃ c, c = cutN 20 := ⟨_, rfl⟩
  have hcl : c.log = 10 := by rw [hcc]; rfl
  have hcp : c.pages = 4 := by rw [hcc]; rfl
  have hco : okC c := by rw [hcc]; exact cutN_ok 20
  clear hcc
  have HFM : Hid (∀ ww, Calls Try.prog 52 #[.agg #[.int .i64 10, .int .i64 4], .string ⟨#[97, 98, 99]⟩] ww fun q w' => ∃ b d', q = .returned (.tuple #[.pointer (some ⟨b, 0, none⟩), .int .i64 0]) ∧ KM w' (fun x => ww.heap.size ≤ x) b (fmtK c [97, 98, 99] d') ∧ Kept (fmtK c [97, 98, 99] d') ∧ d'.left = -1 ∧ ww.heap.size ≤ b ∧ Below ww.heap.size ww w') := fun ww => by
    have := km_format c ⟨#[97, 98, 99]⟩ ww hco (by decide) (by rw [hcp]; exact pages_fit (by decide))
    rw [hcl, hcp] at this
    exact this
  have HOP : Hid (∀ (k : K) (V : Nat → Prop) A n c' B m e ww, k.cut = c → Kept k → Dk ww V A n c' B m e k.drive → Calls Try.prog 60 #[.agg #[.slice A n c', .slice B m e, .int .i64 k.drive.left, .bool k.drive.dead], .agg #[.int .i64 10, .int .i64 4]] ww fun q w' => ∃ b, q = .returned (.tuple #[.pointer (some ⟨b, 0, none⟩), .int .i64 0]) ∧ KM w' (fun x => V x ∨ ww.heap.size ≤ x) b k ∧ ww.heap.size ≤ b ∧ Below ww.heap.size ww w') := fun k V A n c' B m e ww he hk hD => by
    have := km_open hk hD
    rw [he, hcl, hcp] at this
    exact this
  have HCO := hide hco
  have HCL := hide hcl
  have HCP := hide hcp
  clear hco hcl hcp
  go_enter Try.func54, Try.ntmps54
  go_wp2_with fail
  refine (HCU.out _).mono ?_
  rintro q w1 ⟨rfl, hb1⟩
  have kC2 := Box.new w1 85 #[.int .i64 10, .int .i64 4]
  have hb2 : Below w1.heap.size w1 (w1.alloc (.cells #[.int .i64 10, .int .i64 4] 85)) := (Below.refl _ _).alloc (Nat.le_refl _) _
  have hbw2 := hb1.trans (hb2.mono hb1.size)
  obtain ⟨bc, hbc⟩ : ∃ b, b = w1.heap.size := ⟨_, rfl⟩
  obtain ⟨w2, hw2⟩ : ∃ y, y = w1.alloc (.cells #[.int .i64 10, .int .i64 4] 85) := ⟨_, rfl⟩
  rw [← hw2] at kC2 hbw2
  rw [← hbc] at kC2
  have HW2 := hide hw2
  have HBC := hide hbc
  clear hw2 hbc hb2 hb1
  go_upto_region 2 with (fail)
  rw [← HW2.out, ← HBC.out]
  clear HW2 HBC
  obtain ⟨q0, q1⟩ := kC2.cell2
  go_wp2_with fail
  refine (HFM.out _).mono ?_
  rintro q w3 ⟨b1, d1, rfl, hM3, hk3, hl3, hb13, hb3⟩
  have kC3 := kC2.belowS hb3
  have hbw3 := hbw2.trans (hb3.mono hbw2.size)
  obtain ⟨k3, hk3e⟩ : ∃ k, k = fmtK c [97, 98, 99] d1 := ⟨_, rfl⟩
  have e1 : k3.cut = c := by rw [hk3e]
  have e2 : k3.head.gen = 1 := by rw [hk3e]
  have e3 : k3.head.seq = 1 := by rw [hk3e]
  have e4 : k3.text = [97, 98, 99] := by rw [hk3e]
  have e5 : k3.records = [] := by rw [hk3e]
  have e6 : k3.drive.left = -1 := by rw [hk3e]; exact hl3
  rw [← hk3e] at hM3 hk3
  have HE3 := hide (And.intro e1 (And.intro e2 (And.intro e3 (And.intro e4 e5))))
  have HAD := hide (km_add hM3 hk3 (by rw [e3, e5]; decide) e6 ⟨#[120]⟩ (by decide) (by rw [e5]; decide) (by rw [e5, e1, HCL.out]; decide))
  have HS23 := hide hb3.size
  have HSW2 := hide hbw2.size
  have HBC2 := hide kC2.lt
  clear hk3e e1 e2 e3 e4 e5 e6 hl3 q0 q1 kC2 hbw2 hb3 hk3 hM3
  go_upto_region 5 with (fail)
  go_wp2_with fail
  refine HAD.out.mono ?_
  rintro q w4 ⟨d4, l4, rfl, hM4, hk4, hl4, hch4⟩
  have hbc2 : bc < w2.heap.size := by have := kC3.lt; have := HBC2.out; omega
  have hb4 : Below w2.heap.size w3 w4 := hch4.toBelow (fun x hx => hx) HS23.out
  have kC4 := kC3.below hb4 hbc2
  have hbw4 := hbw3.trans (hb4.mono HSW2.out)
  obtain ⟨k4, hk4e⟩ : ∃ k : K, k = { k3 with drive := d4, records := k3.records ++ [oct ⟨#[120]⟩], log := l4 } := ⟨_, rfl⟩
  obtain ⟨e1, e2, e3, e4, e5⟩ := HE3.out
  have g1 : k4.cut = c := by rw [hk4e]; exact e1
  have g2 : k4.head.gen = 1 := by rw [hk4e]; exact e2
  have g3 : k4.head.seq = 1 := by rw [hk4e]; exact e3
  have g4 : k4.text = [97, 98, 99] := by rw [hk4e]; exact e4
  have g5 : k4.records = [[120]] := by rw [hk4e]; show k3.records ++ _ = _; rw [e5]; rfl
  have g6 : k4.drive.left = -1 := by rw [hk4e]; exact hl4
  rw [← hk4e] at hM4 hk4
  have hM4' : KM w4 (fun x => w2.heap.size ≤ x ∧ x < w4.heap.size) b1 k4 := hM4.mono fun x hx hl => ⟨hx.elim (fun h => h) fun h => by have := HS23.out; omega, hl⟩
  have HM4 := hide hM4'
  have HE4 := hide (And.intro g1 (And.intro g2 (And.intro g3 (And.intro g4 (And.intro g5 g6)))))
  have HK4 := hide hk4
  have HS24 := hide (Nat.le_trans HS23.out hch4.size)
  have HDI : Hid (∀ ww, Below w4.heap.size w4 ww → Calls Try.prog 61 #[.pointer (some ⟨b1, 0, none⟩)] ww fun q w' => ∃ A n c B m e, q = .returned (.agg #[.slice A n c, .slice B m e, .int .i64 k4.drive.left, .bool k4.drive.dead]) ∧ Dk w' (fun _ => True) A n c B m e k4.drive ∧ Below ww.heap.size ww w') := fun ww hb => (km_disk (hM4'.below hb)).mono fun q w' ⟨A, n, c, B, m, e, h1, h2, h3⟩ => ⟨A, n, c, B, m, e, h1, h2.mono fun _ _ => trivial, h3⟩
  obtain ⟨d5, hd5⟩ : ∃ d5, d5 = DiskP.crash k4.drive ⟨[], -1, 0⟩ := ⟨_, rfl⟩
  have hk5 : Kept { k4 with drive := d5 } := by rw [hd5]; exact hk4.crash _
  have HCR : Hid (∀ ww A n c B m e, Dk ww (fun _ => True) A n c B m e k4.drive → Calls Try.prog 37 #[.agg #[.slice A n c, .slice B m e, .int .i64 k4.drive.left, .bool k4.drive.dead], .agg #[.slice none 0 0, .int .i64 (-1), .int .i64 0]] ww fun q w' => ∃ A n c B m e, q = .returned (.agg #[.slice A n c, .slice B m e, .int .i64 d5.left, .bool d5.dead]) ∧ Dk w' (fun x => ww.heap.size ≤ x) A n c B m e d5 ∧ Below ww.heap.size ww w') := fun ww A n c B m e hD => by
    rw [hd5]
    exact km_crash (f := ⟨[], -1, 0⟩) (V2 := fun _ => True) hD hk4.log.live.may ⟨Sl.nil, by decide⟩
  obtain ⟨k5, hk5e⟩ : ∃ k : K, k = { k4 with drive := d5 } := ⟨_, rfl⟩
  have hdr : k5.drive = d5 := by rw [hk5e]
  rw [← hk5e] at hk5
  have HOP5 : Hid (∀ (V : Nat → Prop) A n c' B m e ww, Dk ww V A n c' B m e d5 → Calls Try.prog 60 #[.agg #[.slice A n c', .slice B m e, .int .i64 d5.left, .bool d5.dead], .agg #[.int .i64 10, .int .i64 4]] ww fun q w' => ∃ b, q = .returned (.tuple #[.pointer (some ⟨b, 0, none⟩), .int .i64 0]) ∧ KM w' (fun x => V x ∨ ww.heap.size ≤ x) b k5 ∧ ww.heap.size ≤ b ∧ Below ww.heap.size ww w') := fun V A n c' B m e ww hD => by
    have := HOP.out k5 V A n c' B m e ww (by rw [hk5e]; exact g1) hk5 (by rw [hdr]; exact hD)
    rw [hdr] at this
    exact this
  have HE5 : Hid (k5.text = [97, 98, 99] ∧ k5.records = [[120]] ∧ k5.head.gen = 1) := by rw [hk5e]; exact ⟨g4, g5, g2⟩
  have HSS : Hid (∀ (ww : World), Below w4.heap.size w4 ww → ww.cell? ⟨bc, 0, none⟩ = some (.int .i64 10) ∧ ww.cell? ⟨bc, 1, none⟩ = some (.int .i64 4)) := fun ww hb => (kC4.belowS hb).cell2
  clear e1 e2 e3 e4 e5 g1 g2 g3 g4 g5 g6 hk4e hk5e hd5 hdr hk5 hk4 hM4 hM4' hl4 hch4 HE3 HAD kC3 hbw3 hb4 hb13
  go_upto_region 6 with (fail)
  have hbx : Below w4.heap.size w4 w4.drew := (Below.refl _ _).drew
  go_region_held3 (fun ww => ww.cell? ⟨bc, 0, none⟩ = some (.int .i64 10) ∧ ww.cell? ⟨bc, 1, none⟩ = some (.int .i64 4))
    (first | (with_reducible exact (HSS.out w4 (Below.refl _ _))) | (with_reducible exact (HSS.out _ hbx)))
    (first
      | ((with_reducible refine (HDI.out _ hbx).mono ?_); rintro q wn ⟨A4, n4, c4, B4, m4, x4, rfl, hD4, hbn⟩; have hbx := hbx.trans (hbn.mono hbx.size); have HD4 := hide hD4; clear hD4)
      | ((with_reducible refine (HCR.out _ _ _ _ _ _ _ HD4.out).mono ?_); rintro q wm ⟨A5, n5, c5, B5, m5, x5, rfl, hD5, hbm⟩; have hz5 := hbx.size; have hbx := hbx.trans (hbm.mono hbx.size); have HD5 := hide hD5; clear hD5)
      | ((with_reducible refine (HOP5.out _ _ _ _ _ _ _ _ HD5.out).mono ?_); rintro q wo ⟨b5, rfl, hM5, hb5l, hbo⟩; have hz6 := hbx.size; have hbx := hbx.trans (hbo.mono hbx.size)))
  have hM5' : KM wo (fun x => w4.heap.size ≤ x ∧ x < wo.heap.size) b5 k5 := hM5.mono fun x hx hl => ⟨by rcases hx with h | h <;> omega, hl⟩
  have hM4o := HM4.out.below hbx
  obtain ⟨g1, g2, g3, g4, g5, g6⟩ := HE4.out
  have hz24 : w2.heap.size ≤ w4.heap.size := by have := HM4.out.lt; have := HS24.out; omega
  have hlog : k4.log.seq = 2 := by rw [HK4.out.log.log]; show k4.head.seq + k4.records.length = 2; rw [g3, g5]; rfl
  have hroom : svRoom k4 (oct ⟨#[100]⟩) := ⟨by rw [g1, HCP.out]; exact pages_fit (by decide), by rw [g2]; decide, by rw [hlog]; decide⟩
  have HSVE := hide (km_save hM4o HK4.out g6 ⟨#[100]⟩ (by decide) hroom)
  have kC6 := kC4.belowS hbx
  have hbw6 := hbw4.trans (hbx.mono hbw4.size)
  have HM5 := hide hM5'
  have HZ := hide (Nat.le_trans hz24 hbx.size)
  clear hM5 hM5' hM4o hroom hlog g1 g2 g3 g4 g5 g6 hbx hz5 hz6 hbo hbn hbm HD4 HD5 HDI HCR HOP5 HSS kC4 hbw4 hb5l hz24
  go_upto_region 9 with (fail)
  go_wp2_with fail
  refine HSVE.out.mono ?_
  rintro q w7 ⟨d7, rfl, hM7, hk7, hl7, hch7⟩
  have hb7 : Below w2.heap.size wo w7 := hch7.toBelow (fun x hx => hx.1) HZ.out
  have hM57 := HM5.out.other hch7 fun x h1 h2 => by omega
  have kC7 := kC6.below hb7 hbc2
  have hbw7 := hbw6.trans (hb7.mono HSW2.out)
  obtain ⟨g1, g2, g3, g4, g5, g6⟩ := HE4.out
  obtain ⟨k7, hk7e⟩ : ∃ k : K, k = svN k4 (oct ⟨#[100]⟩) d7 := ⟨_, rfl⟩
  have e1 : k7.cut = c := by rw [hk7e]; exact g1
  have e2 : k7.head.gen = 2 := by rw [hk7e]; show k4.head.gen + 1 = 2; omega
  have e3 : k7.text = [100] := by rw [hk7e]
  have e4 : k7.records = [] := by rw [hk7e]
  rw [← hk7e] at hM7 hk7
  have HE7 := hide (And.intro e2 (And.intro e3 e4))
  have HM57 := hide hM57
  have HDI : Hid (∀ ww, Below w7.heap.size w7 ww → Calls Try.prog 61 #[.pointer (some ⟨b1, 0, none⟩)] ww fun q w' => ∃ A n c B m e, q = .returned (.agg #[.slice A n c, .slice B m e, .int .i64 k7.drive.left, .bool k7.drive.dead]) ∧ Dk w' (fun _ => True) A n c B m e k7.drive ∧ Below ww.heap.size ww w') := fun ww hb => (km_disk (hM7.below hb)).mono fun q w' ⟨A, n, c, B, m, e, h1, h2, h3⟩ => ⟨A, n, c, B, m, e, h1, h2.mono fun _ _ => trivial, h3⟩
  have HOP7 : Hid (∀ (V : Nat → Prop) A n c' B m e ww, Dk ww V A n c' B m e k7.drive → Calls Try.prog 60 #[.agg #[.slice A n c', .slice B m e, .int .i64 k7.drive.left, .bool k7.drive.dead], .agg #[.int .i64 10, .int .i64 4]] ww fun q w' => ∃ b, q = .returned (.tuple #[.pointer (some ⟨b, 0, none⟩), .int .i64 0]) ∧ KM w' (fun x => V x ∨ ww.heap.size ≤ x) b k7 ∧ ww.heap.size ≤ b ∧ Below ww.heap.size ww w') := fun V A n c' B m e ww hD => HOP.out k7 V A n c' B m e ww e1 hk7 hD
  have HSS : Hid (∀ (ww : World), Below w7.heap.size w7 ww → ww.cell? ⟨bc, 0, none⟩ = some (.int .i64 10) ∧ ww.cell? ⟨bc, 1, none⟩ = some (.int .i64 4)) := fun ww hb => (kC7.belowS hb).cell2
  clear e1 e2 e3 e4 hk7e hM7 hk7 hl7 hch7 hM57 hb7 kC6 hbw6 HSVE HM5 g1 g2 g3 g4 g5 g6
  go_upto_region 10 with (fail)
  have hbx : Below w7.heap.size w7 w7.drew := (Below.refl _ _).drew
  go_region_held3 (fun ww => ww.cell? ⟨bc, 0, none⟩ = some (.int .i64 10) ∧ ww.cell? ⟨bc, 1, none⟩ = some (.int .i64 4))
    (first | (with_reducible exact (HSS.out w7 (Below.refl _ _))) | (with_reducible exact (HSS.out _ hbx)))
    (first
      | ((with_reducible refine (HDI.out _ hbx).mono ?_); rintro q wn ⟨A8, n8, c8, B8, m8, x8, rfl, hD8, hbn⟩; have hbx := hbx.trans (hbn.mono hbx.size); have HD8 := hide hD8; clear hD8)
      | ((with_reducible refine (HOP7.out _ _ _ _ _ _ _ _ HD8.out).mono ?_); rintro q wz ⟨b8, rfl, hM8, hb8l, hbo⟩; have hbx := hbx.trans (hbo.mono hbx.size)))
  have kC9 := kC7.belowS hbx
  have hbw9 := hbw7.trans (hbx.mono hbw7.size)
  have hM59 := HM57.out.below hbx
  obtain ⟨t1, t2, t3⟩ := HE5.out
  obtain ⟨t4, t5, t6⟩ := HE7.out
  have HT5 : Hid (∀ ww, Below wz.heap.size wz ww → Calls Try.prog 55 #[.pointer (some ⟨b5, 0, none⟩)] ww fun q w' => q = .returned (.string ⟨#[97, 98, 99]⟩) ∧ Below ww.heap.size ww w') := fun ww hb => (km_text (hM59.below hb)).mono fun q w' ⟨h1, h2⟩ => ⟨by rw [h1, t1]; rfl, by rw [← h2]; exact Below.refl _ _⟩
  have HT8 : Hid (∀ ww, Below wz.heap.size wz ww → Calls Try.prog 55 #[.pointer (some ⟨b8, 0, none⟩)] ww fun q w' => q = .returned (.string ⟨#[100]⟩) ∧ Below ww.heap.size ww w') := fun ww hb => (km_text (hM8.below hb)).mono fun q w' ⟨h1, h2⟩ => ⟨by rw [h1, t5]; rfl, by rw [← h2]; exact Below.refl _ _⟩
  have HG5 : Hid (∀ ww, Below wz.heap.size wz ww → Calls Try.prog 62 #[.pointer (some ⟨b5, 0, none⟩)] ww fun q w' => q = .returned (.int .i64 1) ∧ Below ww.heap.size ww w') := fun ww hb => (km_gen (hM59.below hb)).mono fun q w' ⟨h1, h2⟩ => ⟨by rw [h1, t3]; rfl, by rw [← h2]; exact Below.refl _ _⟩
  have HG8 : Hid (∀ ww, Below wz.heap.size wz ww → Calls Try.prog 62 #[.pointer (some ⟨b8, 0, none⟩)] ww fun q w' => q = .returned (.int .i64 2) ∧ Below ww.heap.size ww w') := fun ww hb => (km_gen (hM8.below hb)).mono fun q w' ⟨h1, h2⟩ => ⟨by rw [h1, t4]; rfl, by rw [← h2]; exact Below.refl _ _⟩
  have HR5 : Hid (∀ ww, Below wz.heap.size wz ww → Calls Try.prog 59 #[.pointer (some ⟨b5, 0, none⟩)] ww fun q w' => ∃ X xc, q = .returned (.slice X 1 xc) ∧ Sl w' (fun _ => True) 1 X 1 (strs [mkB [120]]) ∧ Below ww.heap.size ww w') := fun ww hb => (km_records (hM59.below hb) (by rw [t2]; decide)).mono fun q w' ⟨v, h1, h2, h3⟩ => by
    rw [t2] at h2
    obtain ⟨X, xc, rfl⟩ := own_shape h2
    exact ⟨X, xc, h1, (Sl.of_own h2).mono fun _ _ => trivial, h3⟩
  have HR8 : Hid (∀ ww, Below wz.heap.size wz ww → Calls Try.prog 59 #[.pointer (some ⟨b8, 0, none⟩)] ww fun q w' => ∃ X xc, q = .returned (.slice X 0 xc) ∧ Below ww.heap.size ww w') := fun ww hb => (km_records (hM8.below hb) (by rw [t6]; decide)).mono fun q w' ⟨v, h1, h2, h3⟩ => by
    rw [t6] at h2
    obtain ⟨X, xc, rfl⟩ := own_shape h2
    exact ⟨X, xc, h1, h3⟩
  have HSM : Hid (∀ (ww : World) X xc, Sl ww (fun _ => True) 1 X 1 (strs [mkB [120]]) → Calls Try.prog 21 #[.slice X 1 xc, .slice (some ⟨ww.heap.size, 0, none⟩) 1 1] (ww.alloc (.cells #[.string ⟨#[120]⟩] 9)) fun q w' => q = .returned (.bool true) ∧ Below ww.heap.size ww w') := fun ww X xc hX => by
    have hX2 := hX.below ((Below.refl _ _).alloc (Nat.le_refl _) (.cells #[.string ⟨#[120]⟩] 9))
    refine (same_any X (some ⟨ww.heap.size, 0, none⟩) 1 1 xc 1 [mkB [120]] [⟨#[120]⟩] _ _ _ hX2 (sl_lit ww _ _ rfl (by decide)) (by omega)).mono ?_
    rintro e w5 ⟨rfl, q, rfl⟩
    rw [show decide (octs [mkB [120]] = octs [(⟨#[120]⟩ : ByteArray)]) = true from by decide]
    exact ⟨rfl, below_drewN ((Below.refl ww.heap.size ww).alloc (Nat.le_refl _) (.cells #[.string ⟨#[120]⟩] 9)) q⟩
  have HSM2 : Hid (∀ (ww : World) X xc B, Sl ww (fun _ => True) 1 X 1 (strs [mkB [120]]) → Sl ww (fun _ => True) 1 B 1 (strs [⟨#[120]⟩]) → Calls Try.prog 21 #[.slice X 1 xc, .slice B 1 1] ww fun q w' => q = .returned (.bool true) ∧ Below ww.heap.size ww w') := fun ww X xc B hX hB => by
    refine (same_any X B 1 1 xc 1 [mkB [120]] [⟨#[120]⟩] _ _ _ hX hB (by omega)).mono ?_
    rintro e w5 ⟨rfl, q, rfl⟩
    rw [show decide (octs [mkB [120]] = octs [(⟨#[120]⟩ : ByteArray)]) = true from by decide]
    exact ⟨rfl, below_drewN (Below.refl ww.heap.size ww) q⟩
  have HR52 : Hid (∀ wx, Below wz.heap.size wz wx → Calls Try.prog 59 #[.pointer (some ⟨b5, 0, none⟩)] (wx.alloc (.cells #[.string ⟨#[120]⟩] 9)) fun q w' => ∃ X xc, q = .returned (.slice X 1 xc) ∧ Sl w' (fun _ => True) 1 X 1 (strs [mkB [120]]) ∧ Sl w' (fun _ => True) 1 (some ⟨wx.heap.size, 0, none⟩) 1 (strs [⟨#[120]⟩]) ∧ Below wx.heap.size wx w') := fun wx hb => by
    have hba : Below wx.heap.size wx (wx.alloc (.cells #[.string ⟨#[120]⟩] 9)) := (Below.refl _ _).alloc (Nat.le_refl _) _
    refine (HR5.out _ (hb.trans (hba.mono hb.size))).mono ?_
    rintro q w' ⟨X, xc, h1, h2, h3⟩
    exact ⟨X, xc, h1, h2, ((sl_lit wx _ _ rfl (by decide)).mono fun _ _ => trivial).below h3, hba.trans (h3.mono hba.size)⟩
  have HSZ : Hid (∀ ww, Calls Try.prog 63 #[.agg #[.int .i64 10, .int .i64 4]] ww fun q w' => q = .returned (.int .i64 86) ∧ Below ww.heap.size ww w') := fun ww => by
    have := size_any 10 4 ww
    rw [show sizeI 10 4 = 86 by decide] at this
    exact this
  have HSS : Hid (∀ (ww : World), Below wz.heap.size wz ww → ww.cell? ⟨bc, 0, none⟩ = some (.int .i64 10) ∧ ww.cell? ⟨bc, 1, none⟩ = some (.int .i64 4)) := fun ww hb => (kC9.belowS hb).cell2
  have HBW9 := hide hbw9
  have u1 : IntKind.i64.wrap 20 = 20 := by decide
  have u2 : IntKind.i64.wrap (2 + 20) = 22 := by decide
  have u3 : IntKind.i64.wrap 22 = 22 := by decide
  have u4 : IntKind.i64.wrap 64 = 64 := by decide
  have u5 : IntKind.i64.wrap (22 + 64) = 86 := by decide
  have u6 : IntKind.i64.wrap 86 = 86 := by decide
  clear t1 t2 t3 t4 t5 t6 hM59 hM8 hb8l hbo hbn HD8 HDI HOP7 hbx kC9 hbw9 kC7 hbw7 HM57
  go_upto_region 13 with (fail)
  have hbx : Below wz.heap.size wz wz.drew := (Below.refl _ _).drew
  go_region_held3 (fun ww => ww.cell? ⟨bc, 0, none⟩ = some (.int .i64 10) ∧ ww.cell? ⟨bc, 1, none⟩ = some (.int .i64 4))
    (first | (with_reducible exact (HSS.out wz (Below.refl _ _))) | (with_reducible exact (HSS.out _ hbx)) | (with_reducible exact (HSS.out _ (hbx.alloc hbx.size _))))
    (first
      | ((first | (with_reducible refine (HT5.out _ hbx).mono ?_) | (with_reducible refine (HT8.out _ hbx).mono ?_) | (with_reducible refine (HG5.out _ hbx).mono ?_) | (with_reducible refine (HG8.out _ hbx).mono ?_) | (with_reducible refine (HSZ.out _).mono ?_)); rintro q wn ⟨rfl, hbn⟩; have hbx := hbx.trans (hbn.mono hbx.size))
      | ((with_reducible refine (HR5.out _ hbx).mono ?_); rintro q wn ⟨X5, xc5, rfl, hX5, hbn⟩; have hbx := hbx.trans (hbn.mono hbx.size); have HX5 := hide hX5; clear hX5)
      | ((with_reducible refine (HR8.out _ hbx).mono ?_); rintro q wn ⟨X8, xc8, rfl, hbn⟩; have hbx := hbx.trans (hbn.mono hbx.size))
      | ((with_reducible refine (HR52.out _ hbx).mono ?_); rintro q wn ⟨X5, xc5, rfl, hX5, hY5, hbn⟩; have hbx := hbx.trans (hbn.mono hbx.size); have HX5 := hide hX5; have HY5 := hide hY5; clear hX5 hY5)
      | ((with_reducible refine (HSM.out _ _ _ HX5.out).mono ?_); rintro q wn ⟨rfl, hbn⟩; have hbx := hbx.trans (hbn.mono hbx.size))
      | ((with_reducible refine (HSM2.out _ _ _ _ HX5.out HY5.out).mono ?_); rintro q wn ⟨rfl, hbn⟩; have hbx := hbx.trans (hbn.mono hbx.size)))
  all_goals
    have hbw := HBW9.out.trans (hbx.mono HBW9.out.size)
    clear hbx hbn
    go_wp2_with fail
    go_ret
    exact ⟨rfl, hbw⟩
end Go.Proofs.Yteoiadfcchalfaa
