/- The walk of layer 21's Save. (printed by gensv.py) -/
import Derived.Test.YteoiadfcchalfaaKeepN
import Derived.Test.YteoiadfcchalfaaKeepJ
namespace Go.Proofs.Yteoiadfcchalfaa
open Go.RowKit
open DiskP (Bytes Disk Wr Fate noughts)
open KeepP (Cut Head K Kept okC okH pagesP saveP beginP)
open LogP (Log zeroL Live okL Holds)
set_option linter.unusedVariables false

set_option maxRecDepth 100000 in
theorem ksave_dead (V : Nat → Prop) (b : Nat) (rv : Value) (k : K) (s : ByteArray) (w : World) (h : KeepAt w V b rv k) (hdead : k.drive.dead = true) :
    Calls Try.prog 56 #[.pointer (some ⟨b, 0, none⟩), .string s] w fun q w' => q = .returned (.int .i64 14) ∧ w = w' := by
  obtain ⟨A, n, c, B, m, e, hB, _, _, _⟩ := h
  have hlt := hB.lt
  unfold kcells at hB
  rw [hdead] at hB
  obtain ⟨_, ⟨h2, h3, h4, h5⟩, _, _, _⟩ := hB.cell16
  clear hB hdead
  go_enter Try.func56, Try.ntmps56
  go_wp2_with fail
  go_ret
  exact ⟨rfl, rfl⟩

/-- the head of a save -/
abbrev svH (k : K) (t : Bytes) : Head := ⟨k.head.gen + 1, 1 - k.head.half, k.log.seq, (pagesP t).length⟩
/-- what Save leaves -/
def svK (k : K) (t : Bytes) (R : Disk × Nat) : K := if R.2 = 0 then ⟨k.cut, R.1, svH k t, t, [], beginP k.cut (svH k t)⟩ else { k with drive := R.1 }
/-- there is room for what is saved -/
def svRoom (k : K) (t : Bytes) : Prop := (pagesP t).length ≤ k.cut.pages ∧ k.head.gen + 1 ≤ LogP.maxSeq ∧ k.log.seq ≤ LogP.maxSeq

theorem Box.set10 {w : World} {b : Nat} {T : TypeId} {v0 v1 v2 v3 v4 v5 v6 v7 v8 v9 v10 v11 v12 v13 v14 v15 u6 u7 u8 u9 u10 u11 u12 u13 u14 u15 : Value} (h : Box w b T #[v0, v1, v2, v3, v4, v5, v6, v7, v8, v9, v10, v11, v12, v13, v14, v15]) : Box ((((((((((w.setCell ⟨b, 6, none⟩ u6).setCell ⟨b, 7, none⟩ u7).setCell ⟨b, 8, none⟩ u8).setCell ⟨b, 9, none⟩ u9).setCell ⟨b, 10, none⟩ u10).setCell ⟨b, 11, none⟩ u11).setCell ⟨b, 12, none⟩ u12).setCell ⟨b, 13, none⟩ u13).setCell ⟨b, 14, none⟩ u14).setCell ⟨b, 15, none⟩ u15) b T #[v0, v1, v2, v3, v4, v5, u6, u7, u8, u9, u10, u11, u12, u13, u14, u15] := by
  have h2 := ((((((((((h.set 6 u6).set 7 u7).set 8 u8).set 9 u9).set 10 u10).set 11 u11).set 12 u12).set 13 u13).set 14 u14).set 15 u15)
  simp only [List.setIfInBounds_toArray, List.set_cons_zero, List.set_cons_succ] at h2
  exact h2
/-- the world as a save leaves it -/
abbrev svEnd (w : World) (b g1 f1 sq np : Nat) (s : ByteArray) (lg : Log) : World :=
  (((((((((w.setCell ⟨b, 6, none⟩ (.int .i64 (g1 : Nat))).setCell ⟨b, 7, none⟩ (.int .i64 (f1 : Nat))).setCell ⟨b, 8, none⟩ (.int .i64 (sq : Nat))).setCell ⟨b, 9, none⟩ (.int .i64 (np : Nat))).setCell ⟨b, 10, none⟩ (.string s)).setCell ⟨b, 11, none⟩ (.slice none 0 0)).setCell ⟨b, 12, none⟩ (.int .i64 (lg.frm : Nat))).setCell ⟨b, 13, none⟩ (.int .i64 (lg.len : Nat))).setCell ⟨b, 14, none⟩ (.int .i64 (lg.at_ : Nat))).setCell ⟨b, 15, none⟩ (.int .i64 (lg.seq : Nat))
theorem sv_done {w : World} {V : Nat → Prop} {b n c m e : Nat} {A B : Option Addr} {rv : Value} {k : K} {t : Bytes} {R : Disk × Nat} {s : ByteArray} {cl cp g1 f1 sq np : Nat} {lf : Int} {dd : Bool} {x6 x7 x8 x9 x10 x11 x12 x13 x14 x15 : Value} {lg : Log}
    (hB : Box w b 134 #[.int .i64 (cl : Nat), .int .i64 (cp : Nat), .slice A n c, .slice B m e, .int .i64 lf, .bool dd, x6, x7, x8, x9, x10, x11, x12, x13, x14, x15]) (hD : Dk w (fun x => V x ∧ x ≠ b ∧ rv.ownBlock ≠ some x) A n c B m e R.1) (h0 : R.2 = 0)
    (h1 : cl = k.cut.log) (h2 : cp = k.cut.pages) (h3 : lf = R.1.left) (h4 : dd = R.1.dead) (h5 : g1 = k.head.gen + 1) (h6 : f1 = 1 - k.head.half) (h7 : sq = k.log.seq) (h8 : np = (pagesP t).length) (h9 : lg = beginP k.cut (svH k t)) (h10 : s = mkB t) : KeepAt (svEnd w b g1 f1 sq np s lg) V b (.slice none 0 0) (svK k t R) := by
  rw [svK, if_pos h0]
  subst h1 h2 h3 h4 h5 h6 h7 h8 h9 h10
  refine ⟨A, n, c, B, m, e, ?_, ?_, ⟨rfl, .inl ⟨rfl, rfl⟩⟩, by simp [Value.ownBlock]⟩
  · exact Box.set10 hB
  · have hD1 : Dk w (fun x => V x ∧ x ≠ b ∧ (Value.slice none 0 0).ownBlock ≠ some x) A n c B m e R.1 := hD.mono fun x hx => ⟨hx.1, hx.2.1, by simp [Value.ownBlock]⟩
    exact (((((((((hD1.set1 (fun x hx => hx.2.1) 6 _).set1 (fun x hx => hx.2.1) 7 _).set1 (fun x hx => hx.2.1) 8 _).set1 (fun x hx => hx.2.1) 9 _).set1 (fun x hx => hx.2.1) 10 _).set1 (fun x hx => hx.2.1) 11 _).set1 (fun x hx => hx.2.1) 12 _).set1 (fun x hx => hx.2.1) 13 _).set1 (fun x hx => hx.2.1) 14 _).set1 (fun x hx => hx.2.1) 15 _
theorem chg_end {w w' : World} {b : Nat} {rv : Value} {g1 f1 sq np : Nat} {s : ByteArray} {lg : Log} (h : Chg b rv w w') : Chg b rv w (svEnd w' b g1 f1 sq np s lg) :=
  (((((((((h.set 6 _).set 7 _).set 8 _).set 9 _).set 10 _).set 11 _).set 12 _).set 13 _).set 14 _).set 15 _

set_option maxRecDepth 100000 in
set_option maxHeartbeats 6400000 in
theorem ksave_any (V : Nat → Prop) (b : Nat) (rv : Value) (k : K) (s : ByteArray) (w : World) (h : KeepAt w V b rv k) (hm : DiskP.may k.drive = true) (hdead : k.drive.dead = false) (hmm : k.drive.W.length ≤ 800000000) (hc : okC k.cut) (hh : k.head.half ≤ 1) (hg : k.head.gen ≤ 4611686018427387903) (hq : k.log.seq ≤ 9000000000000000000) (hs : s.size ≤ 100000) (hroom : svRoom k (oct s)) :
    Calls Try.prog 56 #[.pointer (some ⟨b, 0, none⟩), .string s] w fun q w' => q = .returned (.int .i64 ((saveP k.drive k.cut (svH k (oct s)) (pagesP (oct s))).2 : Nat)) ∧
      ∃ rv', KeepAt w' (fun x => V x ∨ w.heap.size ≤ x) b rv' (svK k (oct s) (saveP k.drive k.cut (svH k (oct s)) (pagesP (oct s)))) ∧ RowOn w rv rv' ∧ Chg b rv w w' := by
  have hpg := fun w1 => pages_any s w1 (by omega)
  obtain ⟨r1, r2, r3⟩ := hroom
  have hbgA := fun w1 => begin_any k.cut (svH k (oct s)) w1 hc (by show 1 - k.head.half ≤ 1; omega)
  have hsvA := fun (V' : Nat → Prop) A n c B m e Al al ww (hD : Dk ww V' A n c B m e k.drive) (ho : ww.ownsRow 0 9 1 (.slice Al (pagesP (oct s)).length al) (pagesP (oct s)).length (secV (pagesP (oct s)))) =>
    save_any A n c B m e k.drive V' k.cut (svH k (oct s)) Al _ al (pagesP (oct s)) _ ww hD hm (by rw [← hD.wlen]; exact hmm) hc (by show k.head.gen + 1 ≤ _; omega) (by show 1 - k.head.half ≤ 1; omega) (by show k.log.seq ≤ _; omega) (by show (pagesP (oct s)).length ≤ _; have := hc.2.2.2; omega) (Sl.of_own ho)
      (by
        rcases Nat.eq_zero_or_pos (pagesP (oct s)).length with h0 | h0
        · exact .inl h0
        · obtain ⟨g, cap, hv, _⟩ := own_form ho h0
          injection hv with hv _ _
          exact .inr ⟨g, 0, hv⟩) (own_cap ho) (by rw [KeepP.pages_len]; have := hc.2.2.2; omega) (by have := hc.2.2.2; omega)
  obtain ⟨RR, hRR⟩ : ∃ RR, RR = saveP k.drive k.cut (svH k (oct s)) (pagesP (oct s)) := ⟨_, rfl⟩
  rw [← hRR] at hsvA ⊢
  obtain ⟨t, ht⟩ : ∃ t, t = oct s := ⟨_, rfl⟩
  rw [← ht] at hpg r1 hbgA hsvA ⊢
  obtain ⟨np, hnp⟩ : ∃ np, np = (pagesP t).length := ⟨_, rfl⟩
  have hnp' : (svH k t) = ⟨k.head.gen + 1, 1 - k.head.half, k.log.seq, np⟩ := by rw [hnp]
  rw [hnp'] at hbgA hsvA
  rw [← hnp] at hpg r1 hsvA
  obtain ⟨lg, hlg⟩ : ∃ lg, lg = beginP k.cut (svH k t) := ⟨_, rfl⟩
  rw [← hnp', ← hlg, hnp'] at hbgA
  obtain ⟨A, n, c, B, m, e, hB, hD, ho, hne⟩ := h
  obtain ⟨cl, hcl⟩ : ∃ x, x = k.cut.log := ⟨_, rfl⟩
  obtain ⟨cp, hcp⟩ : ∃ x, x = k.cut.pages := ⟨_, rfl⟩
  obtain ⟨gg, hgg⟩ : ∃ x, x = k.head.gen := ⟨_, rfl⟩
  obtain ⟨gf, hgf⟩ : ∃ x, x = k.head.half := ⟨_, rfl⟩
  obtain ⟨sq, hsq⟩ : ∃ x, x = k.log.seq := ⟨_, rfl⟩
  obtain ⟨lf, hlf⟩ : ∃ x, x = k.drive.left := ⟨_, rfl⟩
  obtain ⟨g1, hg1⟩ : ∃ x, x = gg + 1 := ⟨_, rfl⟩
  obtain ⟨f1, hf1⟩ : ∃ x, x = 1 - gf := ⟨_, rfl⟩
  have hB0 := hB
  unfold kcells at hB0
  rw [← hcl, ← hcp, ← hgg, ← hgf, ← hsq, ← hlf, hdead] at hB0
  obtain ⟨Ar, cr, hrv⟩ := own_shape ho
  obtain ⟨nr, hnr⟩ : ∃ nr, nr = k.records.length := ⟨_, rfl⟩
  rw [← hnr] at hrv
  rw [hrv] at hB hB0 ho hne hD ⊢
  have hltr := ho.lt
  have x1 : decide ((np : Int) > (cp : Int)) = false := by simp; omega
  have x1' : decide (cp < np) = false := by simp; omega
  have x2 : decide (g1 > 4611686018427387903) = false := by simp; unfold LogP.maxSeq at r2; omega
  have x3 : decide (sq > 4611686018427387903) = false := by simp; unfold LogP.maxSeq at r3; omega
  have x2' : decide (4611686018427387903 < g1) = false := x2
  have y2 : ¬ (4611686018427387903 : Int) < (g1 : Int) := by unfold LogP.maxSeq at r2; omega
  have y3 : ¬ (4611686018427387903 : Int) < (sq : Int) := by unfold LogP.maxSeq at r3; omega
  have z2 : decide ((4611686018427387903 : Int) < (g1 : Int)) = false := by simpa using y2
  have z3 : decide ((4611686018427387903 : Int) < (sq : Int)) = false := by simpa using y3
  have x3' : decide (4611686018427387903 < sq) = false := x3
  have ee1 : ((gg : Int) + 1) = (g1 : Int) := by omega
  have ee2 : (1 - (gf : Int)) = (f1 : Int) := by omega
  have w1' : IntKind.i64.wrap (g1 : Int) = (g1 : Int) := IntWalk.i64_in _ (by unfold LogP.maxSeq at r2; omega)
  have w2' : IntKind.i64.wrap (f1 : Int) = (f1 : Int) := IntWalk.i64_in _ (by omega)
  have HDK := hide hD
  have HO := hide ho
  have HB := hide hB
  have HNE := hide hne
  have HPG := hide hpg
  have HBG : Hid (∀ w1, Calls Try.prog 87 #[.agg #[.int .i64 (cl : Nat), .int .i64 (cp : Nat)], .agg #[.int .i64 (g1 : Nat), .int .i64 (f1 : Nat), .int .i64 (sq : Nat), .int .i64 (np : Nat)]] w1 fun q w' => q = .returned (.agg #[.int .i64 (lg.frm : Nat), .int .i64 (lg.len : Nat), .int .i64 (lg.at_ : Nat), .int .i64 (lg.seq : Nat)]) ∧ Below w1.heap.size w1 w') := by
    intro w1
    have := hbgA w1
    unfold ctv hdv lgv at this
    simp only at this
    rw [← hcl, ← hcp, ← hgg, ← hgf, ← hsq, ← hg1, ← hf1] at this
    exact this
  have HSV : Hid (∀ V' Al al ww, Dk ww V' A n c B m e k.drive → ww.ownsRow 0 9 1 (.slice Al np al) np (secV (pagesP t)) → Calls Try.prog 86 #[.agg #[.slice A n c, .slice B m e, .int .i64 lf, .bool false], .agg #[.int .i64 (cl : Nat), .int .i64 (cp : Nat)], .agg #[.int .i64 (g1 : Nat), .int .i64 (f1 : Nat), .int .i64 (sq : Nat), .int .i64 (np : Nat)], .slice Al np al] ww fun q w' => ∃ v, q = .returned (.tuple #[v, .int .i64 (RR.2 : Nat)]) ∧ DkV w' (fun x => V' x ∨ ww.heap.size ≤ x) v RR.1 ∧ Below ww.heap.size ww w') := by
    intro V' Al al ww h1 h2
    have := hsvA V' A n c B m e Al al ww h1 h2
    unfold dkv ctv hdv at this
    simp only at this
    rw [hdead, ← hlf, ← hcl, ← hcp, ← hgg, ← hgf, ← hsq, ← hg1, ← hf1] at this
    exact this
  have HRR := hide hRR
  have HT := hide ht
  have HNP := hide hnp
  have HNP' := hide hnp'
  have HLG := hide hlg
  have HLR := hide hltr
  have HGF := hide (And.intro hg1 hf1)
  have HXX := hide (And.intro hcl (And.intro hcp (And.intro hgg (And.intro hgf (And.intro hsq hlf)))))
  obtain ⟨⟨h0, h1⟩, ⟨h2, h3, h4, h5⟩, ⟨h6, h7, _, _⟩, ⟨_, _⟩, _, _, _, h15⟩ := hB0.cell16
  have hlt := hB.lt
  clear hpg hbgA hsvA hRR ht hnp hnp' hlg hB hD ho hne hltr hcl hcp hgg hgf hsq hlf hc hm hmm hdead hh hg hq hs r1 r2 r3 hrv hnr hg1 hf1
  go_enter Try.func56, Try.ntmps56
  go_wp2_with fail
  refine (HPG.out _).mono ?_
  rintro q w2 ⟨v, rfl, ho2, hb2⟩
  obtain ⟨Al, al, rfl⟩ := own_shape ho2
  have kB2 := hB0.belowS hb2
  clear h0 h1 h2 h3 h4 h5 h6 h7 h15
  have hHO2 := hide ho2
  have HB2 := hide hb2
  have hb20 := hb2
  clear ho2 hb2 HPG
  go_upto_region 4 with (fail)
  refine wp_region_noPanic ?_
  refine RegS.region (ds := [17, 18, 19, 20, 21, 22, 23, 24, 25, 26, 27, 28, 29, 30, 31, 32, 33, 34, 35, 36, 37, 38, 39, 6]) (pure := []) (fresh := [23])
    (G := Gs [.is (.pointer (some ⟨b, 0, none⟩)), .is (.pointer (some ⟨b, 0, none⟩)), .is (.pointer (some ⟨b, 0, none⟩)), .is (.pointer (some ⟨b, 6, none⟩)), .is (.pointer (some ⟨b, 6, none⟩)), .is (.int .i64 (gg : Nat)), .is (.int .i64 (g1 : Nat)), .is (.pointer (some ⟨b, 0, none⟩)), .is (.pointer (some ⟨b, 0, none⟩)), .is (.pointer (some ⟨b, 0, none⟩)), .is (.pointer (some ⟨b, 6, none⟩)), .is (.pointer (some ⟨b, 7, none⟩)), .is (.int .i64 (gf : Nat)), .is (.int .i64 (f1 : Nat)), .is (.pointer (some ⟨b, 0, none⟩)), .is (.pointer (some ⟨b, 0, none⟩)), .is (.pointer (some ⟨b, 0, none⟩)), .is (.pointer (some ⟨b, 12, none⟩)), .is (.pointer (some ⟨b, 15, none⟩)), .is (.int .i64 (sq : Nat)), .is (.slice Al np al), .is (.int .i64 (np : Nat)), .is (.agg #[.int .i64 (g1 : Nat), .int .i64 (f1 : Nat), .int .i64 (sq : Nat), .int .i64 (np : Nat)]), .box w2.heap.size 128 #[.int .i64 0, .int .i64 0, .int .i64 0, .int .i64 0]])
    rfl (by kernel_rfl) (by kernel_rfl) ⟨by kernel_rfl, by kernel_rfl, fun i _ v w w' => gs_keep _ i v w w', ?quiet, ?step⟩ (fun _ _ _ _ _ h => h) ?tail
  case quiet =>
    intro i o hi hp ho u ww hd
    simp at hp
  case step =>
    intro i o hi hp ho u ww hb hd K hK
    obtain rfl | rfl | rfl | rfl | rfl | rfl | rfl | rfl | rfl | rfl | rfl | rfl | rfl | rfl | rfl | rfl | rfl | rfl | rfl | rfl | rfl | rfl | rfl | rfl : i = 0 ∨ i = 1 ∨ i = 2 ∨ i = 3 ∨ i = 4 ∨ i = 5 ∨ i = 6 ∨ i = 7 ∨ i = 8 ∨ i = 9 ∨ i = 10 ∨ i = 11 ∨ i = 12 ∨ i = 13 ∨ i = 14 ∨ i = 15 ∨ i = 16 ∨ i = 17 ∨ i = 18 ∨ i = 19 ∨ i = 20 ∨ i = 21 ∨ i = 22 ∨ i = 23 := by simp at hp hi; omega
    · simp only [List.getElem?_toArray, List.getElem?_cons_zero, Option.some.injEq] at ho
      subst ho
      simp only [RegS.putAll, List.length_cons, List.length_nil, Nat.reduceAdd, List.getD_cons_zero, List.getD_cons_succ, Act.put, List.setIfInBounds_toArray, List.set_cons_zero, List.set_cons_succ]
      go_simp
      exact hK _ _ rfl (Below.refl _ _) rfl (fun h => absurd h (by decide))
    · simp only [List.getElem?_toArray, List.getElem?_cons_succ, List.getElem?_cons_zero, Option.some.injEq] at ho
      subst ho
      simp only [RegS.putAll, List.length_cons, List.length_nil, Nat.reduceAdd, List.getD_cons_zero, List.getD_cons_succ, Act.put, List.setIfInBounds_toArray, List.set_cons_zero, List.set_cons_succ]
      have e0 : u 0 = .pointer (some ⟨b, 0, none⟩) := hd 0 (by decide) (by rfl)
      go_simp
      exact hK _ _ rfl (Below.refl _ _) rfl (fun h => absurd h (by decide))
    · simp only [List.getElem?_toArray, List.getElem?_cons_succ, List.getElem?_cons_zero, Option.some.injEq] at ho
      subst ho
      simp only [RegS.putAll, List.length_cons, List.length_nil, Nat.reduceAdd, List.getD_cons_zero, List.getD_cons_succ, Act.put, List.setIfInBounds_toArray, List.set_cons_zero, List.set_cons_succ]
      have e1 : u 1 = .pointer (some ⟨b, 0, none⟩) := hd 1 (by decide) (by rfl)
      go_simp
      exact hK _ _ rfl (Below.refl _ _) rfl (fun h => absurd h (by decide))
    · simp only [List.getElem?_toArray, List.getElem?_cons_succ, List.getElem?_cons_zero, Option.some.injEq] at ho
      subst ho
      simp only [RegS.putAll, List.length_cons, List.length_nil, Nat.reduceAdd, List.getD_cons_zero, List.getD_cons_succ, Act.put, List.setIfInBounds_toArray, List.set_cons_zero, List.set_cons_succ]
      have e2 : u 2 = .pointer (some ⟨b, 0, none⟩) := hd 2 (by decide) (by rfl)
      go_simp
      exact hK _ _ rfl (Below.refl _ _) rfl (fun h => absurd h (by decide))
    · simp only [List.getElem?_toArray, List.getElem?_cons_succ, List.getElem?_cons_zero, Option.some.injEq] at ho
      subst ho
      simp only [RegS.putAll, List.length_cons, List.length_nil, Nat.reduceAdd, List.getD_cons_zero, List.getD_cons_succ, Act.put, List.setIfInBounds_toArray, List.set_cons_zero, List.set_cons_succ]
      have e3 : u 3 = .pointer (some ⟨b, 6, none⟩) := hd 3 (by decide) (by rfl)
      go_simp
      exact hK _ _ rfl (Below.refl _ _) rfl (fun h => absurd h (by decide))
    · simp only [List.getElem?_toArray, List.getElem?_cons_succ, List.getElem?_cons_zero, Option.some.injEq] at ho
      subst ho
      simp only [RegS.putAll, List.length_cons, List.length_nil, Nat.reduceAdd, List.getD_cons_zero, List.getD_cons_succ, Act.put, List.setIfInBounds_toArray, List.set_cons_zero, List.set_cons_succ]
      have e4 : u 4 = .pointer (some ⟨b, 6, none⟩) := hd 4 (by decide) (by rfl)
      obtain ⟨_, _, ⟨h6, h7, _, _⟩, ⟨_, _⟩, _, _, _, h15⟩ := (kB2.belowS hb).cell16
      go_simp
      exact hK _ _ rfl (Below.refl _ _) rfl (fun h => absurd h (by decide))
    · simp only [List.getElem?_toArray, List.getElem?_cons_succ, List.getElem?_cons_zero, Option.some.injEq] at ho
      subst ho
      simp only [RegS.putAll, List.length_cons, List.length_nil, Nat.reduceAdd, List.getD_cons_zero, List.getD_cons_succ, Act.put, List.setIfInBounds_toArray, List.set_cons_zero, List.set_cons_succ]
      have e5 : u 5 = .int .i64 (gg : Nat) := hd 5 (by decide) (by rfl)
      go_simp
      exact hK _ _ rfl (Below.refl _ _) rfl (fun h => absurd h (by decide))
    · simp only [List.getElem?_toArray, List.getElem?_cons_succ, List.getElem?_cons_zero, Option.some.injEq] at ho
      subst ho
      simp only [RegS.putAll, List.length_cons, List.length_nil, Nat.reduceAdd, List.getD_cons_zero, List.getD_cons_succ, Act.put, List.setIfInBounds_toArray, List.set_cons_zero, List.set_cons_succ]
      go_simp
      exact hK _ _ rfl (Below.refl _ _) rfl (fun h => absurd h (by decide))
    · simp only [List.getElem?_toArray, List.getElem?_cons_succ, List.getElem?_cons_zero, Option.some.injEq] at ho
      subst ho
      simp only [RegS.putAll, List.length_cons, List.length_nil, Nat.reduceAdd, List.getD_cons_zero, List.getD_cons_succ, Act.put, List.setIfInBounds_toArray, List.set_cons_zero, List.set_cons_succ]
      have e7 : u 7 = .pointer (some ⟨b, 0, none⟩) := hd 7 (by decide) (by rfl)
      go_simp
      exact hK _ _ rfl (Below.refl _ _) rfl (fun h => absurd h (by decide))
    · simp only [List.getElem?_toArray, List.getElem?_cons_succ, List.getElem?_cons_zero, Option.some.injEq] at ho
      subst ho
      simp only [RegS.putAll, List.length_cons, List.length_nil, Nat.reduceAdd, List.getD_cons_zero, List.getD_cons_succ, Act.put, List.setIfInBounds_toArray, List.set_cons_zero, List.set_cons_succ]
      have e8 : u 8 = .pointer (some ⟨b, 0, none⟩) := hd 8 (by decide) (by rfl)
      go_simp
      exact hK _ _ rfl (Below.refl _ _) rfl (fun h => absurd h (by decide))
    · simp only [List.getElem?_toArray, List.getElem?_cons_succ, List.getElem?_cons_zero, Option.some.injEq] at ho
      subst ho
      simp only [RegS.putAll, List.length_cons, List.length_nil, Nat.reduceAdd, List.getD_cons_zero, List.getD_cons_succ, Act.put, List.setIfInBounds_toArray, List.set_cons_zero, List.set_cons_succ]
      have e9 : u 9 = .pointer (some ⟨b, 0, none⟩) := hd 9 (by decide) (by rfl)
      go_simp
      exact hK _ _ rfl (Below.refl _ _) rfl (fun h => absurd h (by decide))
    · simp only [List.getElem?_toArray, List.getElem?_cons_succ, List.getElem?_cons_zero, Option.some.injEq] at ho
      subst ho
      simp only [RegS.putAll, List.length_cons, List.length_nil, Nat.reduceAdd, List.getD_cons_zero, List.getD_cons_succ, Act.put, List.setIfInBounds_toArray, List.set_cons_zero, List.set_cons_succ]
      have e10 : u 10 = .pointer (some ⟨b, 6, none⟩) := hd 10 (by decide) (by rfl)
      go_simp
      exact hK _ _ rfl (Below.refl _ _) rfl (fun h => absurd h (by decide))
    · simp only [List.getElem?_toArray, List.getElem?_cons_succ, List.getElem?_cons_zero, Option.some.injEq] at ho
      subst ho
      simp only [RegS.putAll, List.length_cons, List.length_nil, Nat.reduceAdd, List.getD_cons_zero, List.getD_cons_succ, Act.put, List.setIfInBounds_toArray, List.set_cons_zero, List.set_cons_succ]
      have e11 : u 11 = .pointer (some ⟨b, 7, none⟩) := hd 11 (by decide) (by rfl)
      obtain ⟨_, _, ⟨h6, h7, _, _⟩, ⟨_, _⟩, _, _, _, h15⟩ := (kB2.belowS hb).cell16
      go_simp
      exact hK _ _ rfl (Below.refl _ _) rfl (fun h => absurd h (by decide))
    · simp only [List.getElem?_toArray, List.getElem?_cons_succ, List.getElem?_cons_zero, Option.some.injEq] at ho
      subst ho
      simp only [RegS.putAll, List.length_cons, List.length_nil, Nat.reduceAdd, List.getD_cons_zero, List.getD_cons_succ, Act.put, List.setIfInBounds_toArray, List.set_cons_zero, List.set_cons_succ]
      have e12 : u 12 = .int .i64 (gf : Nat) := hd 12 (by decide) (by rfl)
      go_simp
      exact hK _ _ rfl (Below.refl _ _) rfl (fun h => absurd h (by decide))
    · simp only [List.getElem?_toArray, List.getElem?_cons_succ, List.getElem?_cons_zero, Option.some.injEq] at ho
      subst ho
      simp only [RegS.putAll, List.length_cons, List.length_nil, Nat.reduceAdd, List.getD_cons_zero, List.getD_cons_succ, Act.put, List.setIfInBounds_toArray, List.set_cons_zero, List.set_cons_succ]
      go_simp
      exact hK _ _ rfl (Below.refl _ _) rfl (fun h => absurd h (by decide))
    · simp only [List.getElem?_toArray, List.getElem?_cons_succ, List.getElem?_cons_zero, Option.some.injEq] at ho
      subst ho
      simp only [RegS.putAll, List.length_cons, List.length_nil, Nat.reduceAdd, List.getD_cons_zero, List.getD_cons_succ, Act.put, List.setIfInBounds_toArray, List.set_cons_zero, List.set_cons_succ]
      have e14 : u 14 = .pointer (some ⟨b, 0, none⟩) := hd 14 (by decide) (by rfl)
      go_simp
      exact hK _ _ rfl (Below.refl _ _) rfl (fun h => absurd h (by decide))
    · simp only [List.getElem?_toArray, List.getElem?_cons_succ, List.getElem?_cons_zero, Option.some.injEq] at ho
      subst ho
      simp only [RegS.putAll, List.length_cons, List.length_nil, Nat.reduceAdd, List.getD_cons_zero, List.getD_cons_succ, Act.put, List.setIfInBounds_toArray, List.set_cons_zero, List.set_cons_succ]
      have e15 : u 15 = .pointer (some ⟨b, 0, none⟩) := hd 15 (by decide) (by rfl)
      go_simp
      exact hK _ _ rfl (Below.refl _ _) rfl (fun h => absurd h (by decide))
    · simp only [List.getElem?_toArray, List.getElem?_cons_succ, List.getElem?_cons_zero, Option.some.injEq] at ho
      subst ho
      simp only [RegS.putAll, List.length_cons, List.length_nil, Nat.reduceAdd, List.getD_cons_zero, List.getD_cons_succ, Act.put, List.setIfInBounds_toArray, List.set_cons_zero, List.set_cons_succ]
      have e16 : u 16 = .pointer (some ⟨b, 0, none⟩) := hd 16 (by decide) (by rfl)
      go_simp
      exact hK _ _ rfl (Below.refl _ _) rfl (fun h => absurd h (by decide))
    · simp only [List.getElem?_toArray, List.getElem?_cons_succ, List.getElem?_cons_zero, Option.some.injEq] at ho
      subst ho
      simp only [RegS.putAll, List.length_cons, List.length_nil, Nat.reduceAdd, List.getD_cons_zero, List.getD_cons_succ, Act.put, List.setIfInBounds_toArray, List.set_cons_zero, List.set_cons_succ]
      have e17 : u 17 = .pointer (some ⟨b, 12, none⟩) := hd 17 (by decide) (by rfl)
      go_simp
      exact hK _ _ rfl (Below.refl _ _) rfl (fun h => absurd h (by decide))
    · simp only [List.getElem?_toArray, List.getElem?_cons_succ, List.getElem?_cons_zero, Option.some.injEq] at ho
      subst ho
      simp only [RegS.putAll, List.length_cons, List.length_nil, Nat.reduceAdd, List.getD_cons_zero, List.getD_cons_succ, Act.put, List.setIfInBounds_toArray, List.set_cons_zero, List.set_cons_succ]
      have e18 : u 18 = .pointer (some ⟨b, 15, none⟩) := hd 18 (by decide) (by rfl)
      obtain ⟨_, _, ⟨h6, h7, _, _⟩, ⟨_, _⟩, _, _, _, h15⟩ := (kB2.belowS hb).cell16
      go_simp
      exact hK _ _ rfl (Below.refl _ _) rfl (fun h => absurd h (by decide))
    · simp only [List.getElem?_toArray, List.getElem?_cons_succ, List.getElem?_cons_zero, Option.some.injEq] at ho
      subst ho
      simp only [RegS.putAll, List.length_cons, List.length_nil, Nat.reduceAdd, List.getD_cons_zero, List.getD_cons_succ, Act.put, List.setIfInBounds_toArray, List.set_cons_zero, List.set_cons_succ]
      go_simp
      exact hK _ _ rfl (Below.refl _ _) rfl (fun h => absurd h (by decide))
    · simp only [List.getElem?_toArray, List.getElem?_cons_succ, List.getElem?_cons_zero, Option.some.injEq] at ho
      subst ho
      simp only [RegS.putAll, List.length_cons, List.length_nil, Nat.reduceAdd, List.getD_cons_zero, List.getD_cons_succ, Act.put, List.setIfInBounds_toArray, List.set_cons_zero, List.set_cons_succ]
      have e20 : u 20 = .slice Al np al := hd 20 (by decide) (by rfl)
      go_simp
      exact hK _ _ rfl (Below.refl _ _) rfl (fun h => absurd h (by decide))
    · simp only [List.getElem?_toArray, List.getElem?_cons_succ, List.getElem?_cons_zero, Option.some.injEq] at ho
      subst ho
      simp only [RegS.putAll, List.length_cons, List.length_nil, Nat.reduceAdd, List.getD_cons_zero, List.getD_cons_succ, Act.put, List.setIfInBounds_toArray, List.set_cons_zero, List.set_cons_succ]
      have e6 : u 6 = .int .i64 (g1 : Nat) := hd 6 (by decide) (by rfl)
      have e13 : u 13 = .int .i64 (f1 : Nat) := hd 13 (by decide) (by rfl)
      have e19 : u 19 = .int .i64 (sq : Nat) := hd 19 (by decide) (by rfl)
      have e21 : u 21 = .int .i64 (np : Nat) := hd 21 (by decide) (by rfl)
      go_simp
      exact hK _ _ rfl (Below.refl _ _) rfl (fun h => absurd h (by decide))
    · simp only [List.getElem?_toArray, List.getElem?_cons_succ, List.getElem?_cons_zero, Option.some.injEq] at ho
      subst ho
      simp only [RegS.putAll, List.length_cons, List.length_nil, Nat.reduceAdd, List.getD_cons_zero, List.getD_cons_succ, Act.put, List.setIfInBounds_toArray, List.set_cons_zero, List.set_cons_succ]
      go_simp
      exact hK _ _ rfl ((Below.refl _ _).alloc (Nat.le_refl _) _) ⟨_, rfl, hb.size, Box.new _ _ _⟩ fun _ => ⟨rfl, by simp⟩
  case tail =>
    intro u ww hb hG hp hne
    simp only [RegS.putAll, List.length_cons, List.length_nil, Nat.reduceAdd, List.getD_cons_zero, List.getD_cons_succ, Act.put, List.setIfInBounds_toArray, List.set_cons_zero, List.set_cons_succ, List.drop_succ_cons, List.drop_zero]
    have e22 : u 22 = .agg #[.int .i64 (g1 : Nat), .int .i64 (f1 : Nat), .int .i64 (sq : Nat), .int .i64 (np : Nat)] := hG 22 (by decide)
    obtain ⟨b6, e23, l6, k6⟩ := hG 23 (by decide)
    clear hG hp hne
    obtain ⟨q0, q1, q2, q3⟩ := k6.cell4
    have f0 := k6.frozen 0
    have f1' := k6.frozen 1
    have f2' := k6.frozen 2
    have f3' := k6.frozen 3
    have hltb := kB2.lt
    have kB3 := (kB2.belowS hb).far4 (c := b6) (u0 := .int .i64 (g1 : Nat)) (u1 := .int .i64 (f1 : Nat)) (u2 := .int .i64 (sq : Nat)) (u3 := .int .i64 (np : Nat)) (by omega)
    have kH3 := k6.set4 (u0 := .int .i64 (g1 : Nat)) (u1 := .int .i64 (f1 : Nat)) (u2 := .int .i64 (sq : Nat)) (u3 := .int .i64 (np : Nat))
    have hO3 := own_set4o (own_below hHO2.out hb) (b := b6) (fun e => by have := (hHO2.out.lt _ e).2; omega) (.int .i64 (g1 : Nat)) (.int .i64 (f1 : Nat)) (.int .i64 (sq : Nat)) (.int .i64 (np : Nat))
    have hb3 := below_set4 (b := b6) (u0 := .int .i64 (g1 : Nat)) (u1 := .int .i64 (f1 : Nat)) (u2 := .int .i64 (sq : Nat)) (u3 := .int .i64 (np : Nat)) hb l6
    have hbw3 := HB2.out.trans (hb3.mono HB2.out.size)
    obtain ⟨w3, hw3⟩ : ∃ y, y = (((ww.setCell ⟨b6, 0, none⟩ (.int .i64 (g1 : Nat))).setCell ⟨b6, 1, none⟩ (.int .i64 (f1 : Nat))).setCell ⟨b6, 2, none⟩ (.int .i64 (sq : Nat))).setCell ⟨b6, 3, none⟩ (.int .i64 (np : Nat)) := ⟨_, rfl⟩
    rw [← hw3] at kB3 kH3 hO3 hb3 hbw3
    have HW3 := hide hw3
    have HO3 := hide hO3
    have HBW3 := hide hbw3
    have HDK3 := hide (HDK.out.below hbw3)
    clear hw3 hO3 hbw3 hb3 kB2 hb20 hHO2 HB2 k6
    go_wp2_with fail
    refine NoPanic.normal ?_
    rw [← HW3.out]
    go_upto_region 5 with (fail)
    clear HW3 q0 q1 q2 q3 f0 f1' f2' f3' e22
    obtain ⟨⟨h0, h1⟩, _, _, _, _⟩ := kB3.cell16
    obtain ⟨q0, q1, q2, q3⟩ := kH3.cell4
    go_quiet (fail)
    go_upto_region 7 with (fail)
    have hbq : Below w3.heap.size w3 (w3.drewN nq) := below_drewN (Below.refl _ _) nq
    obtain ⟨w4, hw4⟩ : ∃ y, y = w3.drewN nq := ⟨_, rfl⟩
    rw [← hw4] at hbq ⊢
    have kB4 := kB3.belowS hbq
    have kH4 := kH3.belowS hbq
    obtain ⟨V0, hV0⟩ : ∃ V0 : Nat → Prop, V0 = fun x => V x ∧ x ≠ b ∧ (Value.slice Ar nr cr).ownBlock ≠ some x := ⟨_, rfl⟩
    have HDK4 := hide (HDK3.out.below hbq)
    rw [← hV0] at HDK4
    have HV0 := hide hV0
    have HO4 := hide (own_mono (own_below HO3.out hbq) (Nat.zero_le _))
    have HBW4 := hide (HBW3.out.trans (hbq.mono HBW3.out.size))
    clear h0 h1 q0 q1 q2 q3 hV0 hbq hw4 kB3 kH3 HDK3 HO3 HBW3 hb
    refine wp_region_noPanic ?_
    refine RegS.region (ds := [60, 61, 62, 63, 64, 65, 66, 67, 68, 69, 70, 71, 72, 59, 73, 74, 7]) (pure := [13, 14, 15]) (fresh := [16])
      (G := Gs [.is (.pointer (some ⟨b, 0, none⟩)), .is (.pointer (some ⟨b, 0, none⟩)), .is (.pointer (some ⟨b, 0, none⟩)), .is (.pointer (some ⟨b, 2, none⟩)), .is (.agg #[.slice A n c, .slice B m e, .int .i64 lf, .bool false]), .is (.pointer (some ⟨b, 0, none⟩)), .is (.pointer (some ⟨b, 0, none⟩)), .is (.pointer (some ⟨b, 0, none⟩)), .is (.pointer (some ⟨b, 0, none⟩)), .is (.agg #[.int .i64 (cl : Nat), .int .i64 (cp : Nat)]), .is (.agg #[.int .i64 (g1 : Nat), .int .i64 (f1 : Nat), .int .i64 (sq : Nat), .int .i64 (np : Nat)]), .is (.slice Al np al), .two (.dk (fun x => V0 x ∧ x < w4.heap.size ∨ w4.heap.size ≤ x) RR.1) (.int .i64 (RR.2 : Nat)), .two (.dk (fun x => V0 x ∧ x < w4.heap.size ∨ w4.heap.size ≤ x) RR.1) (.int .i64 (RR.2 : Nat)), .dk (fun x => V0 x ∧ x < w4.heap.size ∨ w4.heap.size ≤ x) RR.1, .is (.int .i64 (RR.2 : Nat)), .box w4.heap.size 50 #[.slice none 0 0, .slice none 0 0, .int .i64 0, .bool false]])
      rfl (by kernel_rfl) (by kernel_rfl) ⟨by kernel_rfl, by kernel_rfl, fun i _ v w w' => gs_keep _ i v w w', ?quiet, ?step⟩ (fun _ _ _ _ _ h => h) ?tail
    case quiet =>
      intro i o hi hp ho u ww hd
      obtain rfl | rfl | rfl : i = 13 ∨ i = 14 ∨ i = 15 := by simp at hp; omega
      · simp only [List.getElem?_toArray, List.getElem?_cons_succ, List.getElem?_cons_zero, Option.some.injEq] at ho
        subst ho
        simp only [RegS.putAll, List.length_cons, List.length_nil, Nat.reduceAdd, List.getD_cons_zero, List.getD_cons_succ, Act.put, List.setIfInBounds_toArray, List.set_cons_zero, List.set_cons_succ]
        exact ⟨_, fun _ => rfl, hd 12 (by decide) (by rfl)⟩
      · simp only [List.getElem?_toArray, List.getElem?_cons_succ, List.getElem?_cons_zero, Option.some.injEq] at ho
        subst ho
        simp only [RegS.putAll, List.length_cons, List.length_nil, Nat.reduceAdd, List.getD_cons_zero, List.getD_cons_succ, Act.put, List.setIfInBounds_toArray, List.set_cons_zero, List.set_cons_succ]
        obtain ⟨x, e, h⟩ := hd 13 (by decide) (by rfl)
        rw [e]
        exact ⟨_, fun _ => rfl, h⟩
      · simp only [List.getElem?_toArray, List.getElem?_cons_succ, List.getElem?_cons_zero, Option.some.injEq] at ho
        subst ho
        simp only [RegS.putAll, List.length_cons, List.length_nil, Nat.reduceAdd, List.getD_cons_zero, List.getD_cons_succ, Act.put, List.setIfInBounds_toArray, List.set_cons_zero, List.set_cons_succ]
        obtain ⟨x, e, h⟩ := hd 13 (by decide) (by rfl)
        rw [e]
        exact ⟨_, fun _ => rfl, rfl⟩
    case step =>
      intro i o hi hp ho u ww hb hd K hK
      obtain rfl | rfl | rfl | rfl | rfl | rfl | rfl | rfl | rfl | rfl | rfl | rfl | rfl | rfl : i = 0 ∨ i = 1 ∨ i = 2 ∨ i = 3 ∨ i = 4 ∨ i = 5 ∨ i = 6 ∨ i = 7 ∨ i = 8 ∨ i = 9 ∨ i = 10 ∨ i = 11 ∨ i = 12 ∨ i = 16 := by simp at hp hi; omega
      · simp only [List.getElem?_toArray, List.getElem?_cons_zero, Option.some.injEq] at ho
        subst ho
        simp only [RegS.putAll, List.length_cons, List.length_nil, Nat.reduceAdd, List.getD_cons_zero, List.getD_cons_succ, Act.put, List.setIfInBounds_toArray, List.set_cons_zero, List.set_cons_succ]
        go_simp
        exact hK _ _ rfl (Below.refl _ _) rfl (fun h => absurd h (by decide))
      · simp only [List.getElem?_toArray, List.getElem?_cons_succ, List.getElem?_cons_zero, Option.some.injEq] at ho
        subst ho
        simp only [RegS.putAll, List.length_cons, List.length_nil, Nat.reduceAdd, List.getD_cons_zero, List.getD_cons_succ, Act.put, List.setIfInBounds_toArray, List.set_cons_zero, List.set_cons_succ]
        have e0 : u 0 = .pointer (some ⟨b, 0, none⟩) := hd 0 (by decide) (by rfl)
        go_simp
        exact hK _ _ rfl (Below.refl _ _) rfl (fun h => absurd h (by decide))
      · simp only [List.getElem?_toArray, List.getElem?_cons_succ, List.getElem?_cons_zero, Option.some.injEq] at ho
        subst ho
        simp only [RegS.putAll, List.length_cons, List.length_nil, Nat.reduceAdd, List.getD_cons_zero, List.getD_cons_succ, Act.put, List.setIfInBounds_toArray, List.set_cons_zero, List.set_cons_succ]
        have e1 : u 1 = .pointer (some ⟨b, 0, none⟩) := hd 1 (by decide) (by rfl)
        go_simp
        exact hK _ _ rfl (Below.refl _ _) rfl (fun h => absurd h (by decide))
      · simp only [List.getElem?_toArray, List.getElem?_cons_succ, List.getElem?_cons_zero, Option.some.injEq] at ho
        subst ho
        simp only [RegS.putAll, List.length_cons, List.length_nil, Nat.reduceAdd, List.getD_cons_zero, List.getD_cons_succ, Act.put, List.setIfInBounds_toArray, List.set_cons_zero, List.set_cons_succ]
        have e2 : u 2 = .pointer (some ⟨b, 0, none⟩) := hd 2 (by decide) (by rfl)
        go_simp
        exact hK _ _ rfl (Below.refl _ _) rfl (fun h => absurd h (by decide))
      · simp only [List.getElem?_toArray, List.getElem?_cons_succ, List.getElem?_cons_zero, Option.some.injEq] at ho
        subst ho
        simp only [RegS.putAll, List.length_cons, List.length_nil, Nat.reduceAdd, List.getD_cons_zero, List.getD_cons_succ, Act.put, List.setIfInBounds_toArray, List.set_cons_zero, List.set_cons_succ]
        have e3 : u 3 = .pointer (some ⟨b, 2, none⟩) := hd 3 (by decide) (by rfl)
        obtain ⟨⟨h0, h1⟩, ⟨h2, h3, h4, h5⟩, ⟨_, _, _, _⟩, ⟨_, _⟩, _, _, _, _⟩ := (kB4.belowS hb).cell16
        go_simp
        exact hK _ _ rfl (Below.refl _ _) rfl (fun h => absurd h (by decide))
      · simp only [List.getElem?_toArray, List.getElem?_cons_succ, List.getElem?_cons_zero, Option.some.injEq] at ho
        subst ho
        simp only [RegS.putAll, List.length_cons, List.length_nil, Nat.reduceAdd, List.getD_cons_zero, List.getD_cons_succ, Act.put, List.setIfInBounds_toArray, List.set_cons_zero, List.set_cons_succ]
        go_simp
        exact hK _ _ rfl (Below.refl _ _) rfl (fun h => absurd h (by decide))
      · simp only [List.getElem?_toArray, List.getElem?_cons_succ, List.getElem?_cons_zero, Option.some.injEq] at ho
        subst ho
        simp only [RegS.putAll, List.length_cons, List.length_nil, Nat.reduceAdd, List.getD_cons_zero, List.getD_cons_succ, Act.put, List.setIfInBounds_toArray, List.set_cons_zero, List.set_cons_succ]
        have e5 : u 5 = .pointer (some ⟨b, 0, none⟩) := hd 5 (by decide) (by rfl)
        go_simp
        exact hK _ _ rfl (Below.refl _ _) rfl (fun h => absurd h (by decide))
      · simp only [List.getElem?_toArray, List.getElem?_cons_succ, List.getElem?_cons_zero, Option.some.injEq] at ho
        subst ho
        simp only [RegS.putAll, List.length_cons, List.length_nil, Nat.reduceAdd, List.getD_cons_zero, List.getD_cons_succ, Act.put, List.setIfInBounds_toArray, List.set_cons_zero, List.set_cons_succ]
        have e6 : u 6 = .pointer (some ⟨b, 0, none⟩) := hd 6 (by decide) (by rfl)
        go_simp
        exact hK _ _ rfl (Below.refl _ _) rfl (fun h => absurd h (by decide))
      · simp only [List.getElem?_toArray, List.getElem?_cons_succ, List.getElem?_cons_zero, Option.some.injEq] at ho
        subst ho
        simp only [RegS.putAll, List.length_cons, List.length_nil, Nat.reduceAdd, List.getD_cons_zero, List.getD_cons_succ, Act.put, List.setIfInBounds_toArray, List.set_cons_zero, List.set_cons_succ]
        have e7 : u 7 = .pointer (some ⟨b, 0, none⟩) := hd 7 (by decide) (by rfl)
        go_simp
        exact hK _ _ rfl (Below.refl _ _) rfl (fun h => absurd h (by decide))
      · simp only [List.getElem?_toArray, List.getElem?_cons_succ, List.getElem?_cons_zero, Option.some.injEq] at ho
        subst ho
        simp only [RegS.putAll, List.length_cons, List.length_nil, Nat.reduceAdd, List.getD_cons_zero, List.getD_cons_succ, Act.put, List.setIfInBounds_toArray, List.set_cons_zero, List.set_cons_succ]
        have e8 : u 8 = .pointer (some ⟨b, 0, none⟩) := hd 8 (by decide) (by rfl)
        obtain ⟨⟨h0, h1⟩, ⟨h2, h3, h4, h5⟩, ⟨_, _, _, _⟩, ⟨_, _⟩, _, _, _, _⟩ := (kB4.belowS hb).cell16
        go_simp
        exact hK _ _ rfl (Below.refl _ _) rfl (fun h => absurd h (by decide))
      · simp only [List.getElem?_toArray, List.getElem?_cons_succ, List.getElem?_cons_zero, Option.some.injEq] at ho
        subst ho
        simp only [RegS.putAll, List.length_cons, List.length_nil, Nat.reduceAdd, List.getD_cons_zero, List.getD_cons_succ, Act.put, List.setIfInBounds_toArray, List.set_cons_zero, List.set_cons_succ]
        obtain ⟨q0, q1, q2, q3⟩ := (kH4.belowS hb).cell4
        go_simp
        exact hK _ _ rfl (Below.refl _ _) rfl (fun h => absurd h (by decide))
      · simp only [List.getElem?_toArray, List.getElem?_cons_succ, List.getElem?_cons_zero, Option.some.injEq] at ho
        subst ho
        simp only [RegS.putAll, List.length_cons, List.length_nil, Nat.reduceAdd, List.getD_cons_zero, List.getD_cons_succ, Act.put, List.setIfInBounds_toArray, List.set_cons_zero, List.set_cons_succ]
        go_simp
        exact hK _ _ rfl (Below.refl _ _) rfl (fun h => absurd h (by decide))
      · simp only [List.getElem?_toArray, List.getElem?_cons_succ, List.getElem?_cons_zero, Option.some.injEq] at ho
        subst ho
        simp only [RegS.putAll, List.length_cons, List.length_nil, Nat.reduceAdd, List.getD_cons_zero, List.getD_cons_succ, Act.put, List.setIfInBounds_toArray, List.set_cons_zero, List.set_cons_succ]
        have e4 : u 4 = .agg #[.slice A n c, .slice B m e, .int .i64 lf, .bool false] := hd 4 (by decide) (by rfl)
        have e9 : u 9 = .agg #[.int .i64 (cl : Nat), .int .i64 (cp : Nat)] := hd 9 (by decide) (by rfl)
        have e10 : u 10 = .agg #[.int .i64 (g1 : Nat), .int .i64 (f1 : Nat), .int .i64 (sq : Nat), .int .i64 (np : Nat)] := hd 10 (by decide) (by rfl)
        have e11 : u 11 = .slice Al np al := hd 11 (by decide) (by rfl)
        go_simp
        refine (HSV.out _ Al al ww (HDK4.out.lt'.below hb) (own_below HO4.out hb)).mono ?_
        rintro r w5 ⟨v, rfl, hv, hb5⟩
        exact hK _ _ rfl hb5 ⟨v, rfl, hv.mono fun b h => h.elim (fun h => .inl h) fun h => .inr (Nat.le_trans hb.size h)⟩ (fun h => absurd h (by decide))
      · simp only [List.getElem?_toArray, List.getElem?_cons_succ, List.getElem?_cons_zero, Option.some.injEq] at ho
        subst ho
        simp only [RegS.putAll, List.length_cons, List.length_nil, Nat.reduceAdd, List.getD_cons_zero, List.getD_cons_succ, Act.put, List.setIfInBounds_toArray, List.set_cons_zero, List.set_cons_succ]
        go_simp
        exact hK _ _ rfl ((Below.refl _ _).alloc (Nat.le_refl _) _) ⟨_, rfl, hb.size, Box.new _ _ _⟩ fun _ => ⟨rfl, by simp⟩
    case tail =>
      intro u2 ww2 hb2 hG hp hne
      simp only [RegS.putAll, List.length_cons, List.length_nil, Nat.reduceAdd, List.getD_cons_zero, List.getD_cons_succ, Act.put, List.setIfInBounds_toArray, List.set_cons_zero, List.set_cons_succ, List.drop_succ_cons, List.drop_zero]
      obtain ⟨A3, n3, c3, B3, m3, e3, e14, hD3⟩ := hG 14 (by decide)
      have e15 : u2 15 = .int .i64 (RR.2 : Nat) := hG 15 (by decide)
      obtain ⟨b7, e16, l7, k7⟩ := hG 16 (by decide)
      clear hG hp hne
      have hD4 := hD3.notBox k7 noStr_disk
      obtain ⟨lf3, hlf3⟩ : ∃ lf3, lf3 = RR.1.left := ⟨_, rfl⟩
      obtain ⟨dd3, hdd3⟩ : ∃ dd3, dd3 = RR.1.dead := ⟨_, rfl⟩
      rw [← hlf3, ← hdd3] at e14
      obtain ⟨ev, hev⟩ : ∃ ev, ev = RR.2 := ⟨_, rfl⟩
      rw [← hev] at e15
      have k7' := k7.set4 (u0 := .slice A3 n3 c3) (u1 := .slice B3 m3 e3) (u2 := .int .i64 lf3) (u3 := .bool dd3)
      have hlb4 := kB4.lt
      have hlh4 := kH4.lt
      have hs4 := HBW4.out.size
      have kH5 := (kH4.belowS hb2).far4 (c := b7) (u0 := .slice A3 n3 c3) (u1 := .slice B3 m3 e3) (u2 := .int .i64 lf3) (u3 := .bool dd3) (by omega)
      have hb5 := below_set4 (b := b7) (u0 := .slice A3 n3 c3) (u1 := .slice B3 m3 e3) (u2 := .int .i64 lf3) (u3 := .bool dd3) hb2 l7
      have hbw5 := HBW4.out.trans (hb5.mono HBW4.out.size)
      have hD5 := (hD4.set4 (b := b7) (u0 := .slice A3 n3 c3) (u1 := .slice B3 m3 e3) (u2 := .int .i64 lf3) (u3 := .bool dd3) fun x hx => hx.2).mono (V' := fun x => (V x ∨ w.heap.size ≤ x) ∧ x ≠ b ∧ (Value.slice Ar nr cr).ownBlock ≠ some x) (fun x hx => by
        rcases hx.1 with h | h
        · rw [HV0.out] at h
          exact ⟨.inl h.1.1, h.1.2.1, h.1.2.2⟩
        · exact ⟨.inr (by omega), by omega, fun e => by have := (HLR.out x e).2; omega⟩)
      obtain ⟨q0, q1, q2, q3⟩ := k7.cell4
      have f0 := k7.frozen 0
      have f1' := k7.frozen 1
      have f2' := k7.frozen 2
      have f3' := k7.frozen 3
      obtain ⟨w5, hw5⟩ : ∃ y, y = (((ww2.setCell ⟨b7, 0, none⟩ (.slice A3 n3 c3)).setCell ⟨b7, 1, none⟩ (.slice B3 m3 e3)).setCell ⟨b7, 2, none⟩ (.int .i64 lf3)).setCell ⟨b7, 3, none⟩ (.bool dd3) := ⟨_, rfl⟩
      rw [← hw5] at k7' kH5 hb5 hbw5 hD5
      have HW5 := hide hw5
      have HD5 := hide hD5
      have HBW5 := hide hbw5
      have HLF := hide hlf3
      have HDD := hide hdd3
      have HEV := hide hev
      clear hw5 hD5 hbw5 hb5 hD4 hD3 hlf3 hdd3 hev kB4 kH4 HDK4 HO4 HSV HBW4
      go_wp2_with fail
      refine NoPanic.normal ?_
      rw [← HW5.out]
      clear HW5 q0 q1 q2 q3 f0 f1' f2' f3'
      obtain ⟨q0, q1, q2, q3⟩ := k7'.cell4
      have kB5 := hB0.belowS HBW5.out
      have HKB5 := hide (HB.out.belowS HBW5.out)
      have HC5 := hide (Chg.of (b := b) (rv := .slice Ar nr cr) HBW5.out)
      have hltb5 := kB5.lt
      obtain ⟨⟨h0, h1⟩, ⟨h2, h3, h4, h5⟩, _, _, _⟩ := kB5.cell16
      have f2 := kB5.frozen 2
      have f3 := kB5.frozen 3
      have f4 := kB5.frozen 4
      have f5 := kB5.frozen 5
      have hK1 := keep_drive (lf := lf3) (dd := dd3) HKB5.out HD5.out (own_below HO.out HBW5.out) HNE.out HLF.out HDD.out
      have hC1 := chg_drive (A := A3) (n := n3) (c := c3) (B := B3) (m := m3) (e := e3) (lf := lf3) (dd := dd3) HC5.out
      have HK1 := hide hK1
      have HC1 := hide hC1
      clear hK1 hC1 kB5
      by_cases he0 : ev = 0
      · subst he0
        go_upto_region 11 with (fail)
        obtain ⟨w6, hw6⟩ : ∃ y, y = (((w5.setCell ⟨b, 2, none⟩ (.slice A3 n3 c3)).setCell ⟨b, 3, none⟩ (.slice B3 m3 e3)).setCell ⟨b, 4, none⟩ (.int .i64 lf3)).setCell ⟨b, 5, none⟩ (.bool dd3) := ⟨_, rfl⟩
        have kB6 : Box w6 b 134 #[.int .i64 (cl : Nat), .int .i64 (cp : Nat), .slice A3 n3 c3, .slice B3 m3 e3, .int .i64 lf3, .bool dd3, .int .i64 (gg : Nat), .int .i64 (gf : Nat), .int .i64 (k.head.seq : Nat), .int .i64 (k.head.pages : Nat), .string (mkB k.text), .slice Ar nr cr, .int .i64 (k.log.frm : Nat), .int .i64 (k.log.len : Nat), .int .i64 (k.log.at_ : Nat), .int .i64 (sq : Nat)] := by
          rw [hw6]
          exact ((((hB0.belowS HBW5.out).set 2 (.slice A3 n3 c3)).set 3 (.slice B3 m3 e3)).set 4 (.int .i64 lf3)).set 5 (.bool dd3)
        have kH6 : Box w6 b6 128 #[.int .i64 (g1 : Nat), .int .i64 (f1 : Nat), .int .i64 (sq : Nat), .int .i64 (np : Nat)] := by
          rw [hw6]
          have hx : b ≠ b6 := by omega
          exact (((kH5.other (a := ⟨b, 2, none⟩) hx (.slice A3 n3 c3)).other (a := ⟨b, 3, none⟩) hx (.slice B3 m3 e3)).other (a := ⟨b, 4, none⟩) hx (.int .i64 lf3)).other (a := ⟨b, 5, none⟩) hx (.bool dd3)
        have hD6 : Dk w6 (fun x => (V x ∨ w.heap.size ≤ x) ∧ x ≠ b ∧ (Value.slice Ar nr cr).ownBlock ≠ some x) A3 n3 c3 B3 m3 e3 RR.1 := by
          rw [hw6]
          exact (((HD5.out.set1 (fun x hx => hx.2.1) 2 _).set1 (fun x hx => hx.2.1) 3 _).set1 (fun x hx => hx.2.1) 4 _).set1 (fun x hx => hx.2.1) 5 _
        have HD6 := hide hD6
        have HC6 : Hid (Chg b (.slice Ar nr cr) w w6) := by
          rw [hw6]
          exact HC1
        have HW6 := hide hw6
        have HSK : Hid (∀ (ww : World) (i : Nat) (v : Value), 2 ≤ i → ((ww.cell? ⟨b, 0, none⟩ = some (.int .i64 (cl : Nat)) ∧ ww.cell? ⟨b, 1, none⟩ = some (.int .i64 (cp : Nat))) ∧ ww.cell? ⟨b6, 0, none⟩ = some (.int .i64 (g1 : Nat)) ∧ ww.cell? ⟨b6, 1, none⟩ = some (.int .i64 (f1 : Nat)) ∧ ww.cell? ⟨b6, 2, none⟩ = some (.int .i64 (sq : Nat)) ∧ ww.cell? ⟨b6, 3, none⟩ = some (.int .i64 (np : Nat))) → (((ww.setCell ⟨b, i, none⟩ v).cell? ⟨b, 0, none⟩ = some (.int .i64 (cl : Nat)) ∧ (ww.setCell ⟨b, i, none⟩ v).cell? ⟨b, 1, none⟩ = some (.int .i64 (cp : Nat))) ∧ (ww.setCell ⟨b, i, none⟩ v).cell? ⟨b6, 0, none⟩ = some (.int .i64 (g1 : Nat)) ∧ (ww.setCell ⟨b, i, none⟩ v).cell? ⟨b6, 1, none⟩ = some (.int .i64 (f1 : Nat)) ∧ (ww.setCell ⟨b, i, none⟩ v).cell? ⟨b6, 2, none⟩ = some (.int .i64 (sq : Nat)) ∧ (ww.setCell ⟨b, i, none⟩ v).cell? ⟨b6, 3, none⟩ = some (.int .i64 (np : Nat)))) := by
          intro ww i v hi ⟨⟨s0, s1⟩, s2, s3, s4, s5⟩
          have hx : b6 ≠ b := by omega
          exact ⟨⟨(World.cell?_setCell_other (w := ww) (v := v) (a := ⟨b, i, none⟩) (b := ⟨b, 0, none⟩) (h := fun e => by injection e with _ e _; omega)).trans s0, (World.cell?_setCell_other (w := ww) (v := v) (a := ⟨b, i, none⟩) (b := ⟨b, 1, none⟩) (h := fun e => by injection e with _ e _; omega)).trans s1⟩, (World.cell?_setCell_other (w := ww) (v := v) (a := ⟨b, i, none⟩) (b := ⟨b6, 0, none⟩) (h := fun e => by injection e with e; omega)).trans s2, (World.cell?_setCell_other (w := ww) (v := v) (a := ⟨b, i, none⟩) (b := ⟨b6, 1, none⟩) (h := fun e => by injection e with e; omega)).trans s3, (World.cell?_setCell_other (w := ww) (v := v) (a := ⟨b, i, none⟩) (b := ⟨b6, 2, none⟩) (h := fun e => by injection e with e; omega)).trans s4, (World.cell?_setCell_other (w := ww) (v := v) (a := ⟨b, i, none⟩) (b := ⟨b6, 3, none⟩) (h := fun e => by injection e with e; omega)).trans s5⟩
        have HSS : Hid (∀ (ww : World), Below w6.heap.size w6 ww → (ww.cell? ⟨b, 0, none⟩ = some (.int .i64 (cl : Nat)) ∧ ww.cell? ⟨b, 1, none⟩ = some (.int .i64 (cp : Nat))) ∧ ww.cell? ⟨b6, 0, none⟩ = some (.int .i64 (g1 : Nat)) ∧ ww.cell? ⟨b6, 1, none⟩ = some (.int .i64 (f1 : Nat)) ∧ ww.cell? ⟨b6, 2, none⟩ = some (.int .i64 (sq : Nat)) ∧ ww.cell? ⟨b6, 3, none⟩ = some (.int .i64 (np : Nat))) := fun ww hb => ⟨⟨((kB6.belowS hb).cell16).1.1, ((kB6.belowS hb).cell16).1.2⟩, (kH6.belowS hb).cell4⟩
        clear hw6 hD6 HK1 HC1 HKB5 HC5 HD5 kH5 HBW5 h0 h1 h2 h3 h4 h5 f2 f3 f4 f5 q0 q1 q2 q3 k7'
        rw [← HW6.out]
        clear HW6
        go_region_held3 (fun ww => (ww.cell? ⟨b, 0, none⟩ = some (.int .i64 (cl : Nat)) ∧ ww.cell? ⟨b, 1, none⟩ = some (.int .i64 (cp : Nat))) ∧ ww.cell? ⟨b6, 0, none⟩ = some (.int .i64 (g1 : Nat)) ∧ ww.cell? ⟨b6, 1, none⟩ = some (.int .i64 (f1 : Nat)) ∧ ww.cell? ⟨b6, 2, none⟩ = some (.int .i64 (sq : Nat)) ∧ ww.cell? ⟨b6, 3, none⟩ = some (.int .i64 (np : Nat)))
          (first | (with_reducible exact (HSS.out w6 (Below.refl _ _))) | (with_reducible exact (HSS.out w6.drew (Below.refl _ _).drew)) | (with_reducible exact (HSS.out wx hbx)) | ((repeat (with_reducible refine HSK.out _ _ _ (by decide) ?_)); (with_reducible exact (HSS.out wx hbx))))
          (((with_reducible refine (HBG.out _).mono ?_); rintro q wx ⟨rfl, hbx⟩; have hbx := below_undrewD hbx; have kBx := kB6.belowS hbx; obtain ⟨_, _, ⟨t6, t7, t8, t9⟩, ⟨t10, t11⟩, t12, t13, t14, t15⟩ := kBx.cell16; have y6 := kBx.frozen 6; have y7 := kBx.frozen 7; have y8 := kBx.frozen 8; have y9 := kBx.frozen 9; have y10 := kBx.frozen 10; have y11 := kBx.frozen 11; have y12 := kBx.frozen 12; have y13 := kBx.frozen 13; have y14 := kBx.frozen 14; have y15 := kBx.frozen 15))
        obtain ⟨x1, x2, x3, x4, x5, x6⟩ := HXX.out
        obtain ⟨z1, z2⟩ := HGF.out
        have hfin := sv_done (k := k) (t := t) (R := RR) (s := s) (g1 := g1) (f1 := f1) (sq := sq) (np := np) (lg := lg) kBx (HD6.out.below hbx) HEV.out.symm x1 x2 HLF.out HDD.out (by rw [z1, x3]) (by rw [z2, x4]) x5 HNP.out HLG.out (by rw [HT.out, mkB_oct])
        have hchg := chg_end (g1 := g1) (f1 := f1) (sq := sq) (np := np) (s := s) (lg := lg) (HC6.out.trans_below hbx)
        have HFIN := hide hfin
        have HCHG := hide hchg
        clear hfin hchg x1 x2 x3 x4 x5 x6 z1 z2 t6 y6 t7 y7 t8 y8 t9 y9 t10 y10 t11 y11 t12 y12 t13 y13 t14 y14 t15 y15
        go_wp2_with fail
        exact bodyPost_ret (v := .int .i64 0) (by simp [results, Try.results56, go_sem]) rfl ⟨by rw [← HEV.out]; rfl, .slice none 0 0, HFIN.out, fun g hg => by simp [Value.ownBlock] at hg, HCHG.out⟩
      · have n0 : decide (ev = 0) = false := by simpa using he0
        have n0' : ((ev : Int) != 0) = true := by rw [bne_iff_ne]; omega
        have n0'' : ((ev : Int) == 0) = false := by rw [beq_eq_false_iff_ne]; omega
        have hne0 : RR.2 ≠ 0 := by rw [← HEV.out]; exact he0
        clear he0
        go_wp2_with fail
        exact bodyPost_ret (v := .int .i64 (ev : Nat)) (by simp [results, Try.results56, go_sem, e15]) rfl ⟨by rw [HEV.out], .slice Ar nr cr, by rw [svK, if_neg hne0]; exact HK1.out, fun g hg => .inl hg, HC1.out⟩
end Go.Proofs.Yteoiadfcchalfaa

