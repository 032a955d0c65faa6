/- The walk of LogForged. -/
import Derived.Test.YteoiadfcchalfaaLogLayB
import Derived.Test.YteoiadfcchalfaaLogBackW
import Derived.Test.YteoiadfcchalfaaDiskBudW
import Derived.Deep.DeepCutAuto
import Derived.Deep.CutBlock
import Derived.Deep.RegionHeld3
namespace Go.Proofs.Yteoiadfcchalfaa
open Go.RowKit
open DiskP (Bytes Disk Wr Fate noughts)
open LogP (Log zeroL Live okL Holds)
set_option linter.unusedVariables false

/-- what stands ahead of the first loop's round: sectors of the law's own, the third one noughts -/
def FgR (w0 : World) (g bd : Nat) (wr : World) : Prop :=
  ∃ S : List Bytes, S.length = 20 ∧ LogP.Sized S ∧ S[2]? = some (noughts 128) ∧ wr.ownsRow w0.heap.size 9 1 (.slice (some ⟨g, 0, none⟩) 20 20) 20 (secV S) ∧
    Box wr bd 50 #[.slice (some ⟨g, 0, none⟩) 20 20, .slice none 0 0, .int .i64 (-1), .bool false] ∧ Box wr (bd + 1) 67 #[.int .i64 2, .int .i64 16, .int .i64 0, .int .i64 1] ∧ Below w0.heap.size w0 wr
theorem fgR_step {w0 wr wx : World} {g bd k : Nat} {S : List Bytes} {t : ByteArray} (hk : k < 20) (hk2 : k ≠ 2) (ht : t.size = 128) (h1 : S.length = 20) (h2 : LogP.Sized S) (h3 : S[2]? = some (noughts 128))
    (ho : wr.ownsRow w0.heap.size 9 1 (.slice (some ⟨g, 0, none⟩) 20 20) 20 (secV S)) (hd : Box wr bd 50 #[.slice (some ⟨g, 0, none⟩) 20 20, .slice none 0 0, .int .i64 (-1), .bool false]) (hf : Box wr (bd + 1) 67 #[.int .i64 2, .int .i64 16, .int .i64 0, .int .i64 1])
    (hb : Below w0.heap.size w0 wr) (hx : Below wr.heap.size wr wx) (hg : w0.heap.size ≤ g) (hgd : g < bd) : FgR w0 g bd (wx.setCell ⟨g, k, none⟩ (.string t)) := by
  have ho2 := own_below ho hx
  refine ⟨S.set k (oct t), by rw [List.length_set]; exact h1, fun s hs => ?_, by rw [List.getElem?_set_ne (by omega)]; exact h3, ?_, (hd.belowS hx).other (by simp; omega) _, (hf.belowS hx).other (by simp; omega) _, (hb.trans (hx.mono hb.size)).setCell hg _⟩
  · rcases List.mem_or_eq_of_mem_set hs with h | h
    · exact h2 s h
    · rw [h, oct_length]; exact ht
  · have := (ho2.stored k (.string t)).1
    rw [show (secV S).set k (.string t) = secV (S.set k (oct t)) by rw [← secV_set, mkB_oct]] at this
    exact this
theorem fgR_drew {w0 wr : World} {g bd : Nat} (h : FgR w0 g bd wr) : FgR w0 g bd wr.drew := by
  obtain ⟨S, h1, h2, h3, h4, h5, h6, h7⟩ := h
  exact ⟨S, h1, h2, h3, own_below h4 (Below.refl _ _).drew, h5.drew, h6.drew, h7.drew⟩
/-- what stands ahead of the second loop's round i -/
def FgS (w0 : World) (bd bx i : Nat) (all : Value) (wr : World) : Prop :=
  ∃ recs d x A c B m e, recs.length ≤ i ∧ i ≤ 6 ∧ Box wr bd 50 #[.slice A 20 c, .slice B m e, .int .i64 d.left, .bool d.dead] ∧ Box wr (bd + 1) 67 #[.int .i64 2, .int .i64 16, .int .i64 0, .int .i64 1] ∧
    Box wr bx 67 #[.int .i64 (x.frm : Nat), .int .i64 (x.len : Nat), .int .i64 (x.at_ : Nat), .int .i64 (x.seq : Nat)] ∧ Dk wr (fun k => k ≠ bd ∧ k ≠ bx ∧ all.ownBlock ≠ some k) A 20 c B m e d ∧
    Holds 20 d 2 16 0 1 recs x ∧ d.left = -1 ∧ wr.ownsRow (bx + 1) 9 1 all recs.length (secV recs) ∧ Below w0.heap.size w0 wr

theorem fgS_step {w0 wr wc w5 : World} {bd bx i c2 m2 e2 : Nat} {A2 B2 : Option Addr} {d' : Disk} {x l' : Log} {recs : List Bytes} {s : Bytes} {v v2 : Value} {dd2 : Bool} {vd : Array Value}
    (hs1 : w0.heap.size ≤ bd) (hdx : bd + 1 < bx) (hbw : Below w0.heap.size w0 wr) (hri : recs.length ≤ i) (hi : i + 1 ≤ 6) (hvd : vd.size = 4)
    (kd : Box wr bd 50 vd) (kf : Box wr (bd + 1) 67 #[.int .i64 2, .int .i64 16, .int .i64 0, .int .i64 1])
    (kx : Box wr bx 67 #[.int .i64 (x.frm : Nat), .int .i64 (x.len : Nat), .int .i64 (x.at_ : Nat), .int .i64 (x.seq : Nat)])
    (hown : wr.ownsRow (bx + 1) 9 1 v recs.length (secV recs)) (hbc : Below wr.heap.size wr wc)
    (hA : Apd wc w5 (bx + 1) 9 1 v v2 (recs.length + 1) (secV (recs ++ [s])))
    (hD2 : Dk wc (fun k => (k ≠ bd ∧ k ≠ bx ∧ v.ownBlock ≠ some k) ∧ k < wr.heap.size ∨ wr.heap.size ≤ k) A2 20 c2 B2 m2 e2 d') (hH' : Holds 20 d' 2 16 0 1 (recs ++ [s]) l') (hl' : d'.left = -1) (h2 : dd2 = d'.dead) :
    FgS w0 bd bx (i + 1) v2 ((((((((w5.setCell ⟨bd, 0, none⟩ (.slice A2 20 c2)).setCell ⟨bd, 1, none⟩ (.slice B2 m2 e2)).setCell ⟨bd, 2, none⟩ (.int .i64 (-1))).setCell ⟨bd, 3, none⟩ (.bool dd2)).setCell ⟨bx, 0, none⟩ (.int .i64 (l'.frm : Nat))).setCell ⟨bx, 1, none⟩ (.int .i64 (l'.len : Nat))).setCell ⟨bx, 2, none⟩ (.int .i64 (l'.at_ : Nat))).setCell ⟨bx, 3, none⟩ (.int .i64 (l'.seq : Nat))) := by
  have hownc := own_below hown hbc
  have hxl := kx.lt
  have hcs := hbc.size
  have hbw5 := hA.below hownc (Below.refl (bx + 1) wc) (Nat.le_refl _) (by omega)
  have hlt := hown.lt
  have kd5 := (kd.belowS hbc).below hbw5 (by omega)
  have kf5 := (kf.belowS hbc).below hbw5 (by omega)
  have kx5 := (kx.belowS hbc).below hbw5 (by omega)
  obtain ⟨a0, a1, a2, a3, rfl⟩ := four_of hvd
  have hD5 := hD2.lt'.keep hA.size fun b hb1 hb2 => hA.far hb2 fun e => by
    rcases hb1.1 with h | h
    · exact h.1.2.2 e
    · have := (hlt _ e).2; omega
  have hne : ∀ j, v2.ownBlock = some j → v.ownBlock = some j ∨ wc.heap.size ≤ j := fun j e => by
    rcases hA.at_ with h | ⟨g, h, hg⟩
    · exact .inl (h ▸ e)
    · rw [h] at e; injection e with e; exact .inr (by omega)
  have hD6 := hD5.mono (V' := fun k => k ≠ bd ∧ k ≠ bx ∧ v2.ownBlock ≠ some k) fun k hk => by
    rcases hk.1 with ⟨h, _⟩ | h
    · exact ⟨h.1, h.2.1, fun e => (hne k e).elim h.2.2 fun g => by have := hk.2; omega⟩
    · have := hk.2
      exact ⟨by omega, by omega, fun e => (hne k e).elim (fun g => by have := (hlt _ g).2; omega) fun g => by omega⟩
  refine ⟨recs ++ [s], d', l', A2, c2, B2, m2, e2, by simp; omega, hi, ?_, ?_, ?_, ?_, hH', hl', ?_, ?_⟩
  · rw [hl', ← h2]
    exact kd5.set4.far4 (by omega)
  · exact (kf5.far4 (by omega)).far4 (by omega)
  · exact (kx5.far4 (by omega)).set4
  · exact (hD6.set4 fun k hk => hk.1).set4 fun k hk => hk.2.1
  · rw [List.length_append, List.length_singleton]
    exact own_set4 (own_set4 hA.own (by omega) _ _ _ _) (by omega) _ _ _ _
  · exact (below_set4 (below_set4 ((hbw.trans (hbc.mono hbw.size)).trans (hbw5.mono (by omega))) hs1) (by omega))
theorem fgS_below {w0 wr wc : World} {bd bx i : Nat} {v : Value} (h : FgS w0 bd bx i v wr) (hb : Below wr.heap.size wr wc) : FgS w0 bd bx i v wc := by
  obtain ⟨recs, d, x, A, c, B, m, e, h1, h2, h3, h4, h5, h6, h7, h8, h9, h10⟩ := h
  exact ⟨recs, d, x, A, c, B, m, e, h1, h2, h3.belowS hb, h4.belowS hb, h5.belowS hb, h6.below hb, h7, h8, own_below h9 hb, h10.trans (hb.mono h10.size)⟩
theorem fgS_drew {w0 wr : World} {bd bx i : Nat} {v : Value} (h : FgS w0 bd bx i v wr) : FgS w0 bd bx i v wr.drew := by
  obtain ⟨recs, d, x, A, c, B, m, e, h1, h2, h3, h4, h5, h6, h7, h8, h9, h10⟩ := h
  exact ⟨recs, d, x, A, c, B, m, e, h1, h2, h3.drew, h4.drew, h5.drew, h6.below (Below.refl _ _).drew, h7, h8, own_below h9 (Below.refl _ _).drew, h10.drew⟩

set_option maxRecDepth 100000 in
set_option maxHeartbeats 12800000 in
theorem logForged_walk (A0 : Option Addr) (n0 c0 : Nat) (ss : List ByteArray) (A1 : Option Addr) (n1 c1 : Nat) (l1 : List UInt8) (w : World) (hs : Sl w (fun _ => True) 1 A0 n0 (strs ss)) (hn : n0 ≤ 9223372036854775807) (hz : ∀ s ∈ ss, s.size ≤ 9223372036854775807)
    (hn1 : n1 ≤ 9223372036854775807) (hs1 : Sl w (fun _ => True) 1 A1 n1 (bytesV l1)) :
    Calls Try.prog 9 #[.slice A0 n0 c0, .slice A1 n1 c1] w fun q w' => q = .returned (.bool true) ∧ Below w.heap.size w w' := by
  have HS0 := hide hs
  have HZ0 := hide hz
  have HS1 := hide hs1
  have HSO := hide (fun w1 => some_own 20 w1 (by decide) (by decide))
  clear hs hz hs1
  go_enter Try.func9, Try.ntmps9
  go_wp2_with fail
  refine (HSO.out _).mono ?_
  rintro q w1 ⟨g, rfl, ho, hb1⟩
  have kd := (Box.new w1 50 #[.slice (some ⟨g, 0, none⟩) 20 20, .slice none 0 0, .int .i64 (-1), .bool false]).up (.cells #[.int .i64 2, .int .i64 16, .int .i64 0, .int .i64 1] 67)
  have kf := Box.new (w1.alloc (.cells #[.slice (some ⟨g, 0, none⟩) 20 20, .slice none 0 0, .int .i64 (-1), .bool false] 50)) 67 #[.int .i64 2, .int .i64 16, .int .i64 0, .int .i64 1]
  rw [World.size_alloc] at kf
  have hs1 := hb1.size
  have hbA : Below w1.heap.size w1 ((w1.alloc (.cells #[.slice (some ⟨g, 0, none⟩) 20 20, .slice none 0 0, .int .i64 (-1), .bool false] 50)).alloc (.cells #[.int .i64 2, .int .i64 16, .int .i64 0, .int .i64 1] 67)) := ((Below.refl _ _).alloc (Nat.le_refl _) _).alloc (by simp) _
  have hgl := ho.lt g rfl
  obtain ⟨bd, hbd⟩ : ∃ bd, bd = w1.heap.size := ⟨_, rfl⟩
  rw [← hbd] at kd kf hs1 hgl
  have HN0 : Hid (FgR w g bd ((w1.alloc (.cells #[.slice (some ⟨g, 0, none⟩) 20 20, .slice none 0 0, .int .i64 (-1), .bool false] 50)).alloc (.cells #[.int .i64 2, .int .i64 16, .int .i64 0, .int .i64 1] 67))) :=
    ⟨(DiskP.new 20).S, by simp [DiskP.new], fun s hs => by simp only [DiskP.new, List.mem_replicate] at hs; rw [hs.2]; simp [noughts], by simp [DiskP.new], own_below ho hbA, kd, kf, hb1.trans (hbA.mono hb1.size)⟩
  have HBD := hide hbd
  have hg1 := hgl.1
  have hg2 := hgl.2
  clear ho kd kf hbA hbd hgl hb1 HSO
  go_upto_block 0 with (fail)
  rw [← HBD.out]
  go_cut [] from 7 to 55 (fun wc => FgR w g bd wc)
  case first =>
    go_wp2_with fail
    go_loopw [7] (fun iv wr => ∃ i : Nat, iv = .int .i64 i ∧ i ≤ 14 ∧ FgR w g bd wr) (fun iv _ => 14 - (intOf iv).toNat)
    case atStart => exact ⟨0, rfl, by omega, HN0.out⟩
    case round =>
      clear HN0 HBD
      obtain ⟨i, rfl, hi14, S, hS1, hS2, hS3, ho, kd, kf, hbr⟩ := hrel
      by_cases hgo : i < n0 ∧ i < 14
      · obtain ⟨h1, h2⟩ := hgo
        obtain ⟨aS, s, eA, es, hcS⟩ := (HS0.out.below hbr).str h1
        have hltS : (aS.add i).block < wr.heap.size := World.block_lt_of_cell? wr _ hcS
        have hfew := fun w2 => few18_any s w2 (HZ0.out s (List.mem_of_getElem? es))
        have hfz := few18_size s
        obtain ⟨fs, hfs⟩ : ∃ fs, fs = few18 s := ⟨_, rfl⟩
        rw [← hfs] at hfew hfz
        have HFEW := hide hfew
        have HO := hide ho
        have hni : (i : Int) < (n0 : Int) := by omega
        have d1 : decide (i < n0) = true := by simpa using h1
        have d2 : decide ((i : Int) < 14) = true := by simp; omega
        clear hfew hfs es ho
        subst eA
        go_wp2_with fail
        refine (HFEW.out _).mono ?_
        rintro r w3 ⟨rfl, rfl⟩
        go_upto_if 43 with (fail)
        go_cut [8] from 40 to 45 (fun sv wc => ∃ s : ByteArray, sv = .string s ∧ s.size ≤ 117 ∧ wc = wr)
        case first =>
          by_cases h117 : 117 < fs.size
          · have x1 : (117 : Int) < (fs.size : Int) := by omega
            have x2 : (117 : Int) ≤ (fs.size : Int) := by omega
            have hz : (fs.extract 0 117).size ≤ 117 := by rw [← oct_length, oct_extract]; simp; omega
            clear h117
            go_wp2_with fail
            go_meet
            exact ⟨_, rfl, hz, rfl⟩
          · have x1 : decide ((117 : Int) < (fs.size : Int)) = false := by simp; omega
            have hz : fs.size ≤ 117 := by omega
            clear h117
            go_wp2_with fail
            go_meet
            exact ⟨_, rfl, hz, rfl⟩
        case rest =>
          obtain ⟨sx, rfl, hsx, rfl⟩ := hcut
          obtain ⟨r, hr⟩ : ∃ r, r = i % 3 := ⟨_, rfl⟩
          have HLAY := hide (fun w2 => lay18_any (1 + (r : Int)) sx w2 hsx)
          have t1 : (i : Int).tmod 3 = (r : Int) := by rw [Int.tmod_eq_emod_of_nonneg (by omega), hr]; rfl
          have hr3 : r < 3 := by omega
          have t4 : ((3 : Int) + (i : Int)).toNat = 3 + i := by omega
          have t5 : (0 : Int) ≤ 3 + (i : Int) := by omega
          have t6 : (3 : Int) + (i : Int) < 20 := by omega
          have t2 : IntKind.i64.wrap (r : Int) = (r : Int) := IntWalk.i64_in _ (by omega)
          have t3 : IntKind.i64.wrap (1 + (r : Int)) = 1 + (r : Int) := IntWalk.i64_in _ (by omega)
          have t7 : IntKind.i64.wrap (3 + (i : Int)) = 3 + (i : Int) := IntWalk.i64_in _ (by omega)
          have hcd : ∀ ww, Below wc.heap.size wc ww → ww.cell? ⟨bd, 0, none⟩ = some (.slice (some ⟨g, 0, none⟩) 20 20) := fun ww hb => (kd.belowS hb).cellAt rfl
          have HCD := hide hcd
          have HT : Hid (Below w.heap.size w wc) := hbr
          have hst : ∀ ww (x : ByteArray), Below wc.heap.size wc ww → (ww.setCell ⟨g, 3 + i, none⟩ (.string x)).cell? ⟨bd, 0, none⟩ = some (.slice (some ⟨g, 0, none⟩) 20 20) := fun ww x hb => ((kd.belowS hb).other (by simp; omega) _).cellAt rfl
          have HST := hide hst
          have HKD := hide kd
          have HKF := hide kf
          clear hr hbr kd kf hcd hst hcS hltS HFEW hfz d1 d2
          go_wp2_with fail
          go_region_held3 (fun w' => w'.cell? ⟨bd, 0, none⟩ = some (.slice (some ⟨g, 0, none⟩) 20 20))
            (first | (with_reducible exact (HCD.out wc (Below.refl _ _))) | (with_reducible exact (HCD.out wc.drew (Below.refl _ _).drew)) | (with_reducible exact (HCD.out wx hbx)) | (with_reducible exact (HST.out wx t hbx)))
            (((with_reducible refine (HLAY.out _).mono ?_); rintro q wx ⟨t, rfl, hts, hbx⟩; have hbx := below_undrew hbx; have hox := own_below HO.out hbx; obtain ⟨u, kc⟩ : ∃ u, wx.cell? ⟨g, 3 + i, none⟩ = some u := ⟨_, (hox.cellAt (3 + i) (by omega)).trans (List.getElem?_eq_getElem (by rw [secV_length]; omega))⟩; have kfz := hox.frozenAt (3 + i)))
          have HFIN := hide (fgR_step (k := 3 + i) (by omega) (by omega) hts hS1 hS2 hS3 HO.out HKD.out HKF.out HT.out hbx hg1 hg2)
          clear hox kc kfz hbx hts HLAY HCD HST HO HKD HKF t1 t2 t3 t4 t5 t6 t7
          go_wp2_with fail
          go_roundw
          case rel => exact ⟨i + 1, by go_num, by omega, HFIN.out⟩
          case measure => simp [intOf]; omega
      · have HE : Hid (FgR w g bd wr) := ⟨S, hS1, hS2, hS3, ho, kd, kf, hbr⟩
        by_cases h1 : i < n0
        · have d1 : decide (i < n0) = true := by simpa using h1
          have d2 : decide ((i : Int) < 14) = false := by simp; omega
          clear hgo h1 hS1 hS2 hS3 ho kd kf hbr
          go_wp2_with fail
          go_meet
          exact HE.out
        · have d1 : decide (i < n0) = false := by simpa using h1
          clear hgo h1 hS1 hS2 hS3 ho kd kf hbr
          go_wp2_with fail
          go_meet
          exact HE.out
  case rest =>
    clear HN0 HS0 HZ0
    revert wc
    intro wL hcut
    obtain ⟨S, hS1, hS2, hS3, ho, kd, kf, hbr⟩ := hcut
    obtain ⟨d, hd⟩ : ∃ d : Disk, d = ⟨S, [], -1, false⟩ := ⟨_, rfl⟩
    have hmay : DiskP.may d = true := by
      rw [hd]
      exact (DiskP.may_iff _).2 ⟨by show 1 ≤ S.length; omega, by show S.length ≤ 4000; omega, by show (-1 : Int) ≤ -1; decide, hS2, by intro v hv; cases hv⟩
    have hH : Holds 20 d 2 16 0 1 [] ⟨2, 16, 0, 1⟩ := by
      have hsz : LogP.Sized d.S := by rw [hd]; exact hS2
      have hln : d.S.length = 20 := by rw [hd]; exact hS1
      refine ⟨⟨hmay, hln, by rw [hd]⟩, by rw [hd], ?_, rfl, by decide, by decide⟩
      refine LogP.has_none hsz (by rw [hln]; decide) (by omega) (by unfold LogP.maxSeq; omega) fun c hc => ?_
      have e : d.S[2]? = some (noughts 128) := by rw [hd]; exact hS3
      have hc2 : d.S[2]? = some c := hc
      rw [e] at hc2
      rw [← Option.some.inj hc2]
      decide
    have hDL : Dk wL (fun b => w.heap.size ≤ b ∧ b ≠ bd) (some ⟨g, 0, none⟩) 20 20 none 0 0 d := by
      refine ⟨?_, by rw [hd]; exact Sl.nil, by decide, by decide, Nat.le_refl _, Nat.le_refl _, by rw [hd]; show (-1 : Int) ≤ 9223372036854775807; decide⟩
      have e : d.S = S := by rw [hd]
      rw [e]
      have h := Sl.of_own ho
      exact ⟨h.1, fun hn => ⟨⟨g, 0, none⟩, rfl, ⟨hg1, by show g ≠ bd; omega⟩, (ho.lt g rfl).2, by
        obtain ⟨a, ea, _, _, hc⟩ := h.2 hn
        obtain rfl := Option.some.inj ea
        exact hc⟩⟩
    have hdl : d.left = -1 := by rw [hd]
    have hdd : d.dead = false := by rw [hd]
    obtain ⟨bx, hbx⟩ : ∃ bx, bx = wL.heap.size := ⟨_, rfl⟩
    have kx0 := Box.new wL 67 #[.int .i64 2, .int .i64 16, .int .i64 0, .int .i64 1]
    have hbX : Below wL.heap.size wL (wL.alloc (.cells #[.int .i64 2, .int .i64 16, .int .i64 0, .int .i64 1] 67)) := (Below.refl _ _).alloc (Nat.le_refl _) _
    have hbdx : bd + 1 < bx := by rw [hbx]; exact kf.lt
    have hDX := (hDL.lt'.below hbX).mono (V' := fun k => k ≠ bd ∧ k ≠ bx ∧ (Value.slice none 0 0).ownBlock ≠ some k) fun b h => ⟨h.1.2, by have := h.2; omega, by simp [Value.ownBlock]⟩
    have HM0 : Hid (FgS w bd bx 0 (.slice none 0 0) (wL.alloc (.cells #[.int .i64 2, .int .i64 16, .int .i64 0, .int .i64 1] 67))) :=
      ⟨[], d, ⟨2, 16, 0, 1⟩, some ⟨g, 0, none⟩, 20, none, 0, 0, Nat.le_refl _, by omega, by rw [hdl, hdd]; exact kd.belowS hbX, kf.belowS hbX, by rw [hbx]; exact kx0, hDX, hH, hdl, ⟨rfl, .inl ⟨rfl, rfl⟩⟩, hbr.trans (hbX.mono hbr.size)⟩
    have HBX := hide hbx
    have hwbd : w.heap.size ≤ bd := hs1
    obtain ⟨q0, q1, q2, q3⟩ := kf.cell4
    clear hS1 hS2 hS3 ho kd kf hbr hd hmay hH hDL hdl hdd hbx kx0 hbX hDX
    go_upto_block 2 with (fail)
    rw [← HBX.out]
    clear q0 q1 q2 q3 HBX
    go_cut [10] from 11 to 104 (fun all wc => ∃ i, FgS w bd bx i all wc)
    case first =>
      go_wp2_with fail
      go_loopw [10, 11] (fun all iv wr => ∃ i : Nat, iv = .int .i64 i ∧ FgS w bd bx i all wr) (fun _ iv _ => 6 - (intOf iv).toNat)
      case atStart => exact ⟨0, rfl, HM0.out⟩
      case round =>
        clear HM0
        obtain ⟨i, rfl, recs, d, x, A, c, B, m, e, hri, hi6, kd, kf, kx, hD, hH, hleft, hown, hbw⟩ := hrel
        by_cases hgo : i < n1 ∧ i < 6
        · obtain ⟨h1, h2⟩ := hgo
          obtain ⟨aS, kb, eA, hcS⟩ := u8_cell (HS1.out.below hbw) h1
          have hltS : (aS.add i).block < wr.heap.size := World.block_lt_of_cell? wr _ hcS
          obtain ⟨kv, hkv⟩ : ∃ kv, kv = kb.toNat := ⟨_, rfl⟩
          have hkv256 : kv < 256 := by rw [hkv]; exact UInt8.toNat_lt _
          rw [← hkv] at hcS
          obtain ⟨q3, hq3⟩ : ∃ q, q = kv % 3 := ⟨_, rfl⟩
          have hq33 : q3 < 3 := by omega
          have HALL : Hid (∀ w1, Calls Try.prog 38 #[.int .u8 120, .int .i64 1] w1 fun e w' => e = .returned (.string (reps 120 128)) ∧ Below w1.heap.size w1 w') := fun w1 => all17_any 120 1 128 w1 rfl (by decide)
          have hrs : (reps 120 128).size = 128 := reps_size _ _
          obtain ⟨rs, hrs'⟩ : ∃ rs, rs = reps 120 128 := ⟨_, rfl⟩
          rw [← hrs'] at HALL hrs
          obtain ⟨s0, hs0⟩ : ∃ s0, s0 = rs.extract 0 117 := ⟨_, rfl⟩
          have hs0z : s0.size = 117 := by rw [hs0, ← oct_length, oct_extract]; simp; omega
          have hxq := hH.log
          obtain ⟨sq, hsq⟩ : ∃ sq, sq = x.seq := ⟨_, rfl⟩
          have hsq7 : sq = 1 + recs.length := by rw [hsq, hxq]
          have HSQ := hide hsq
          have d1 : decide (i < n1) = true := by simpa using h1
          have d2 : decide ((i : Int) < 6) = true := by simp; omega
          have hni : (i : Int) < (n1 : Int) := by omega
          have HH := hide hH
          have HOWN := hide hown
          have HD := hide hD
          have HS0Z := hide hs0z
          have b117 : (117 : Int) ≤ (rs.size : Int) := by omega
          clear hkv hkv256 hrs' hxq hsq hH hown hD
          subst eA
          go_wp2_with fail
          refine (HALL.out _).mono ?_
          rintro r wA ⟨rfl, hbA⟩
          have HW3 : Hid ((kv : Int).tmod 3 = (q3 : Int) ∧ IntKind.u8.wrap (q3 : Int) = (q3 : Int)) := ⟨by rw [Int.tmod_eq_emod_of_nonneg (by omega), hq3]; rfl, by
            have : ∀ z : Fin 3, IntKind.u8.wrap ((z.val : Nat) : Int) = ((z.val : Nat) : Int) := by decide
            exact this ⟨q3, hq33⟩⟩
          have HCK : Hid (∀ ww, Below wr.heap.size wr ww → ww.cell? (aS.add i) = some (.int .u8 (kv : Nat)) ∧ ww.cell? ⟨bx, 3, none⟩ = some (.int .i64 (sq : Nat))) := fun ww hb => ⟨(hb.cell (p := aS.add i) hltS).trans hcS, by
            rw [HSQ.out]
            exact (kx.belowS hb).cellAt rfl⟩
          have HLAY := hide (fun (q : Int) w2 => lay18_any q ⟨#[102, 111, 114, 103, 101, 100]⟩ w2 (by decide))
          go_upto_block 4 with (fail)
          rw [← hs0]
          go_cut [12, 13] from 69 to 86 (fun sv _ wc => ∃ s : ByteArray, sv = .string s ∧ s.size ≤ 400 ∧ Below wr.heap.size wr wc)
          case first =>
            clear hs0 hcS hltS kd kf kx hrs b117 d1 d2
            go_wp2_with fail
            go_loopw [12, 13] (fun sv kv wc => ∃ s : ByteArray, ∃ k : Nat, sv = .string s ∧ kv = .int .i64 k ∧ k ≤ q3 ∧ s.size = 117 + 128 * k ∧ Below wr.heap.size wr wc) (fun _ kv _ => q3 - (intOf kv).toNat)
            case atStart => exact ⟨s0, 0, rfl, rfl, by omega, HS0Z.out, hbA⟩
            case round =>
              obtain ⟨s, k, rfl, rfl, hk, hsz, hbc⟩ := hrel
              obtain ⟨p0, p1⟩ := HCK.out _ hbc
              obtain ⟨y1, y2⟩ := HW3.out
              by_cases hlt : k < q3
              · have e1 : (k : Int) < (q3 : Int) := by omega
                have e2 : decide (k < q3) = true := by simpa using hlt
                have e3 : (sq : Int) ≤ 7 := by omega
                have e4 : (k : Int) < 3 := by omega
                go_wp2_with fail
                refine (HLAY.out _ _).mono ?_
                rintro r wB ⟨t, rfl, ht, hbB⟩
                have e5 : ¬ 9223372036854775807 < s.size + t.size := by omega
                have hz5 : (s ++ t).size = 117 + 128 * (k + 1) := by rw [ByteArray.size_append]; omega
                have hbD := hbc.trans (hbB.mono hbc.size)
                clear ht hsz hbB hbc hk
                go_wp2_with fail
                go_roundw
                case rel => exact ⟨_, k + 1, rfl, by go_num, by omega, hz5, hbD⟩
                case measure => simp [intOf]; omega
              · have e2 : decide (k < q3) = false := by simpa using hlt
                have hle : s.size ≤ 400 := by omega
                clear hsz hk
                go_wp2_with fail
                go_meet
                exact ⟨s, rfl, hle, hbc⟩
          case rest =>
            obtain ⟨s, rfl, hsz, hbc⟩ := hcut
            have kdc := kd.belowS hbc
            have kxc := kx.belowS hbc
            have hroom : 1 + recs.length ≤ LogP.maxSeq := by unfold LogP.maxSeq; omega
            have hlen := HD.out.wlen
            have hap := fun ww hD => append_any A 20 c B m e d (fun k => (k ≠ bd ∧ k ≠ bx ∧ u10.ownBlock ≠ some k) ∧ k < wr.heap.size) x s ww hD (HH.out.okL hroom) (by rw [HH.out.quiet] at hlen; simp at hlen; omega) (by omega)
            obtain ⟨dd, hdd⟩ : ∃ dd, dd = d.dead := ⟨_, rfl⟩
            rw [hleft, ← hdd] at hap kdc
            have HDC := hide (HD.out.lt'.below hbc)
            have HKD := hide kd
            have HKF := hide kf
            have HKX := hide kx
            obtain ⟨q0, q1, q2, q3'⟩ := kdc.cell4
            obtain ⟨r0, r1, r2, r3⟩ := kxc.cell4
            have hsl : (oct s).length ≤ 400 := by rw [oct_length]; exact hsz
            rcases HH.out.append hroom (oct s) with ⟨e0, _⟩ | ⟨_, _, e1⟩ | ⟨_, _, d', l', ev, e1, hev⟩
            · omega
            · have HAP : Hid (∀ ww, Dk ww (fun k => (k ≠ bd ∧ k ≠ bx ∧ u10.ownBlock ≠ some k) ∧ k < wr.heap.size) A 20 c B m e d → Calls Try.prog 45 #[.agg #[.slice A 20 c, .slice B m e, .int .i64 (-1), .bool dd], .agg #[.int .i64 (x.frm : Nat), .int .i64 (x.len : Nat), .int .i64 (x.at_ : Nat), .int .i64 (x.seq : Nat)], .string s] ww fun q w' =>
                  ∃ A2 n2 c2 B2 m2 e2, q = .returned (.tuple #[.agg #[.slice A2 n2 c2, .slice B2 m2 e2, .int .i64 0, .bool false], .agg #[.int .i64 0, .int .i64 0, .int .i64 0, .int .i64 0], .int .i64 13]) ∧ Below ww.heap.size ww w') := by
                intro ww hD
                have := hap ww hD
                rw [e1] at this
                refine this.mono ?_
                rintro q w' ⟨v, rfl, ⟨A2, n2, c2, B2, m2, e2, rfl, _⟩, hb⟩
                exact ⟨A2, n2, c2, B2, m2, e2, rfl, hb⟩
              have HE : Hid (FgS w bd bx (i + 1) u10 wr) := ⟨recs, d, x, A, c, B, m, e, by omega, by omega, HKD.out, HKF.out, HKX.out, HD.out, HH.out, hleft, HOWN.out, hbw⟩
              have HEB := hide hbw
              have HLEFT := hide hleft
              clear hap e1 hdd kdc kxc hroom hlen hsl hleft kd kf kx HCK HW3 HLAY
              go_wp2_with fail
              refine (HAP.out _ HDC.out).mono ?_
              rintro r w7 ⟨A2, n2, c2, B2, m2, e2, rfl, hb7⟩
              have hb8 := hbc.trans (hb7.mono hbc.size)
              have HB8 := hide hb8
              clear q0 q1 q2 q3' r0 r1 r2 r3 hb7 hb8
              go_wp2_with fail
              go_roundw
              case rel => exact ⟨i + 1, by go_num, fgS_below HE.out ((HB8.out.alloc HB8.out.size _).alloc (by rw [World.size_alloc]; exact Nat.le_succ_of_le HB8.out.size) _)⟩
              case measure => simp [intOf]; omega
            · rcases hev with ⟨rfl, hH', hleft'⟩ | ⟨_, h14, _⟩
              · obtain ⟨dd2, hdd2⟩ : ∃ dd2, dd2 = d'.dead := ⟨_, rfl⟩
                have hl' := hleft' hleft
                have HAP : Hid (∀ ww, Dk ww (fun k => (k ≠ bd ∧ k ≠ bx ∧ u10.ownBlock ≠ some k) ∧ k < wr.heap.size) A 20 c B m e d → Calls Try.prog 45 #[.agg #[.slice A 20 c, .slice B m e, .int .i64 (-1), .bool dd], .agg #[.int .i64 (x.frm : Nat), .int .i64 (x.len : Nat), .int .i64 (x.at_ : Nat), .int .i64 (x.seq : Nat)], .string s] ww fun q w' =>
                    ∃ A2 c2 B2 m2 e2, q = .returned (.tuple #[.agg #[.slice A2 20 c2, .slice B2 m2 e2, .int .i64 (-1), .bool dd2], .agg #[.int .i64 (l'.frm : Nat), .int .i64 (l'.len : Nat), .int .i64 (l'.at_ : Nat), .int .i64 (l'.seq : Nat)], .int .i64 0]) ∧ Dk w' (fun k => ((k ≠ bd ∧ k ≠ bx ∧ u10.ownBlock ≠ some k) ∧ k < wr.heap.size) ∨ ww.heap.size ≤ k) A2 20 c2 B2 m2 e2 d' ∧ Below ww.heap.size ww w') := by
                  intro ww hD
                  have := hap ww hD
                  rw [e1] at this
                  refine this.mono ?_
                  rintro q w' ⟨v, rfl, ⟨A2, n2, c2, B2, m2, e2, rfl, h2⟩, hb⟩
                  have h2' : Dk w' _ A2 n2 c2 B2 m2 e2 d' := h2
                  obtain rfl : n2 = 20 := by rw [← h2'.len, hH'.live.len]
                  exact ⟨A2, c2, B2, m2, e2, by rw [hdd2]; show Ending.returned (.tuple #[.agg #[_, _, .int .i64 d'.left, _], _, _]) = _; rw [hl']; rfl, h2', hb⟩
                have HDD2 := hide hdd2
                have HL' := hide hl'
                have HH' := hide hH'
                clear hap e1 hdd hroom hlen hsl hleft' hl' hH' hdd2 HCK HW3 HLAY kdc kxc
                go_wp2_with fail
                refine (HAP.out _ HDC.out).mono ?_
                rintro r w7 ⟨A2, c2, B2, m2, e2, rfl, hD7, hb7⟩
                clear q0 q1 q2 q3' r0 r1 r2 r3
                go_upto_region 26 with (fail)
                have k14 := (Box.new w7 50 #[.slice A2 20 c2, .slice B2 m2 e2, .int .i64 (-1), .bool dd2]).up (.cells #[.int .i64 (l'.frm : Nat), .int .i64 (l'.len : Nat), .int .i64 (l'.at_ : Nat), .int .i64 (l'.seq : Nat)] 67)
                have k15 := Box.new (w7.alloc (.cells #[.slice A2 20 c2, .slice B2 m2 e2, .int .i64 (-1), .bool dd2] 50)) 67 #[.int .i64 (l'.frm : Nat), .int .i64 (l'.len : Nat), .int .i64 (l'.at_ : Nat), .int .i64 (l'.seq : Nat)]
                rw [World.size_alloc] at k15
                have hb8 : Below w7.heap.size w7 ((w7.alloc (.cells #[.slice A2 20 c2, .slice B2 m2 e2, .int .i64 (-1), .bool dd2] 50)).alloc (.cells #[.int .i64 (l'.frm : Nat), .int .i64 (l'.len : Nat), .int .i64 (l'.at_ : Nat), .int .i64 (l'.seq : Nat)] 67)) := ((Below.refl _ _).alloc (Nat.le_refl _) _).alloc (by simp) _
                have hbc7 := hbc.trans (hb7.mono hbc.size)
                have hbE := hbc7.trans (hb8.mono hbc7.size)
                have hDE := (hD7.below hb8).mono (V' := fun k => (k ≠ bd ∧ k ≠ bx ∧ u10.ownBlock ≠ some k) ∧ k < wr.heap.size ∨ wr.heap.size ≤ k) fun k h => h.elim (fun h => .inl h) fun h => .inr (Nat.le_trans hbc.size h)
                obtain ⟨b7, hb7'⟩ : ∃ b, b = w7.heap.size := ⟨_, rfl⟩
                obtain ⟨wE, hwE⟩ : ∃ x, x = (w7.alloc (.cells #[.slice A2 20 c2, .slice B2 m2 e2, .int .i64 (-1), .bool dd2] 50)).alloc (.cells #[.int .i64 (l'.frm : Nat), .int .i64 (l'.len : Nat), .int .i64 (l'.at_ : Nat), .int .i64 (l'.seq : Nat)] 67) := ⟨_, rfl⟩
                have hr7 : wr.heap.size ≤ b7 := by rw [hb7']; exact hbc7.size
                rw [← hwE, ← hb7']
                rw [← hwE] at hbE hDE k14 k15
                rw [← hb7'] at k14 k15
                have hownc : wE.ownsRow (bx + 1) 9 1 u10 recs.length (strs (recs.map mkB)) := own_below HOWN.out hbE
                have hbase : bx + 1 ≤ wE.heap.size := by have h1 := kx.lt; have h2 := hbE.size; omega
                have hrl : recs.length ≤ 1000000000000 := by omega
                have hlt10 := HOWN.out.lt
                have HBE := hide hbE
                have HDE := hide hDE
                have kdE := kd.belowS hbE
                have kxE := kx.belowS hbE
                have hkbx := kx.lt
                clear hwE hb7' hD7 hb8 hbc7 hb7 hDE hbE
                go_wp2_with (at_builtin; refine wp_app_str rfl _ _ rfl (bx + 1) _ _ _ hownc rfl s rfl hrl hbase ?_; intro v2 w5 hA)
                have hA2 := hA
                rw [secV_snoc2] at hA2
                have HA := hide hA2
                have hbw5 := hA.below hownc (Below.refl (bx + 1) wE) (Nat.le_refl _) hbase
                have k145 := k14.at (hA.far k14.lt fun e => by have := (hlt10 _ e).2; omega)
                have k155 := k15.at (hA.far k15.lt fun e => by have := (hlt10 _ e).2; omega)
                have kd5 := kdE.below hbw5 (by omega)
                have kx5 := kxE.below hbw5 (by omega)
                have x1 : b7 ≠ bd := by omega
                have x2 : b7 ≠ bx := by omega
                have x3 : b7 + 1 ≠ bd := by omega
                have x4 : b7 + 1 ≠ bx := by omega
                have x5 : bd ≠ bx := by omega
                have x1' := x1.symm
                have x2' := x2.symm
                have x3' := x3.symm
                have x4' := x4.symm
                have x5' := x5.symm
                clear hA hA2 k14 k15 hownc kdE kxE
                obtain ⟨q0, q1, q2, q3'⟩ := k145.cell4
                obtain ⟨r0, r1, r2, r3⟩ := k155.cell4
                have f0 := kd5.frozen 0
                have f1 := kd5.frozen 1
                have f2 := kd5.frozen 2
                have f3 := kd5.frozen 3
                have g0 := kx5.frozen 0
                have g1 := kx5.frozen 1
                have g2 := kx5.frozen 2
                have g3 := kx5.frozen 3
                obtain ⟨y0, y1, y2, y3⟩ := kd5.cell4
                obtain ⟨z0, z1, z2, z3⟩ := kx5.cell4
                go_region_law (fail)
                all_goals go_wp2_with fail
                all_goals
                  go_roundw
                  case rel =>
                    exact ⟨i + 1, by go_num, fgS_drew (fgS_step hwbd hbdx hbw hri (by omega) rfl HKD.out HKF.out HKX.out HOWN.out HBE.out HA.out HDE.out HH'.out HL'.out HDD2.out)⟩
                  case measure => simp [intOf]; omega
              · exact absurd hleft h14
        · have HE : Hid (FgS w bd bx i _ wr) := ⟨recs, d, x, A, c, B, m, e, hri, hi6, kd, kf, kx, hD, hH, hleft, hown, hbw⟩
          by_cases h1 : i < n1
          · have d1 : decide (i < n1) = true := by simpa using h1
            have d2 : decide ((i : Int) < 6) = false := by simp; omega
            clear hgo h1 hri hi6 kd kf kx hD hH hleft hown hbw
            go_wp2_with fail
            go_meet
            exact ⟨i, HE.out⟩
          · have d1 : decide (i < n1) = false := by simpa using h1
            clear hgo h1 hri hi6 kd kf kx hD hH hleft hown hbw
            go_wp2_with fail
            go_meet
            exact ⟨i, HE.out⟩
    case rest =>
      clear HM0 HS1
      revert wc
      intro wM hcut
      obtain ⟨i, recs, d, x, A, c, B, m, e, hri, hi6, kd, kf, kx, hD, hH, hleft, hown, hbw⟩ := hcut
      obtain ⟨A9, c9, rfl⟩ := own_shape hown
      by_cases hk0 : recs = []
      · subst hk0
        clear kd kf kx hD hH hleft hown hri hi6
        go_wp2_with fail
        refine (awake18_any _).mono ?_
        rintro q w9 ⟨rfl, hb9⟩
        go_wp2_with fail
        go_ret
        exact ⟨rfl, hbw.trans (hb9.mono hbw.size)⟩
      · have hkp : 0 < recs.length := List.length_pos_iff.2 hk0
        have hsc := hH.scan
        have hok := hH.ok0 (by unfold LogP.maxSeq; omega)
        obtain ⟨k, hk⟩ : ∃ k, k = recs.length := ⟨_, rfl⟩
        obtain ⟨dd, hdd⟩ : ∃ dd, dd = d.dead := ⟨_, rfl⟩
        rw [hleft, ← hdd] at kd
        have HSC : Hid (∀ ww V', Dk ww V' A 20 c B m e d → Calls Try.prog 47 #[.agg #[.slice A 20 c, .slice B m e, .int .i64 (-1), .bool dd], .agg #[.int .i64 2, .int .i64 16, .int .i64 0, .int .i64 1]] ww fun q w' => ∃ A5 c5, q = .returned (.tuple #[.slice A5 k c5, .agg #[.int .i64 (x.frm : Nat), .int .i64 (x.len : Nat), .int .i64 (x.at_ : Nat), .int .i64 (x.seq : Nat)], .int .i64 0]) ∧ Sl w' (fun b => b < w'.heap.size) 1 A5 k (secV recs) ∧ Below ww.heap.size ww w') := by
          intro ww V' hD
          have := scan_any A 20 c B m e d V' ⟨2, 16, 0, 1⟩ ww hD hok
          rw [hsc, hleft, ← hdd] at this
          refine this.mono ?_
          rintro q w' ⟨v, rfl, ho, hb⟩
          unfold OwnT at ho
          simp only at ho
          rw [← hk] at ho
          obtain ⟨A5, c5, rfl⟩ := own_shape ho
          exact ⟨A5, c5, rfl, (Sl.of_own ho).lt, hb⟩
        rw [← hk] at hown hkp ⊢
        have HS9 := hide (Sl.of_own hown)
        have HD := hide hD
        have hkz : decide (k = 0) = false := by simp; omega
        have hkz0 : ((k : Int) == 0) = false := by simp; omega
        have hk1 : k ≤ 6 := by omega
        clear hk hk0 hsc hok hdd hleft hown hD hH hri hi6
        obtain ⟨q0, q1, q2, q3⟩ := kd.cell4
        obtain ⟨r0, r1, r2, r3⟩ := kf.cell4
        go_wp2_with fail
        refine (HSC.out _ _ HD.out).mono ?_
        rintro q w5 ⟨A5, c5, rfl, hs5, hb5⟩
        have kx5 := kx.belowS hb5
        have kZ := Box.new w5 67 #[.int .i64 (x.frm : Nat), .int .i64 (x.len : Nat), .int .i64 (x.at_ : Nat), .int .i64 (x.seq : Nat)]
        have hbZ : Below w5.heap.size w5 (w5.alloc (.cells #[.int .i64 (x.frm : Nat), .int .i64 (x.len : Nat), .int .i64 (x.at_ : Nat), .int .i64 (x.seq : Nat)] 67)) := (Below.refl _ _).alloc (Nat.le_refl _) _
        have HS5 := hide (hs5.below hbZ)
        have HS95 := hide ((HS9.out.below hb5).below hbZ)
        have kxZ := kx5.belowS hbZ
        have hbw5 := hbw.trans (hb5.mono hbw.size)
        have hbwZ := hbw5.trans (hbZ.mono hbw5.size)
        obtain ⟨bZ, hbZ'⟩ : ∃ b, b = w5.heap.size := ⟨_, rfl⟩
        obtain ⟨wZ, hwZ⟩ : ∃ y, y = w5.alloc (.cells #[.int .i64 (x.frm : Nat), .int .i64 (x.len : Nat), .int .i64 (x.at_ : Nat), .int .i64 (x.seq : Nat)] 67) := ⟨_, rfl⟩
        rw [← hwZ] at kZ hbwZ HS5 HS95 kxZ
        rw [← hbZ'] at kZ
        have HWZ := hide hwZ
        have HBZ := hide hbZ'
        clear q0 q1 q2 q3 r0 r1 r2 r3 hwZ hbZ' hbZ kx5 hs5 hb5 kd kf kx HS9 HD HSC
        go_upto_region 31 with (fail)
        rw [← HWZ.out, ← HBZ.out]
        clear HWZ HBZ
        have HSM : Hid (Calls Try.prog 21 #[.slice A5 k c5, .slice A9 k c9] wZ fun q w' => q = .returned (.bool true) ∧ ∃ q, w' = wZ.drewN q) := by
          have := same_any A5 A9 k k c5 c9 (recs.map mkB) (recs.map mkB) _ _ wZ HS5.out HS95.out (by omega)
          refine hide ?_
          simpa using this
        obtain ⟨q0, q1, q2, q3⟩ := kZ.cell4
        obtain ⟨r0, r1, r2, r3⟩ := kxZ.cell4
        go_wp2_with fail
        refine HSM.out.mono ?_
        rintro q w' ⟨rfl, nq, rfl⟩
        have hbwN := below_drewN hbwZ nq
        go_wp2_with fail
        refine (awake18_any _).mono ?_
        rintro q w9 ⟨rfl, hb9⟩
        go_wp2_with fail
        go_ret
        exact ⟨rfl, hbwN.trans (hb9.mono hbwN.size)⟩
end Go.Proofs.Yteoiadfcchalfaa
