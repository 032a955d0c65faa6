/- The walk of LogNumbers. (printed by gennum.py) -/
import Derived.Test.YteoiadfcchalfaaLogL
import Derived.Deep.DeepCutAuto
import Derived.Deep.CutBlock
namespace Go.Proofs.Yteoiadfcchalfaa
open Go.RowKit
open DiskP (Bytes Disk Wr Fate noughts)
open LogP (Log zeroL Live okL Holds)
set_option linter.unusedVariables false

def Fc.sl (k : Nat) : Fc := ⟨fun v _ => ∃ A c, v = .slice A k c, fun _ _ _ _ h => h⟩
/-- what stands ahead of the first loop's round i -/
def NumR (w0 : World) (bd i : Nat) (all : Value) (wr : World) : Prop :=
  ∃ recs d x A n c B m e, recs.length ≤ i ∧ i ≤ 9 ∧ LBox wr (fun k => w0.heap.size ≤ k ∧ k ≠ bd ∧ k ≠ bd + 1 ∧ all.ownBlock ≠ some k) bd A n c B m e d x ∧ Holds 20 d 2 16 0 500 recs x ∧ d.left = -1 ∧ wr.ownsRow (bd + 2) 67 4 all recs.length (logsV (startsL 2 16 0 500 recs recs.length)) ∧ Below w0.heap.size w0 wr

theorem numR_step {w0 wr wc w5 : World} {bd i n c m e n2 c2 m2 e2 b7 b8 : Nat} {A B A2 B2 : Option Addr} {d d' : Disk} {x l' : Log} {recs : List Bytes} {s : Bytes} {v v2 : Value} {lf2 : Int} {dd2 : Bool} {V : Nat → Prop}
    (hs1 : w0.heap.size ≤ bd) (hbw : Below w0.heap.size w0 wr) (hri : recs.length ≤ i) (hi : i + 1 ≤ 9) (kL : LBox wr V bd A n c B m e d x) (hV : V = fun k => w0.heap.size ≤ k ∧ k ≠ bd ∧ k ≠ bd + 1 ∧ v.ownBlock ≠ some k)
    (hown : wr.ownsRow (bd + 2) 67 4 v recs.length (logsV (startsL 2 16 0 500 recs recs.length))) (hbc : Below wr.heap.size wr wc)
    (hA : Apd wc w5 (bd + 2) 67 4 v v2 (recs.length + 1) (logsV (startsL 2 16 0 500 recs recs.length) ++ [.int .i64 (x.frm : Nat), .int .i64 (x.len : Nat), .int .i64 (x.at_ : Nat), .int .i64 (x.seq : Nat)]))
    (hD2 : Dk wc (fun k => (V k ∧ k < wr.heap.size ∨ wr.heap.size ≤ k) ∧ k ≠ b7 ∧ k ≠ b8) A2 n2 c2 B2 m2 e2 d') (hH' : Holds 20 d' 2 16 0 500 (recs ++ [s]) l') (hl' : d'.left = -1) (h1 : lf2 = d'.left) (h2 : dd2 = d'.dead) (hH : Holds 20 d 2 16 0 500 recs x) :
    NumR w0 bd (i + 1) v2 ((((((((w5.setCell ⟨bd, 0, none⟩ (.slice A2 n2 c2)).setCell ⟨bd, 1, none⟩ (.slice B2 m2 e2)).setCell ⟨bd, 2, none⟩ (.int .i64 lf2)).setCell ⟨bd, 3, none⟩ (.bool dd2)).setCell ⟨bd + 1, 0, none⟩ (.int .i64 (l'.frm : Nat))).setCell ⟨bd + 1, 1, none⟩ (.int .i64 (l'.len : Nat))).setCell ⟨bd + 1, 2, none⟩ (.int .i64 (l'.at_ : Nat))).setCell ⟨bd + 1, 3, none⟩ (.int .i64 (l'.seq : Nat))) := by
  subst hV
  have hownc := own_below hown hbc
  have hxl := kL.bx.lt
  have hcs := hbc.size
  have hbw5 := hA.below hownc (Below.refl (bd + 2) wc) (Nat.le_refl _) (by omega)
  have hlt := hown.lt
  have kd5 := (kL.bd.belowS hbc).below hbw5 (by omega)
  have kx5 := (kL.bx.belowS hbc).below hbw5 (by omega)
  have hD5 := hD2.lt'.keep hA.size fun b hb1 hb2 => hA.far hb2 fun e => by
    rcases hb1.1.1 with h | h
    · exact h.1.2.2.2 e
    · have := (hlt _ e).2; omega
  have hne : ∀ j, v2.ownBlock = some j → v.ownBlock = some j ∨ wc.heap.size ≤ j := fun j e => by
    rcases hA.at_ with h | ⟨g, h, hg⟩
    · exact .inl (h ▸ e)
    · rw [h] at e; injection e with e; exact .inr (by omega)
  refine ⟨recs ++ [s], d', l', A2, n2, c2, B2, m2, e2, by simp; omega, hi, ?_, hH', hl', ?_, ?_⟩
  · refine (LBox.put (x := l') rfl rfl kd5 kx5 (hD5.mono fun k hk => ?_) (fun k hk => ⟨hk.2.1, hk.2.2.1⟩) h1 h2)
    rcases hk.1.1 with ⟨h, _⟩ | h
    · exact ⟨h.1, h.2.1, h.2.2.1, fun e => (hne k e).elim h.2.2.2 fun g => by have := hk.2; omega⟩
    · have := hk.2
      exact ⟨by omega, by omega, by omega, fun e => (hne k e).elim (fun g => by have := (hlt _ g).2; omega) fun g => by omega⟩
  · have e4 : logsV (startsL 2 16 0 500 (recs ++ [s]) (recs ++ [s]).length) = logsV (startsL 2 16 0 500 recs recs.length) ++ [.int .i64 (x.frm : Nat), .int .i64 (x.len : Nat), .int .i64 (x.at_ : Nat), .int .i64 (x.seq : Nat)] := by
      rw [List.length_append, List.length_singleton, ← startsL_snoc s hH, logsV_append]; rfl
    rw [e4, List.length_append, List.length_singleton]
    exact own_set4 (own_set4 hA.own (by omega) _ _ _ _) (by omega) _ _ _ _
  · exact (below_set4 (below_set4 ((hbw.trans (hbc.mono hbw.size)).trans (hbw5.mono (by omega))) hs1) (by omega))
theorem numR_drew {w0 wr : World} {bd i : Nat} {v : Value} (h : NumR w0 bd i v wr) : NumR w0 bd i v wr.drew := by
  obtain ⟨recs, d, x, A, n, c, B, m, e, h1, h2, h3, h4, h5, h6, h7⟩ := h
  exact ⟨recs, d, x, A, n, c, B, m, e, h1, h2, h3.below (Below.refl _ _).drew, h4, h5, own_below h6 (Below.refl _ _).drew, h7.drew⟩

set_option maxRecDepth 100000 in
set_option maxHeartbeats 3200000 in
theorem logNumbers_walk (A0 : Option Addr) (n0 c0 : Nat) (ss : List ByteArray) (by_ : Int) (at_ : Nat) (w : World) (hs : Sl w (fun _ => True) 1 A0 n0 (strs ss)) (hn : n0 ≤ 9223372036854775807) (hz : ∀ s ∈ ss, s.size ≤ 9223372036854775807) (hby : -128 ≤ by_) (hby2 : by_ ≤ 127) (hat : at_ ≤ 255) :
    Calls Try.prog 11 #[.slice A0 n0 c0, .int .i8 by_, .int .u8 at_] w fun q w' => q = .returned (.bool true) ∧ Below w.heap.size w w' := by
  have HSO := hide (fun w1 => some_any 20 w1 (by decide) (by decide))
  have HZ := hide hz
  have HS := hide hs
  clear hz hs
  go_enter Try.func11, Try.ntmps11
  go_wp2_with fail
  refine (HSO.out _).mono ?_
  rintro q w1 ⟨v, rfl, ⟨A, n, c, B, m, e, rfl, hD⟩, hb1⟩
  have hh := LogP.holds_new (n := 20) (frm := 2) (len := 16) (q := 500) (by decide) (by decide) (by decide) (by decide) (by decide) (by decide)
  obtain ⟨d, hd⟩ : ∃ d, d = DiskP.new 20 := ⟨_, rfl⟩
  have hleft : d.left = -1 := by rw [hd]; rfl
  rw [← hd] at hh hD ⊢
  obtain ⟨lf, hlf⟩ : ∃ lf, lf = d.left := ⟨_, rfl⟩
  obtain ⟨dd, hdd⟩ : ∃ dd, dd = d.dead := ⟨_, rfl⟩
  rw [← hlf, ← hdd]
  have HLF := hide hlf
  have HDD := hide hdd
  have HL1 := hide hleft
  have HH := hide hh
  have HD := hide hD
  have hs1 := hb1.size
  clear hd hh hD hleft hlf hdd HSO
  have kd := (Box.new w1 50 #[.slice A n c, .slice B m e, .int .i64 lf, .bool dd]).up (.cells #[.int .i64 2, .int .i64 16, .int .i64 0, .int .i64 500] 67)
  have kx := Box.new (w1.alloc (.cells #[.slice A n c, .slice B m e, .int .i64 lf, .bool dd] 50)) 67 #[.int .i64 2, .int .i64 16, .int .i64 0, .int .i64 500]
  rw [World.size_alloc] at kx
  have hbA : Below w1.heap.size w1 ((w1.alloc (.cells #[.slice A n c, .slice B m e, .int .i64 lf, .bool dd] 50)).alloc (.cells #[.int .i64 2, .int .i64 16, .int .i64 0, .int .i64 500] 67)) := ((Below.refl _ _).alloc (Nat.le_refl _) _).alloc (by simp) _
  have hbw := hb1.trans (hbA.mono hs1)
  have hDA := (HD.out.lt'.below hbA).mono (V' := fun k => w.heap.size ≤ k ∧ k ≠ w1.heap.size ∧ k ≠ w1.heap.size + 1 ∧ (Value.slice none 0 0).ownBlock ≠ some k) fun k hk => ⟨hk.1, by omega, by omega, by simp [Value.ownBlock]⟩
  have HN0 : Hid (NumR w w1.heap.size 0 (.slice none 0 0) ((w1.alloc (.cells #[.slice A n c, .slice B m e, .int .i64 lf, .bool dd] 50)).alloc (.cells #[.int .i64 2, .int .i64 16, .int .i64 0, .int .i64 500] 67))) :=
    ⟨[], d, ⟨2, 16, 0, 500⟩, A, n, c, B, m, e, Nat.le_refl _, by omega, ⟨by rw [← HLF.out, ← HDD.out]; exact kd, kx, hDA⟩, HH.out, HL1.out, ⟨rfl, .inl ⟨rfl, rfl⟩⟩, hbw⟩
  obtain ⟨bd, hbd⟩ : ∃ bd, bd = w1.heap.size := ⟨_, rfl⟩
  rw [← hbd] at HN0 hs1
  have HBD := hide hbd
  clear kd kx hbA hbw hDA HD HH HLF HDD HL1
  go_upto_block 0 with (fail)
  rw [← HBD.out]
  clear hbd
  go_cut [9] from 10 to 55 (fun all wc => ∃ i, NumR w bd i all wc)
  case first =>
    go_wp2_with fail
    go_loopw [9, 10] (fun all iv wr => ∃ i : Nat, iv = .int .i64 i ∧ NumR w bd i all wr) (fun _ iv _ => 9 - (intOf iv).toNat)
    case atStart => exact ⟨0, rfl, HN0.out⟩
    case round =>
      clear HN0 HBD
      obtain ⟨i, rfl, recs, d, x, A, n, c, B, m, e, hri, hi9, kL, hH, hleft, hown, hbw⟩ := hrel
      by_cases hgo : i < n0 ∧ i < 9
      · obtain ⟨h1, h2⟩ := hgo
        obtain ⟨aS, s, eA, es, hcS⟩ := (HS.out.below hbw).str h1
        have hltS : (aS.add i).block < wr.heap.size := World.block_lt_of_cell? wr _ hcS
        have hfew := fun w2 => few18_any s w2 (HZ.out s (List.mem_of_getElem? es))
        have hfz := few18_size s
        obtain ⟨fs, hfs⟩ : ∃ fs, fs = few18 s := ⟨_, rfl⟩
        rw [← hfs] at hfew hfz
        obtain ⟨V, hV⟩ : ∃ V : Nat → Prop, V = fun k => w.heap.size ≤ k ∧ k ≠ bd ∧ k ≠ bd + 1 ∧ u9.ownBlock ≠ some k := ⟨_, rfl⟩
        rw [← hV] at kL
        have hap := fun ww hD => append_any A n c B m e d (fun b => V b ∧ b < wr.heap.size) x fs ww hD (hH.okL (by unfold LogP.maxSeq; omega)) (by have := kL.dk.wlen; rw [hH.quiet] at this; simp at this; omega) (by omega)
        obtain ⟨RR, hRR⟩ : ∃ RR, RR = LogP.appendP d x (oct fs) := ⟨_, rfl⟩
        rw [← hRR] at hap
        obtain ⟨lf, hlf⟩ : ∃ lf, lf = d.left := ⟨_, rfl⟩
        obtain ⟨dd, hdd⟩ : ∃ dd, dd = d.dead := ⟨_, rfl⟩
        have kbd := kL.bd
        have kbx := kL.bx
        have HDK := hide kL.dk
        have HKL := hide kL
        rw [← hlf, ← hdd] at kbd hap
        have HA := hide eA
        have HFEW := hide hfew
        have HAP : Hid (∀ ww, Dk ww (fun b => V b ∧ b < wr.heap.size) A n c B m e d → Calls Try.prog 45 #[dkv A n c B m e lf dd, .agg #[.int .i64 (x.frm : Nat), .int .i64 (x.len : Nat), .int .i64 (x.at_ : Nat), .int .i64 (x.seq : Nat)], .string fs] ww fun q w' => ∃ v, q = .returned (.tuple #[v, lgv RR.2.1, .int .i64 (RR.2.2 : Nat)]) ∧ DkV w' (fun b => (V b ∧ b < wr.heap.size) ∨ ww.heap.size ≤ b) v RR.1 ∧ Below ww.heap.size ww w') := hap
        have HRR := hide hRR
        have HH := hide hH
        have HLEFT := hide hleft
        have HOWN := hide hown
        have HV := hide hV
        have HLF := hide hlf
        have d1 : decide (i < n0) = true := by simpa using h1
        have d2 : decide ((i : Int) < 9) = true := by simp; omega
        have hni : (i : Int) < (n0 : Int) := by omega
        clear eA hfew hap hRR hH hleft hown hV hlf hdd hfs kL es
        go_upto_region 7 with (fail)
        go_cut [11, 12, 13] from 36 to 47 (fun p q e wc => AppEnd V wr RR p q e wc)
        case first =>
          have hDK := HDK
          refine wp_region_noPanic ?_
          refine RegS.region (ds := [37, 38, 39, 40, 41, 42, 43, 44, 36, 45, 46, 47, 11, 12]) (pure := [8, 9, 10, 11]) (fresh := [12, 13])
            (G := Gs [.is (dkv A n c B m e lf dd), .is (.agg #[.int .i64 (x.frm : Nat), .int .i64 (x.len : Nat), .int .i64 (x.at_ : Nat), .int .i64 (x.seq : Nat)]), .is (.slice A0 n0 c0), .is (.int .i64 (i : Nat)), .is (.pointer (some (aS.add i))), .is (.string s), .is (.string fs), .three (.dk (fun b => V b ∧ b < wr.heap.size ∨ wr.heap.size ≤ b) RR.1) (lgv RR.2.1) (.int .i64 (RR.2.2 : Nat)), .three (.dk (fun b => V b ∧ b < wr.heap.size ∨ wr.heap.size ≤ b) RR.1) (lgv RR.2.1) (.int .i64 (RR.2.2 : Nat)), .dk (fun b => V b ∧ b < wr.heap.size ∨ wr.heap.size ≤ b) RR.1, .is (lgv RR.2.1), .is (.int .i64 (RR.2.2 : Nat)), .box wr.heap.size 50 #[.slice none 0 0, .slice none 0 0, .int .i64 0, .bool false], .box wr.heap.size 67 #[.int .i64 0, .int .i64 0, .int .i64 0, .int .i64 0]])
            rfl (by kernel_rfl) (by kernel_rfl) ⟨by kernel_rfl, by kernel_rfl, fun i _ v w w' => gs_keep _ i v w w', ?quiet, ?step⟩ (fun _ _ _ _ _ h => h) ?tail
          case quiet =>
            intro i o hi hp ho u ww hd
            obtain rfl | rfl | rfl | rfl : i = 8 ∨ i = 9 ∨ i = 10 ∨ i = 11 := by simp at hp; omega
            · simp only [List.getElem?_toArray, List.getElem?_cons_succ, List.getElem?_cons_zero, Option.some.injEq] at ho
              subst ho
              simp only [RegS.putAll, List.length_cons, List.length_nil, Nat.reduceAdd, List.getD_cons_zero, List.getD_cons_succ, Act.put, List.setIfInBounds_toArray, List.set_cons_zero, List.set_cons_succ]
              exact ⟨_, fun _ => rfl, hd 7 (by decide) (by rfl)⟩
            · simp only [List.getElem?_toArray, List.getElem?_cons_succ, List.getElem?_cons_zero, Option.some.injEq] at ho
              subst ho
              simp only [RegS.putAll, List.length_cons, List.length_nil, Nat.reduceAdd, List.getD_cons_zero, List.getD_cons_succ, Act.put, List.setIfInBounds_toArray, List.set_cons_zero, List.set_cons_succ]
              obtain ⟨x, e, h⟩ := hd 8 (by decide) (by rfl)
              rw [e]
              exact ⟨_, fun _ => rfl, h⟩
            · simp only [List.getElem?_toArray, List.getElem?_cons_succ, List.getElem?_cons_zero, Option.some.injEq] at ho
              subst ho
              simp only [RegS.putAll, List.length_cons, List.length_nil, Nat.reduceAdd, List.getD_cons_zero, List.getD_cons_succ, Act.put, List.setIfInBounds_toArray, List.set_cons_zero, List.set_cons_succ]
              obtain ⟨x, e, h⟩ := hd 8 (by decide) (by rfl)
              rw [e]
              exact ⟨_, fun _ => rfl, rfl⟩
            · simp only [List.getElem?_toArray, List.getElem?_cons_succ, List.getElem?_cons_zero, Option.some.injEq] at ho
              subst ho
              simp only [RegS.putAll, List.length_cons, List.length_nil, Nat.reduceAdd, List.getD_cons_zero, List.getD_cons_succ, Act.put, List.setIfInBounds_toArray, List.set_cons_zero, List.set_cons_succ]
              obtain ⟨x, e, h⟩ := hd 8 (by decide) (by rfl)
              rw [e]
              exact ⟨_, fun _ => rfl, rfl⟩
          case step =>
            intro i o hi hp ho u ww hb hd K hK
            obtain rfl | rfl | rfl | rfl | rfl | rfl | rfl | rfl | rfl | rfl : i = 0 ∨ i = 1 ∨ i = 2 ∨ i = 3 ∨ i = 4 ∨ i = 5 ∨ i = 6 ∨ i = 7 ∨ i = 12 ∨ i = 13 := by simp at hp hi; omega
            · simp only [List.getElem?_toArray, List.getElem?_cons_zero, Option.some.injEq] at ho
              subst ho
              simp only [RegS.putAll, List.length_cons, List.length_nil, Nat.reduceAdd, List.getD_cons_zero, List.getD_cons_succ, Act.put, List.setIfInBounds_toArray, List.set_cons_zero, List.set_cons_succ]
              obtain ⟨q0, q1, q2, q3⟩ := (kbd.belowS hb).cell4
              go_simp
              exact hK _ _ rfl (Below.refl _ _) rfl (fun h => absurd h (by decide))
            · simp only [List.getElem?_toArray, List.getElem?_cons_succ, List.getElem?_cons_zero, Option.some.injEq] at ho
              subst ho
              simp only [RegS.putAll, List.length_cons, List.length_nil, Nat.reduceAdd, List.getD_cons_zero, List.getD_cons_succ, Act.put, List.setIfInBounds_toArray, List.set_cons_zero, List.set_cons_succ]
              obtain ⟨q0, q1, q2, q3⟩ := (kbx.belowS hb).cell4
              go_simp
              exact hK _ _ rfl (Below.refl _ _) rfl (fun h => absurd h (by decide))
            · simp only [List.getElem?_toArray, List.getElem?_cons_succ, List.getElem?_cons_zero, Option.some.injEq] at ho
              subst ho
              simp only [RegS.putAll, List.length_cons, List.length_nil, Nat.reduceAdd, List.getD_cons_zero, List.getD_cons_succ, Act.put, List.setIfInBounds_toArray, List.set_cons_zero, List.set_cons_succ]
              go_simp
              exact hK _ _ rfl (Below.refl _ _) rfl (fun h => absurd h (by decide))
            · simp only [List.getElem?_toArray, List.getElem?_cons_succ, List.getElem?_cons_zero, Option.some.injEq] at ho
              subst ho
              simp only [RegS.putAll, List.length_cons, List.length_nil, Nat.reduceAdd, List.getD_cons_zero, List.getD_cons_succ, Act.put, List.setIfInBounds_toArray, List.set_cons_zero, List.set_cons_succ]
              go_simp
              exact hK _ _ rfl (Below.refl _ _) rfl (fun h => absurd h (by decide))
            · simp only [List.getElem?_toArray, List.getElem?_cons_succ, List.getElem?_cons_zero, Option.some.injEq] at ho
              subst ho
              simp only [RegS.putAll, List.length_cons, List.length_nil, Nat.reduceAdd, List.getD_cons_zero, List.getD_cons_succ, Act.put, List.setIfInBounds_toArray, List.set_cons_zero, List.set_cons_succ]
              have e2 : u 2 = .slice A0 n0 c0 := hd 2 (by decide) (by rfl)
              have e3 : u 3 = .int .i64 (i : Nat) := hd 3 (by decide) (by rfl)
              have eA := HA.out
              go_simp
              exact hK _ _ rfl (Below.refl _ _) rfl (fun h => absurd h (by decide))
            · simp only [List.getElem?_toArray, List.getElem?_cons_succ, List.getElem?_cons_zero, Option.some.injEq] at ho
              subst ho
              simp only [RegS.putAll, List.length_cons, List.length_nil, Nat.reduceAdd, List.getD_cons_zero, List.getD_cons_succ, Act.put, List.setIfInBounds_toArray, List.set_cons_zero, List.set_cons_succ]
              have e4 : u 4 = .pointer (some (aS.add i)) := hd 4 (by decide) (by rfl)
              have hcs := (hb.cell (p := aS.add i) hltS).trans hcS
              go_simp
              exact hK _ _ rfl (Below.refl _ _) rfl (fun h => absurd h (by decide))
            · simp only [List.getElem?_toArray, List.getElem?_cons_succ, List.getElem?_cons_zero, Option.some.injEq] at ho
              subst ho
              simp only [RegS.putAll, List.length_cons, List.length_nil, Nat.reduceAdd, List.getD_cons_zero, List.getD_cons_succ, Act.put, List.setIfInBounds_toArray, List.set_cons_zero, List.set_cons_succ]
              have e5 : u 5 = .string s := hd 5 (by decide) (by rfl)
              go_simp
              refine (HFEW.out _).mono ?_
              rintro r w3 ⟨rfl, rfl⟩
              exact hK _ _ rfl (Below.refl _ _) rfl (fun h => absurd h (by decide))
            · simp only [List.getElem?_toArray, List.getElem?_cons_succ, List.getElem?_cons_zero, Option.some.injEq] at ho
              subst ho
              simp only [RegS.putAll, List.length_cons, List.length_nil, Nat.reduceAdd, List.getD_cons_zero, List.getD_cons_succ, Act.put, List.setIfInBounds_toArray, List.set_cons_zero, List.set_cons_succ]
              have e0 : u 0 = dkv A n c B m e lf dd := hd 0 (by decide) (by rfl)
              have e1 : u 1 = (.agg #[.int .i64 (x.frm : Nat), .int .i64 (x.len : Nat), .int .i64 (x.at_ : Nat), .int .i64 (x.seq : Nat)]) := hd 1 (by decide) (by rfl)
              have e6 : u 6 = .string fs := hd 6 (by decide) (by rfl)
              go_simp
              refine (HAP.out ww (hDK.out.lt'.below hb)).mono ?_
              rintro r w3 ⟨v, rfl, hv, hb3⟩
              exact hK _ _ rfl hb3 ⟨_, rfl, hv.mono fun b h => h.elim (fun h => .inl h) fun h => .inr (Nat.le_trans hb.size h)⟩ (fun h => absurd h (by decide))
            · simp only [List.getElem?_toArray, List.getElem?_cons_succ, List.getElem?_cons_zero, Option.some.injEq] at ho
              subst ho
              simp only [RegS.putAll, List.length_cons, List.length_nil, Nat.reduceAdd, List.getD_cons_zero, List.getD_cons_succ, Act.put, List.setIfInBounds_toArray, List.set_cons_zero, List.set_cons_succ]
              go_simp
              exact hK _ _ rfl ((Below.refl _ _).alloc (Nat.le_refl _) _) ⟨_, rfl, hb.size, Box.new _ _ _⟩ fun _ => ⟨rfl, by simp⟩
            · simp only [List.getElem?_toArray, List.getElem?_cons_succ, List.getElem?_cons_zero, Option.some.injEq] at ho
              subst ho
              simp only [RegS.putAll, List.length_cons, List.length_nil, Nat.reduceAdd, List.getD_cons_zero, List.getD_cons_succ, Act.put, List.setIfInBounds_toArray, List.set_cons_zero, List.set_cons_succ]
              go_simp
              exact hK _ _ rfl ((Below.refl _ _).alloc (Nat.le_refl _) _) ⟨_, rfl, hb.size, Box.new _ _ _⟩ fun _ => ⟨rfl, by simp⟩
          case tail =>
            intro u ww hb hG hp hne
            simp only [RegS.putAll, List.length_cons, List.length_nil, Nat.reduceAdd, List.getD_cons_zero, List.getD_cons_succ, Act.put, List.setIfInBounds_toArray, List.set_cons_zero, List.set_cons_succ, List.drop_succ_cons, List.drop_zero]
            obtain ⟨A2, n2, c2, B2, m2, e2, e9, hD2⟩ := hG 9 (by decide)
            have e10 : u 10 = lgv RR.2.1 := hG 10 (by decide)
            have e11 : u 11 = .int .i64 (RR.2.2 : Nat) := hG 11 (by decide)
            obtain ⟨b7, e12, l7, k7⟩ := hG 12 (by decide)
            obtain ⟨b8, e13, l8, k8⟩ := hG 13 (by decide)
            have hne78 : b7 ≠ b8 := by
              intro h
              exact hne 12 13 (by decide) (by decide) (by decide) (by decide) (by decide) (by rw [e12, e13, h])
            have hne87 : b8 ≠ b7 := fun h => hne78 h.symm
            have hD3 := (hD2.notBox k7 noStr_disk).notBox k8 noStr_log
            clear hG hp hne hD2 HAP HFEW hDK
            obtain ⟨D1, hD1⟩ : ∃ D1, D1 = RR.1 := ⟨_, rfl⟩
            obtain ⟨⟨f1, f2, f3, f4⟩, hL1⟩ : ∃ L1, L1 = RR.2.1 := ⟨_, rfl⟩
            obtain ⟨ev, hE1⟩ : ∃ ev, ev = RR.2.2 := ⟨_, rfl⟩
            rw [← hD1] at hD3 e9
            rw [← hL1] at e10
            rw [← hE1] at e11
            have hrr : RR = (D1, ⟨f1, f2, f3, f4⟩, ev) := by rw [hD1, hL1, hE1]
            unfold lgv at e10
            simp only at e10
            obtain ⟨lf2, hlf2⟩ : ∃ lf2, lf2 = D1.left := ⟨_, rfl⟩
            obtain ⟨dd2, hdd2⟩ : ∃ dd2, dd2 = D1.dead := ⟨_, rfl⟩
            rw [← hlf2, ← hdd2] at e9
            have HLF := hide hlf2
            have HDD := hide hdd2
            have HRR2 := hide hrr
            have HD3 := hide hD3
            clear hlf2 hdd2 hrr hD1 hL1 hE1 hD3
            obtain ⟨q0, q1, q2, q3⟩ := k7.cell4
            obtain ⟨r0, r1, r2, r3⟩ := k8.cell4
            have f0 := k7.frozen 0
            have f1' := k7.frozen 1
            have f2' := k7.frozen 2
            have f3' := k7.frozen 3
            have g0 := k8.frozen 0
            have g1 := k8.frozen 1
            have g2 := k8.frozen 2
            have g3 := k8.frozen 3
            go_wp2_with fail
            refine NoPanic.normal ?_
            go_wp2_with fail
            go_meet
            rw [HRR2.out]
            refine ⟨b7, b8, A2, n2, c2, B2, m2, e2, e12, e13, e11, l7, l8, hne78, ?_, (k8.far4 hne78).set4, ?_, ?_⟩
            · show Box _ b7 _ #[_, _, .int .i64 D1.left, .bool D1.dead]
              rw [← HLF.out, ← HDD.out]
              exact k7.set4.far4 hne87
            · exact ((HD3.out.set4 fun x hx => hx.1.2).set4 fun x hx => hx.2).mono fun x hx => ⟨hx.1.1, hx.1.2, hx.2⟩
            · exact below_set4 (below_set4 hb l7) l8
        case rest =>
          obtain ⟨b7, b8, A2, n2, c2, B2, m2, e2, rfl, rfl, rfl, l7, l8, h78, k7, k8, hD2, hbc⟩ := hcut
          have hbwc := hbw.trans (hbc.mono hbw.size)
          have hroom : 500 + recs.length ≤ LogP.maxSeq := by unfold LogP.maxSeq; omega
          rcases HH.out.append hroom (oct fs) with ⟨_, e1⟩ | ⟨_, _, e1⟩ | ⟨_, _, d', l', ev, e1, hev⟩
          · have hr := HRR.out.trans e1
            subst hr
            clear hroom e1 HRR k7 k8 hD2 HAP HFEW HDK kbd kbx h78 l7 l8
            go_wp2_with fail
            go_roundw
            case rel => exact ⟨i + 1, by go_num, recs, d, x, A, n, c, B, m, e, by omega, by omega, by rw [← HV.out]; exact HKL.out.below hbc, HH.out, HLEFT.out, own_below HOWN.out hbc, hbwc⟩
            case measure => simp [intOf]; omega
          · have hr := HRR.out.trans e1
            subst hr
            clear hroom e1 HRR k7 k8 hD2 HAP HFEW HDK kbd kbx h78 l7 l8
            go_wp2_with fail
            go_roundw
            case rel => exact ⟨i + 1, by go_num, recs, d, x, A, n, c, B, m, e, by omega, by omega, by rw [← HV.out]; exact HKL.out.below hbc, HH.out, HLEFT.out, own_below HOWN.out hbc, hbwc⟩
            case measure => simp [intOf]; omega
          · have hr := HRR.out.trans e1
            rcases hev with ⟨rfl, hH', hleft'⟩ | ⟨_, h14, _⟩
            · subst hr
              simp only at k7 k8 hD2
              obtain ⟨lf2, hlf2⟩ : ∃ lf2, lf2 = d'.left := ⟨_, rfl⟩
              obtain ⟨dd2, hdd2⟩ : ∃ dd2, dd2 = d'.dead := ⟨_, rfl⟩
              rw [← hlf2, ← hdd2] at k7
              have hownc := own_below HOWN.out hbc
              have kxc := HKL.out.bx.belowS hbc
              have kdc := HKL.out.bd.belowS hbc
              have hbdc : bd + 2 ≤ wc.heap.size := by have := kxc.lt; omega
              have hsn := startsL_snoc (oct fs) HH.out
              have hlt9 := HOWN.out.lt
              have HSN := hide hsn
              have HLF2 := hide hlf2
              have HDD2 := hide hdd2
              have HH2 := hide hH'
              have HL2 := hide (hleft' HLEFT.out)
              have HD2 := hide hD2
              have hrl : recs.length ≤ 1000000000 := by omega
              obtain ⟨q0, q1, q2, q3⟩ := kxc.cell4
              clear hroom e1 HRR HAP HFEW HDK kbd kbx hleft' hH' hsn hlf2 hdd2 hD2
              go_wp2_with (at_builtin; refine app_log rfl _ _ rfl (bd + 2) _ _ _ hownc rfl _ _ _ _ rfl (ints4_one _ _ _ _) hrl hbdc ?_; intro v2 w5 hA)
              have HA := hide hA
              have hbw5 := hA.below hownc (Below.refl (bd + 2) wc) (Nat.le_refl _) hbdc
              have hz5 := hA.size
              have k75 := k7.at (hA.far k7.lt fun e => by have := (hlt9 _ e).2; omega)
              have k85 := k8.at (hA.far k8.lt fun e => by have := (hlt9 _ e).2; omega)
              have kd5 := kdc.below hbw5 (by omega)
              have kx5 := kxc.below hbw5 (by omega)
              have hkx := kx5.lt
              have hk7 := k75.lt
              have hk8 := k85.lt
              have x1 : b7 ≠ bd := by have := kxc.lt; have := HKL.out.bx.lt; omega
              have x2 : b7 ≠ bd + 1 := by have := HKL.out.bx.lt; omega
              have x3 : b8 ≠ bd := by have := HKL.out.bx.lt; omega
              have x4 : b8 ≠ bd + 1 := by have := HKL.out.bx.lt; omega
              have x1' := x1.symm
              have x2' := x2.symm
              have x3' := x3.symm
              have x4' := x4.symm
              clear hA k7 k8 q0 q1 q2 q3 hownc
              obtain ⟨q0, q1, q2, q3⟩ := k75.cell4
              obtain ⟨r0, r1, r2, r3⟩ := k85.cell4
              have f0 := kd5.frozen 0
              have f1 := kd5.frozen 1
              have f2 := kd5.frozen 2
              have f3 := kd5.frozen 3
              have g0 := kx5.frozen 0
              have g1 := kx5.frozen 1
              have g2 := kx5.frozen 2
              have g3 := kx5.frozen 3
              obtain ⟨y0, y1, y2, y3⟩ := kd5.cell4
              obtain ⟨z0, z1, z2, z3⟩ := kx5.cell4
              go_region_law (fail)
              all_goals go_wp2_with fail
              all_goals
                go_roundw
                case rel =>
                  exact ⟨i + 1, by go_num, numR_drew (numR_step hs1 hbw hri (by omega) HKL.out HV.out HOWN.out hbc HA.out HD2.out HH2.out HL2.out HLF2.out HDD2.out HH.out)⟩
                case measure => simp [intOf]; omega
            · exact absurd HLEFT.out h14
      · have HE : Hid (NumR w bd i _ wr) := ⟨recs, d, x, A, n, c, B, m, e, hri, hi9, kL, hH, hleft, hown, hbw⟩
        by_cases h1 : i < n0
        · have d1 : decide (i < n0) = true := by simpa using h1
          have d2 : decide ((i : Int) < 9) = false := by simp; omega
          clear hgo h1 kL hH hleft hown hbw hri hi9
          go_wp2_with fail
          go_meet
          exact ⟨i, HE.out⟩
        · have d1 : decide (i < n0) = false := by simpa using h1
          clear hgo h1 kL hH hleft hown hbw hri hi9
          go_wp2_with fail
          go_meet
          exact ⟨i, HE.out⟩
  case rest =>
    clear HN0 HS HZ
    revert wc
    intro wL hcut
    obtain ⟨i, recs, d, x, A, n, c, B, m, e, hri, hi9, kL, hH, hleft, hown, hbw⟩ := hcut
    obtain ⟨A9, c9, rfl⟩ := own_shape hown
    by_cases hk0 : recs = []
    · subst hk0
      clear kL hH hleft hown hri hi9
      go_wp2_with fail
      refine (awake18_any _).mono ?_
      rintro q w9 ⟨rfl, hb9⟩
      go_wp2_with fail
      go_ret
      exact ⟨rfl, hbw.trans (hb9.mono hbw.size)⟩
    · have hkp : 0 < recs.length := List.length_pos_iff.2 hk0
      obtain ⟨k, hk⟩ : ∃ k, k = recs.length := ⟨_, rfl⟩
      have hsl := Sl.of_own hown
      rw [← hk] at hsl hkp hri hown ⊢
      obtain ⟨a, x0, ea, ex, hc0, hc1, hc2, hc3⟩ := sl_log hsl hkp
      rw [startsL_get hkp] at ex
      obtain rfl := (Option.some.inj ex).symm
      have e1 : 2 = (2 : Nat) := rfl
      obtain ⟨g, cap, hvv, hgb, hgl, hgc⟩ := own_form hown hkp
      injection hvv with hv1 hv2 hv3
      obtain rfl : a = ⟨g, 0, none⟩ := Option.some.inj (ea.symm.trans hv1)
      have z0 : wL.cell? ⟨g, 0, none⟩ = some (.int .i64 2) := by simpa [Addr.add] using hc0
      have z1 : wL.cell? ⟨g, 1, none⟩ = some (.int .i64 16) := by simpa [Addr.add] using hc1
      have z2 : wL.cell? ⟨g, 2, none⟩ = some (.int .i64 0) := by simpa [Addr.add, LogP.sum_nil] using hc2
      have z3 : wL.cell? ⟨g, 3, none⟩ = some (.int .i64 500) := by simpa [Addr.add] using hc3
      clear hc0 hc1 hc2 hc3 hv1 hv2
      have hkz : decide (k = 0) = false := by simp; omega
      have hkz0 : ((k : Int) == 0) = false := by simp; omega
      have hkI : (0 : Int) < (k : Int) := by omega
      have HK := hide hk
      have HSL := hide hsl
      subst ea
      subst hv3
      have HOWN := hide hown
      clear hk hk0 ex e1 hsl hown
      obtain ⟨q, hq⟩ : ∃ q : Nat, (500 : Int) + by_ = (q : Int) := ⟨(500 + by_).toNat, by omega⟩
      have hq2 : q ≤ 700 ∧ 300 ≤ q := by omega
      have hw0 : IntKind.i64.wrap by_ = by_ := IntWalk.i64_in _ (by omega)
      have hw1 : IntKind.i64.wrap (500 + by_) = (500 + by_) := IntWalk.i64_in _ (by omega)
      have HQ := hide hq
      clear hq
      have hscan : (LogP.scanP d ⟨2, 16, 0, q⟩).2.2 = 0 ∧ decide ((LogP.scanP d ⟨2, 16, 0, q⟩).1.length = 0) = !decide (by_ = 0) := by
        obtain ⟨s1, recs', rfl⟩ : ∃ s1 recs', recs = s1 :: recs' := by
          cases recs with
          | nil => have := HK.out; simp at this; omega
          | cons s1 recs' => exact ⟨s1, recs', rfl⟩
        by_cases h0 : by_ = 0
        · have hq5 : q = 500 := by have := HQ.out; omega
          subst hq5
          rw [hH.scan]
          exact ⟨rfl, by simp [h0]⟩
        · rw [LogP.scan_other hH (by unfold LogP.maxSeq; omega) (by unfold LogP.maxSeq; omega) (by have := HQ.out; omega)]
          exact ⟨rfl, by simp [h0]⟩
      have hokq : okL d ⟨2, 16, 0, q⟩ := by
        have h := hH.ok0 (by unfold LogP.maxSeq; omega)
        exact ⟨h.1, h.2.1, h.2.2.1, h.2.2.2.1, by show 1 ≤ q; omega, by show q ≤ LogP.maxSeq; unfold LogP.maxSeq; omega⟩
      obtain ⟨lf, hlf⟩ : ∃ lf, lf = d.left := ⟨_, rfl⟩
      obtain ⟨dd, hdd⟩ : ∃ dd, dd = d.dead := ⟨_, rfl⟩
      have HSC : Hid (∀ ww V', Dk ww V' A n c B m e d → Calls Try.prog 47 #[dkv A n c B m e lf dd, .agg #[.int .i64 2, .int .i64 16, .int .i64 0, .int .i64 (500 + by_)]] ww fun r w' => ∃ A3 gl c3 z0 z1 z2 z3, r = .returned (.tuple #[.slice A3 gl c3, .agg #[.int .i64 z0, .int .i64 z1, .int .i64 z2, .int .i64 z3], .int .i64 0]) ∧ decide (gl = 0) = !decide (by_ = 0) ∧ Below ww.heap.size ww w') := by
        intro ww V' hD
        have := scan_any A n c B m e d V' ⟨2, 16, 0, q⟩ ww hD hokq
        rw [hscan.1] at this
        rw [hlf, hdd, HQ.out]
        refine this.mono ?_
        rintro r w' ⟨v, rfl, ho, hb⟩
        obtain ⟨A3, c3, rfl⟩ := own_shape ho
        exact ⟨A3, _, c3, _, _, _, _, rfl, hscan.2, hb⟩
      have kbd := kL.bd
      have kbx := kL.bx
      rw [← hlf, ← hdd] at kbd
      have HDK := hide kL.dk
      have HH := hide hH
      have HL1 := hide hleft
      have HLF := hide hlf
      have HDD := hide hdd
      clear hscan hokq kL hH hleft hlf hdd
      go_upto_region 15 with (fail)
      have hbo : Below wL.heap.size wL (wL.alloc (.cells #[.int .i64 2, .int .i64 16, .int .i64 0, .int .i64 (500 + by_)] 67)) := (Below.refl _ _).alloc (Nat.le_refl _) _
      have ko := Box.new wL 67 #[.int .i64 2, .int .i64 16, .int .i64 0, .int .i64 (500 + by_)]
      obtain ⟨wo, hwo⟩ : ∃ wo, wo = wL.alloc (.cells #[.int .i64 2, .int .i64 16, .int .i64 0, .int .i64 (500 + by_)] 67) := ⟨_, rfl⟩
      rw [← hwo] at hbo ko ⊢
      have kbd1 := kbd.belowS hbo
      have kbx1 := kbx.belowS hbo
      have HDK1 := hide (HDK.out.below hbo)
      clear hwo z0 z1 z2 z3 hw0 hw1
      go_cut [15, 16, 17] from 69 to 75 (fun p q e wx => ∃ A3 gl c3, p = .slice A3 gl c3 ∧ e = .int .i64 0 ∧ decide (gl = 0) = !decide (by_ = 0) ∧ Below wo.heap.size wo wx)
      case first =>
        obtain ⟨q0, q1, q2, q3⟩ := kbd1.cell4
        obtain ⟨r0, r1, r2, r3⟩ := ko.cell4
        go_wp2_with fail
        refine (HSC.out _ _ HDK1.out).mono ?_
        rintro r wx ⟨A3, gl, c3, z0, z1, z2, z3, rfl, hgl, hbx⟩
        have HGL := hide hgl
        clear hgl
        go_wp2_with fail
        go_meet
        refine ⟨A3, gl, c3, rfl, rfl, HGL.out, hbx.alloc hbx.size _⟩
      case rest =>
        obtain ⟨A3, gl, c3, rfl, rfl, hgl, hbx⟩ := hcut
        revert wc
        intro wS hbx
        have kbd2 := kbd1.belowS hbx
        have HDK2 := hide (HDK1.out.below hbx)
        have hbwS := (hbw.trans (hbo.mono hbw.size)).trans (hbx.mono (Nat.le_trans hbw.size hbo.size))
        have hslS := (HSL.out.below hbo).below hbx
        clear kbd1 kbx1 HDK1 ko HSC HDK kbd kbx hbo hbx hkz hkz0 HQ hq2
        go_upto_region 16 with (fail)
        go_cut [85] from 76 to 84 (fun v wx => v = .bool false ∧ wS = wx)
        case first =>
          by_cases h0 : by_ = 0
          · have d1 : decide (by_ = 0) = true := by simpa using h0
            rw [d1] at hgl
            have d2 : decide (gl = 0) = false := hgl
            have d3 : ((gl : Int) == 0) = false := by have := of_decide_eq_false d2; simp; omega
            have d4 : (by_ != 0) = false := by simp [h0]
            clear hgl h0
            go_wp2_with fail
            go_meet
            exact ⟨by simp [*], rfl⟩
          · have d1 : decide (by_ = 0) = false := by simpa using h0
            rw [d1] at hgl
            have d2 : decide (gl = 0) = true := hgl
            have d3 : ((gl : Int) == 0) = true := by have := of_decide_eq_true d2; simp; omega
            have d4 : (by_ != 0) = true := by simp [h0]
            clear hgl h0
            go_wp2_with fail
            go_meet
            exact ⟨by simp [*], rfl⟩
        case rest =>
          obtain ⟨rfl, rfl⟩ := hcut
          obtain ⟨kk, hkk⟩ : ∃ kk, kk = at_ % k := ⟨_, rfl⟩
          have hkl : kk < k := by rw [hkk]; exact Nat.mod_lt _ hkp
          have t1 : (at_ : Int).tmod (k : Int) = (kk : Int) := by rw [Int.tmod_eq_emod_of_nonneg (by omega), hkk]; rfl
          have t2 : IntKind.i64.wrap (at_ : Int) = (at_ : Int) := IntWalk.i64_in _ (by omega)
          have t2' : IntKind.i64.wrap (kk : Int) = (kk : Int) := IntWalk.i64_in _ (by omega)
          have t3 : ¬ k = 0 := by omega
          have t4 : ¬ (k : Int) = 0 := by omega
          have t5 : ((k : Int) == 0) = false := by simp; omega
          clear hkk hgl
          go_upto_region 19 with (fail)
          clear t1 t2 t2' t3 t4 t5
          obtain ⟨sk, hsk⟩ : ∃ sk, sk = LogP.sum (recs.take kk) := ⟨_, rfl⟩
          obtain ⟨sq, hsq⟩ : ∃ sq, sq = 500 + kk := ⟨_, rfl⟩
          have htk : (recs.take kk).length = kk := by rw [List.length_take, ← HK.out]; omega
          have hH2 : Holds 20 d 2 16 0 500 (recs.take kk ++ recs.drop kk) x := by rw [List.take_append_drop]; exact HH.out
          obtain ⟨dC, hcl, hHC, _⟩ := hH2.clear HL1.out
          rw [htk, ← hsk, ← hsq, Nat.zero_add] at hcl hHC
          have hokC : okL d ⟨2, 16, sk, sq⟩ := by
            have h := HH.out.ok0 (by unfold LogP.maxSeq; omega)
            have hr := hHC.has.room
            rw [← hsk] at hr
            exact ⟨h.1, h.2.1, h.2.2.1, by show sk < 16; omega, by show 1 ≤ sq; omega, by show sq ≤ LogP.maxSeq; unfold LogP.maxSeq; omega⟩
          have hm0 : m ≤ 800000000 := by have := HDK2.out.wlen; rw [HH.out.quiet] at this; simp at this; omega
          have HCL : Hid (∀ ww V', Dk ww V' A n c B m e d → Calls Try.prog 49 #[dkv A n c B m e lf dd, .agg #[.int .i64 2, .int .i64 16, .int .i64 (sk : Nat), .int .i64 (sq : Nat)]] ww fun r w' => ∃ v, r = .returned (.tuple #[v, .int .i64 0]) ∧ DkV w' (fun _ => True) v dC ∧ Below ww.heap.size ww w') := by
            intro ww V' hD
            have := clear_any A n c B m e d V' ⟨2, 16, sk, sq⟩ ww hD hokC hm0
            rw [hcl] at this
            rw [HLF.out, HDD.out]
            exact this.mono fun r w' ⟨v, h1, h2, h3⟩ => ⟨v, h1, h2.mono fun _ _ => trivial, h3⟩
          have hsc2 : LogP.scanP dC ⟨2, 16, 0, 500⟩ = (recs.take kk, ⟨2, 16, sk, sq⟩, 0) := hHC.scan
          have HAT : Hid (∀ ww, Below wS.heap.size wS ww → ww.cell? ⟨g, kk * 4, none⟩ = some (.int .i64 2) ∧ ww.cell? ⟨g, kk * 4 + 1, none⟩ = some (.int .i64 16) ∧ ww.cell? ⟨g, kk * 4 + 2, none⟩ = some (.int .i64 (sk : Nat)) ∧ ww.cell? ⟨g, kk * 4 + 3, none⟩ = some (.int .i64 (sq : Nat))) := by
            intro ww hb
            obtain ⟨a, x1, ea, ex, c0, c1, c2, c3⟩ := sl_log (hslS.below hb) hkl
            rw [startsL_get hkl] at ex
            obtain rfl := (Option.some.inj ex).symm
            obtain rfl := (Option.some.inj ea).symm
            simp only [Nat.zero_add, ← hsk, ← hsq, add_base] at c0 c1 c2 c3
            exact ⟨c0, c1, c2, c3⟩
          have HAT0 : Hid (∀ ww, Below wS.heap.size wS ww → ww.cell? ⟨g, 0, none⟩ = some (.int .i64 2) ∧ ww.cell? ⟨g, 1, none⟩ = some (.int .i64 16) ∧ ww.cell? ⟨g, 2, none⟩ = some (.int .i64 0) ∧ ww.cell? ⟨g, 3, none⟩ = some (.int .i64 500)) := by
            intro ww hb
            obtain ⟨a, x1, ea, ex, c0, c1, c2, c3⟩ := sl_log (hslS.below hb) hkp
            rw [startsL_get hkp] at ex
            obtain rfl := (Option.some.inj ex).symm
            obtain rfl := (Option.some.inj ea).symm
            exact ⟨by simpa [Addr.add] using c0, by simpa [Addr.add] using c1, by simpa [Addr.add, LogP.sum_nil] using c2, by simpa [Addr.add] using c3⟩
          have HKK : Hid ((kk : Int) < (k : Int) ∧ (0 : Int) ≤ (kk : Int)) := ⟨by omega, by omega⟩
          have HHC := hide hHC
          have HSC2 := hide hsc2
          have HTK := hide htk
          clear hsk hsq htk hH2 hcl hHC hokC hm0 hsc2 hslS hkl
          go_cut [19, 20] from 91 to 99 (fun p e wx => ∃ bY AC nC cC BC mC eC, p = .pointer (some ⟨bY, 0, none⟩) ∧ e = .int .i64 0 ∧ Box wx bY 50 #[.slice AC nC cC, .slice BC mC eC, .int .i64 dC.left, .bool dC.dead] ∧ Dk wx (fun _ => True) AC nC cC BC mC eC dC ∧ Below wS.heap.size wS wx)
          case first =>
            refine wp_region_noPanic ?_
            refine RegS.region (ds := [92, 93, 94, 95, 96, 97, 91, 98, 99, 19]) (pure := [6, 7, 8]) (fresh := [9])
              (G := Gs [.is (dkv A n c B m e lf dd), .is (.slice (some ⟨g, 0, none⟩) k c9), .is (.int .i64 (kk : Nat)), .is (.pointer (some ⟨g, kk * 4, none⟩)), .is (.agg #[.int .i64 2, .int .i64 16, .int .i64 (sk : Nat), .int .i64 (sq : Nat)]), .two (.dk (fun _ => True) dC) (.int .i64 0), .two (.dk (fun _ => True) dC) (.int .i64 0), .dk (fun _ => True) dC, .is (.int .i64 0), .box wS.heap.size 50 #[.slice none 0 0, .slice none 0 0, .int .i64 0, .bool false]])
              rfl (by kernel_rfl) (by kernel_rfl) ⟨by kernel_rfl, by kernel_rfl, fun i _ v w w' => gs_keep _ i v w w', ?quiet, ?step⟩ (fun _ _ _ _ _ h => h) ?tail
            case quiet =>
              intro i o hi hp ho u ww hd
              obtain rfl | rfl | rfl : i = 6 ∨ i = 7 ∨ i = 8 := by simp at hp; omega
              · simp only [List.getElem?_toArray, List.getElem?_cons_succ, List.getElem?_cons_zero, Option.some.injEq] at ho
                subst ho
                simp only [RegS.putAll, List.length_cons, List.length_nil, Nat.reduceAdd, List.getD_cons_zero, List.getD_cons_succ, Act.put, List.setIfInBounds_toArray, List.set_cons_zero, List.set_cons_succ]
                exact ⟨_, fun _ => rfl, hd 5 (by decide) (by rfl)⟩
              · simp only [List.getElem?_toArray, List.getElem?_cons_succ, List.getElem?_cons_zero, Option.some.injEq] at ho
                subst ho
                simp only [RegS.putAll, List.length_cons, List.length_nil, Nat.reduceAdd, List.getD_cons_zero, List.getD_cons_succ, Act.put, List.setIfInBounds_toArray, List.set_cons_zero, List.set_cons_succ]
                obtain ⟨x, e, h⟩ := hd 6 (by decide) (by rfl)
                rw [e]
                exact ⟨_, fun _ => rfl, h⟩
              · simp only [List.getElem?_toArray, List.getElem?_cons_succ, List.getElem?_cons_zero, Option.some.injEq] at ho
                subst ho
                simp only [RegS.putAll, List.length_cons, List.length_nil, Nat.reduceAdd, List.getD_cons_zero, List.getD_cons_succ, Act.put, List.setIfInBounds_toArray, List.set_cons_zero, List.set_cons_succ]
                obtain ⟨x, e, h⟩ := hd 6 (by decide) (by rfl)
                rw [e]
                exact ⟨_, fun _ => rfl, rfl⟩
            case step =>
              intro i o hi hp ho u ww hb hd K hK
              obtain rfl | rfl | rfl | rfl | rfl | rfl | rfl : i = 0 ∨ i = 1 ∨ i = 2 ∨ i = 3 ∨ i = 4 ∨ i = 5 ∨ i = 9 := by simp at hp hi; omega
              · simp only [List.getElem?_toArray, List.getElem?_cons_zero, Option.some.injEq] at ho
                subst ho
                simp only [RegS.putAll, List.length_cons, List.length_nil, Nat.reduceAdd, List.getD_cons_zero, List.getD_cons_succ, Act.put, List.setIfInBounds_toArray, List.set_cons_zero, List.set_cons_succ]
                obtain ⟨q0, q1, q2, q3⟩ := (kbd2.belowS hb).cell4
                go_simp
                exact hK _ _ rfl (Below.refl _ _) rfl (fun h => absurd h (by decide))
              · simp only [List.getElem?_toArray, List.getElem?_cons_succ, List.getElem?_cons_zero, Option.some.injEq] at ho
                subst ho
                simp only [RegS.putAll, List.length_cons, List.length_nil, Nat.reduceAdd, List.getD_cons_zero, List.getD_cons_succ, Act.put, List.setIfInBounds_toArray, List.set_cons_zero, List.set_cons_succ]
                go_simp
                exact hK _ _ rfl (Below.refl _ _) rfl (fun h => absurd h (by decide))
              · simp only [List.getElem?_toArray, List.getElem?_cons_succ, List.getElem?_cons_zero, Option.some.injEq] at ho
                subst ho
                simp only [RegS.putAll, List.length_cons, List.length_nil, Nat.reduceAdd, List.getD_cons_zero, List.getD_cons_succ, Act.put, List.setIfInBounds_toArray, List.set_cons_zero, List.set_cons_succ]
                go_simp
                exact hK _ _ rfl (Below.refl _ _) rfl (fun h => absurd h (by decide))
              · simp only [List.getElem?_toArray, List.getElem?_cons_succ, List.getElem?_cons_zero, Option.some.injEq] at ho
                subst ho
                simp only [RegS.putAll, List.length_cons, List.length_nil, Nat.reduceAdd, List.getD_cons_zero, List.getD_cons_succ, Act.put, List.setIfInBounds_toArray, List.set_cons_zero, List.set_cons_succ]
                have e1 : u 1 = .slice (some ⟨g, 0, none⟩) k c9 := hd 1 (by decide) (by rfl)
                have e2 : u 2 = .int .i64 (kk : Nat) := hd 2 (by decide) (by rfl)
                have hkk := HKK.out
                go_simp
                exact hK _ _ rfl (Below.refl _ _) rfl (fun h => absurd h (by decide))
              · simp only [List.getElem?_toArray, List.getElem?_cons_succ, List.getElem?_cons_zero, Option.some.injEq] at ho
                subst ho
                simp only [RegS.putAll, List.length_cons, List.length_nil, Nat.reduceAdd, List.getD_cons_zero, List.getD_cons_succ, Act.put, List.setIfInBounds_toArray, List.set_cons_zero, List.set_cons_succ]
                have e3 : u 3 = .pointer (some ⟨g, kk * 4, none⟩) := hd 3 (by decide) (by rfl)
                obtain ⟨q0, q1, q2, q3⟩ := HAT.out ww hb
                go_simp
                exact hK _ _ rfl (Below.refl _ _) rfl (fun h => absurd h (by decide))
              · simp only [List.getElem?_toArray, List.getElem?_cons_succ, List.getElem?_cons_zero, Option.some.injEq] at ho
                subst ho
                simp only [RegS.putAll, List.length_cons, List.length_nil, Nat.reduceAdd, List.getD_cons_zero, List.getD_cons_succ, Act.put, List.setIfInBounds_toArray, List.set_cons_zero, List.set_cons_succ]
                have e0 : u 0 = dkv A n c B m e lf dd := hd 0 (by decide) (by rfl)
                have e4 : u 4 = (.agg #[.int .i64 2, .int .i64 16, .int .i64 (sk : Nat), .int .i64 (sq : Nat)]) := hd 4 (by decide) (by rfl)
                go_simp
                refine (HCL.out ww _ (HDK2.out.below hb)).mono ?_
                rintro r w3 ⟨v, rfl, hv, hb3⟩
                exact hK _ _ rfl hb3 ⟨v, rfl, hv⟩ (fun h => absurd h (by decide))
              · simp only [List.getElem?_toArray, List.getElem?_cons_succ, List.getElem?_cons_zero, Option.some.injEq] at ho
                subst ho
                simp only [RegS.putAll, List.length_cons, List.length_nil, Nat.reduceAdd, List.getD_cons_zero, List.getD_cons_succ, Act.put, List.setIfInBounds_toArray, List.set_cons_zero, List.set_cons_succ]
                go_simp
                exact hK _ _ rfl ((Below.refl _ _).alloc (Nat.le_refl _) _) ⟨_, rfl, hb.size, Box.new _ _ _⟩ fun _ => ⟨rfl, by simp⟩
            case tail =>
              intro u ww hb hG hp hne
              simp only [RegS.putAll, List.length_cons, List.length_nil, Nat.reduceAdd, List.getD_cons_zero, List.getD_cons_succ, Act.put, List.setIfInBounds_toArray, List.set_cons_zero, List.set_cons_succ, List.drop_succ_cons, List.drop_zero]
              obtain ⟨AC, nC, cC, BC, mC, eC, e7, hDC⟩ := hG 7 (by decide)
              have e8 : u 8 = .int .i64 0 := hG 8 (by decide)
              obtain ⟨bY, e9, l9, k9⟩ := hG 9 (by decide)
              have hD3 := hDC.notBox k9 noStr_disk
              clear hG hp hne hDC
              obtain ⟨lC, hlC⟩ : ∃ lC, lC = dC.left := ⟨_, rfl⟩
              obtain ⟨ddC, hddC⟩ : ∃ ddC, ddC = dC.dead := ⟨_, rfl⟩
              rw [← hlC, ← hddC] at e7
              have HLC := hide hlC
              have HDDC := hide hddC
              have HD3 := hide hD3
              clear hlC hddC hD3
              obtain ⟨q0, q1, q2, q3⟩ := k9.cell4
              have f0 := k9.frozen 0
              have f1' := k9.frozen 1
              have f2' := k9.frozen 2
              have f3' := k9.frozen 3
              go_wp2_with fail
              refine NoPanic.normal ?_
              go_wp2_with fail
              go_meet
              exact ⟨bY, AC, nC, cC, BC, mC, eC, e9, e8, by rw [← HLC.out, ← HDDC.out]; exact k9.set4, (HD3.out.set4 fun x hx => hx.2).mono fun _ _ => trivial, below_set4 hb l9⟩
          case rest =>
            revert wc
            intro wY hcut
            obtain ⟨bY, AC, nC, cC, BC, mC, eC, rfl, rfl, kY, hDY, hbY⟩ := hcut
            have hbwY := hbwS.trans (hbY.mono hbwS.size)
            obtain ⟨lC, hlC⟩ : ∃ lC, lC = dC.left := ⟨_, rfl⟩
            obtain ⟨ddC, hddC⟩ : ∃ ddC, ddC = dC.dead := ⟨_, rfl⟩
            rw [← hlC, ← hddC] at kY
            have hatY := fun (ww : World) (hb : Below wY.heap.size wY ww) => HAT.out ww (hbY.trans (hb.mono hbY.size))
            have hat0Y := fun (ww : World) (hb : Below wY.heap.size wY ww) => HAT0.out ww (hbY.trans (hb.mono hbY.size))
            have hokY : okL dC ⟨2, 16, 0, 500⟩ := HHC.out.ok0 (by unfold LogP.maxSeq; omega)
            have HSC2' : Hid (∀ ww V', Dk ww V' AC nC cC BC mC eC dC → Calls Try.prog 47 #[dkv AC nC cC BC mC eC lC ddC, .agg #[.int .i64 2, .int .i64 16, .int .i64 0, .int .i64 500]] ww fun r w' => ∃ A5 c5, r = .returned (.tuple #[.slice A5 kk c5, .agg #[.int .i64 2, .int .i64 16, .int .i64 (sk : Nat), .int .i64 (sq : Nat)], .int .i64 0]) ∧ Below ww.heap.size ww w') := by
              intro ww V' hD
              have := scan_any AC nC cC BC mC eC dC V' ⟨2, 16, 0, 500⟩ ww hD hokY
              rw [HSC2.out] at this
              rw [hlC, hddC]
              refine this.mono ?_
              rintro r w' ⟨v, rfl, ho, hb⟩
              have ho' := ho
              obtain ⟨A5, c5, rfl⟩ := own_shape ho
              exact ⟨A5, c5, by rw [HTK.out]; rfl, hb⟩
            have HSC2 := HSC2'
            have HATY := hide hatY
            have HAT0Y := hide hat0Y
            have HDY := hide hDY
            have hzY := hbY.size
            clear hatY hat0Y hokY HSC2' hlC hddC hDY HAT HAT0 HCL HHC HDK2 kbd2 HH HL1 hbY
            go_upto_region 20 with (fail)
            go_cut [21, 22, 23] from 100 to 108 (fun p q e wx => ∃ A5 c5 bZ, p = .slice A5 kk c5 ∧ q = .pointer (some ⟨bZ, 0, none⟩) ∧ e = .int .i64 0 ∧ Box wx bZ 67 #[.int .i64 2, .int .i64 16, .int .i64 (sk : Nat), .int .i64 (sq : Nat)] ∧ Below wY.heap.size wY wx)
            case first =>
              refine wp_region_noPanic ?_
              refine RegS.region (ds := [101, 102, 103, 104, 105, 100, 106, 107, 108, 22]) (pure := [5, 6, 7, 8]) (fresh := [9])
                (G := Gs [.is (dkv AC nC cC BC mC eC lC ddC), .is (.slice (some ⟨g, 0, none⟩) k c9), .is (.pointer (some ⟨g, 0, none⟩)), .is (.agg #[.int .i64 2, .int .i64 16, .int .i64 0, .int .i64 500]), .three (Fc.sl kk) (.agg #[.int .i64 2, .int .i64 16, .int .i64 (sk : Nat), .int .i64 (sq : Nat)]) (.int .i64 0), .three (Fc.sl kk) (.agg #[.int .i64 2, .int .i64 16, .int .i64 (sk : Nat), .int .i64 (sq : Nat)]) (.int .i64 0), (Fc.sl kk), .is (.agg #[.int .i64 2, .int .i64 16, .int .i64 (sk : Nat), .int .i64 (sq : Nat)]), .is (.int .i64 0), .box wY.heap.size 67 #[.int .i64 0, .int .i64 0, .int .i64 0, .int .i64 0]])
                rfl (by kernel_rfl) (by kernel_rfl) ⟨by kernel_rfl, by kernel_rfl, fun i _ v w w' => gs_keep _ i v w w', ?quiet, ?step⟩ (fun _ _ _ _ _ h => h) ?tail
              case quiet =>
                intro i o hi hp ho u ww hd
                obtain rfl | rfl | rfl | rfl : i = 5 ∨ i = 6 ∨ i = 7 ∨ i = 8 := by simp at hp; omega
                · simp only [List.getElem?_toArray, List.getElem?_cons_succ, List.getElem?_cons_zero, Option.some.injEq] at ho
                  subst ho
                  simp only [RegS.putAll, List.length_cons, List.length_nil, Nat.reduceAdd, List.getD_cons_zero, List.getD_cons_succ, Act.put, List.setIfInBounds_toArray, List.set_cons_zero, List.set_cons_succ]
                  exact ⟨_, fun _ => rfl, hd 4 (by decide) (by rfl)⟩
                · simp only [List.getElem?_toArray, List.getElem?_cons_succ, List.getElem?_cons_zero, Option.some.injEq] at ho
                  subst ho
                  simp only [RegS.putAll, List.length_cons, List.length_nil, Nat.reduceAdd, List.getD_cons_zero, List.getD_cons_succ, Act.put, List.setIfInBounds_toArray, List.set_cons_zero, List.set_cons_succ]
                  obtain ⟨x, e, h⟩ := hd 5 (by decide) (by rfl)
                  rw [e]
                  exact ⟨_, fun _ => rfl, h⟩
                · simp only [List.getElem?_toArray, List.getElem?_cons_succ, List.getElem?_cons_zero, Option.some.injEq] at ho
                  subst ho
                  simp only [RegS.putAll, List.length_cons, List.length_nil, Nat.reduceAdd, List.getD_cons_zero, List.getD_cons_succ, Act.put, List.setIfInBounds_toArray, List.set_cons_zero, List.set_cons_succ]
                  obtain ⟨x, e, h⟩ := hd 5 (by decide) (by rfl)
                  rw [e]
                  exact ⟨_, fun _ => rfl, rfl⟩
                · simp only [List.getElem?_toArray, List.getElem?_cons_succ, List.getElem?_cons_zero, Option.some.injEq] at ho
                  subst ho
                  simp only [RegS.putAll, List.length_cons, List.length_nil, Nat.reduceAdd, List.getD_cons_zero, List.getD_cons_succ, Act.put, List.setIfInBounds_toArray, List.set_cons_zero, List.set_cons_succ]
                  obtain ⟨x, e, h⟩ := hd 5 (by decide) (by rfl)
                  rw [e]
                  exact ⟨_, fun _ => rfl, rfl⟩
              case step =>
                intro i o hi hp ho u ww hb hd K hK
                obtain rfl | rfl | rfl | rfl | rfl | rfl : i = 0 ∨ i = 1 ∨ i = 2 ∨ i = 3 ∨ i = 4 ∨ i = 9 := by simp at hp hi; omega
                · simp only [List.getElem?_toArray, List.getElem?_cons_zero, Option.some.injEq] at ho
                  subst ho
                  simp only [RegS.putAll, List.length_cons, List.length_nil, Nat.reduceAdd, List.getD_cons_zero, List.getD_cons_succ, Act.put, List.setIfInBounds_toArray, List.set_cons_zero, List.set_cons_succ]
                  obtain ⟨q0, q1, q2, q3⟩ := (kY.belowS hb).cell4
                  go_simp
                  exact hK _ _ rfl (Below.refl _ _) rfl (fun h => absurd h (by decide))
                · simp only [List.getElem?_toArray, List.getElem?_cons_succ, List.getElem?_cons_zero, Option.some.injEq] at ho
                  subst ho
                  simp only [RegS.putAll, List.length_cons, List.length_nil, Nat.reduceAdd, List.getD_cons_zero, List.getD_cons_succ, Act.put, List.setIfInBounds_toArray, List.set_cons_zero, List.set_cons_succ]
                  go_simp
                  exact hK _ _ rfl (Below.refl _ _) rfl (fun h => absurd h (by decide))
                · simp only [List.getElem?_toArray, List.getElem?_cons_succ, List.getElem?_cons_zero, Option.some.injEq] at ho
                  subst ho
                  simp only [RegS.putAll, List.length_cons, List.length_nil, Nat.reduceAdd, List.getD_cons_zero, List.getD_cons_succ, Act.put, List.setIfInBounds_toArray, List.set_cons_zero, List.set_cons_succ]
                  have e1 : u 1 = .slice (some ⟨g, 0, none⟩) k c9 := hd 1 (by decide) (by rfl)
                  go_simp
                  exact hK _ _ rfl (Below.refl _ _) rfl (fun h => absurd h (by decide))
                · simp only [List.getElem?_toArray, List.getElem?_cons_succ, List.getElem?_cons_zero, Option.some.injEq] at ho
                  subst ho
                  simp only [RegS.putAll, List.length_cons, List.length_nil, Nat.reduceAdd, List.getD_cons_zero, List.getD_cons_succ, Act.put, List.setIfInBounds_toArray, List.set_cons_zero, List.set_cons_succ]
                  have e2 : u 2 = .pointer (some ⟨g, 0, none⟩) := hd 2 (by decide) (by rfl)
                  obtain ⟨q0, q1, q2, q3⟩ := HAT0Y.out ww hb
                  go_simp
                  exact hK _ _ rfl (Below.refl _ _) rfl (fun h => absurd h (by decide))
                · simp only [List.getElem?_toArray, List.getElem?_cons_succ, List.getElem?_cons_zero, Option.some.injEq] at ho
                  subst ho
                  simp only [RegS.putAll, List.length_cons, List.length_nil, Nat.reduceAdd, List.getD_cons_zero, List.getD_cons_succ, Act.put, List.setIfInBounds_toArray, List.set_cons_zero, List.set_cons_succ]
                  have e0 : u 0 = dkv AC nC cC BC mC eC lC ddC := hd 0 (by decide) (by rfl)
                  have e3 : u 3 = (.agg #[.int .i64 2, .int .i64 16, .int .i64 0, .int .i64 500]) := hd 3 (by decide) (by rfl)
                  go_simp
                  refine (HSC2.out ww _ (HDY.out.below hb)).mono ?_
                  rintro r w3 ⟨A5, c5, rfl, hb3⟩
                  exact hK _ _ rfl hb3 ⟨_, rfl, A5, c5, rfl⟩ (fun h => absurd h (by decide))
                · simp only [List.getElem?_toArray, List.getElem?_cons_succ, List.getElem?_cons_zero, Option.some.injEq] at ho
                  subst ho
                  simp only [RegS.putAll, List.length_cons, List.length_nil, Nat.reduceAdd, List.getD_cons_zero, List.getD_cons_succ, Act.put, List.setIfInBounds_toArray, List.set_cons_zero, List.set_cons_succ]
                  go_simp
                  exact hK _ _ rfl ((Below.refl _ _).alloc (Nat.le_refl _) _) ⟨_, rfl, hb.size, Box.new _ _ _⟩ fun _ => ⟨rfl, by simp⟩
              case tail =>
                intro u ww hb hG hp hne
                simp only [RegS.putAll, List.length_cons, List.length_nil, Nat.reduceAdd, List.getD_cons_zero, List.getD_cons_succ, Act.put, List.setIfInBounds_toArray, List.set_cons_zero, List.set_cons_succ, List.drop_succ_cons, List.drop_zero]
                obtain ⟨A5, c5, e6⟩ := hG 6 (by decide)
                have e7 : u 7 = (.agg #[.int .i64 2, .int .i64 16, .int .i64 (sk : Nat), .int .i64 (sq : Nat)]) := hG 7 (by decide)
                have e8 : u 8 = .int .i64 0 := hG 8 (by decide)
                obtain ⟨bZ, e9, l9, k9⟩ := hG 9 (by decide)
                clear hG hp hne
                obtain ⟨q0, q1, q2, q3⟩ := k9.cell4
                have f0 := k9.frozen 0
                have f1' := k9.frozen 1
                have f2' := k9.frozen 2
                have f3' := k9.frozen 3
                go_wp2_with fail
                refine NoPanic.normal ?_
                go_wp2_with fail
                go_meet
                exact ⟨A5, c5, bZ, e6, e9, e8, k9.set4, below_set4 hb l9⟩
            case rest =>
              revert wc
              intro wZ hcut
              obtain ⟨A5, c5, bZ, rfl, rfl, rfl, kZ, hbZ⟩ := hcut
              have hbwZ := hbwY.trans (hbZ.mono hbwY.size)
              have hc := HATY.out wZ hbZ
              obtain ⟨r0, r1, r2, r3⟩ := kZ.cell4
              obtain ⟨q0, q1, q2, q3⟩ := hc
              have hkk := HKK.out
              have S0 : (wZ.cell? ⟨bZ, 0, none⟩ = some (.int .i64 2) ∧ wZ.cell? ⟨bZ, 1, none⟩ = some (.int .i64 16) ∧ wZ.cell? ⟨bZ, 2, none⟩ = some (.int .i64 (sk : Nat)) ∧ wZ.cell? ⟨bZ, 3, none⟩ = some (.int .i64 (sq : Nat))) ∧ wZ.cell? ⟨g, kk * 4, none⟩ = some (.int .i64 2) ∧ wZ.cell? ⟨g, kk * 4 + 1, none⟩ = some (.int .i64 16) ∧ wZ.cell? ⟨g, kk * 4 + 2, none⟩ = some (.int .i64 (sk : Nat)) ∧ wZ.cell? ⟨g, kk * 4 + 3, none⟩ = some (.int .i64 (sq : Nat)) := ⟨kZ.cell4, HATY.out wZ hbZ⟩
              obtain ⟨kk1, kk2⟩ := hkk
              clear kY HAT0Y HDY HSC2
              go_upto_region 21 with (fail)
              go_region_held3 (fun w' => (w'.cell? ⟨bZ, 0, none⟩ = some (.int .i64 2) ∧ w'.cell? ⟨bZ, 1, none⟩ = some (.int .i64 16) ∧ w'.cell? ⟨bZ, 2, none⟩ = some (.int .i64 (sk : Nat)) ∧ w'.cell? ⟨bZ, 3, none⟩ = some (.int .i64 (sq : Nat))) ∧ w'.cell? ⟨g, kk * 4, none⟩ = some (.int .i64 2) ∧ w'.cell? ⟨g, kk * 4 + 1, none⟩ = some (.int .i64 16) ∧ w'.cell? ⟨g, kk * 4 + 2, none⟩ = some (.int .i64 (sk : Nat)) ∧ w'.cell? ⟨g, kk * 4 + 3, none⟩ = some (.int .i64 (sq : Nat)))
                (first | exact S0 | exact ⟨(kZ.drew.belowS hba).cell4, HATY.out _ (hbZ.drew.trans (hba.mono hbZ.size))⟩)
                (((with_reducible refine (awake18_any _).mono ?_); rintro r wa ⟨rfl, hba⟩))
              go_wp2_with fail
              go_ret
              exact ⟨rfl, hbwZ.drew.trans (hba.mono hbwZ.size)⟩
end Go.Proofs.Yteoiadfcchalfaa
