/- The walk of LogCuts. (printed by gencuts.py) -/
import Derived.Test.YteoiadfcchalfaaLogBackW
import Derived.Test.YteoiadfcchalfaaDiskAw
import Derived.Test.YteoiadfcchalfaaDiskBudW
import Derived.Test.YteoiadfcchalfaaSlotFreeW
import Derived.Test.YteoiadfcchalfaaOpenB
namespace Go.Proofs.Yteoiadfcchalfaa
open Go.RowKit
open DiskP (Bytes Disk Wr Fate noughts)
open LogP (Log zeroL Live okL Holds)
set_option linter.unusedVariables false

/-- the boxes of a disk, of its first log, and of the log behind -/
structure CBox (wr : World) (V : Nat → Prop) (b : Nat) (A : Option Addr) (n c : Nat) (B : Option Addr) (m e : Nat) (d : Disk) (x : Log) : Prop where
  bd : Box wr b 50 #[.slice A n c, .slice B m e, .int .i64 d.left, .bool d.dead]
  bf : Box wr (b + 1) 67 #[.int .i64 2, .int .i64 16, .int .i64 0, .int .i64 1]
  bx : Box wr (b + 1 + 1) 67 #[.int .i64 (x.frm : Nat), .int .i64 (x.len : Nat), .int .i64 (x.at_ : Nat), .int .i64 (x.seq : Nat)]
  dk : Dk wr V A n c B m e d
theorem CBox.below {wr w' : World} {V : Nat → Prop} {b n c m e : Nat} {A B : Option Addr} {d : Disk} {x : Log} (h : CBox wr V b A n c B m e d x) (hb : Below wr.heap.size wr w') : CBox w' V b A n c B m e d x :=
  ⟨h.bd.belowS hb, h.bf.belowS hb, h.bx.belowS hb, h.dk.below hb⟩
/-- what stands ahead of the round i -/
def CutR (w0 : World) (bd i : Nat) (all : Value) (wr : World) : Prop :=
  ∃ recs d x A n c B m e, recs.length ≤ i ∧ i ≤ 14 ∧ CBox wr (fun k => w0.heap.size ≤ k ∧ k ≠ bd ∧ k ≠ bd + 1 ∧ k ≠ bd + 1 + 1 ∧ all.ownBlock ≠ some k) bd A n c B m e d x ∧ Holds 20 d 2 16 0 1 recs x ∧
    wr.ownsRow (bd + 3) 9 1 all recs.length (secV recs) ∧ Below w0.heap.size w0 wr

theorem CBox.put {w : World} {V : Nat → Prop} {b n c m e : Nat} {A B : Option Addr} {d : Disk} {x : Log} {lf : Int} {dd : Bool} {vs us : Array Value} (hvs : vs.size = 4) (hus : us.size = 4) (hd : Box w b 50 vs) (hf : Box w (b + 1) 67 #[.int .i64 2, .int .i64 16, .int .i64 0, .int .i64 1]) (hx : Box w (b + 1 + 1) 67 us)
    (hD : Dk w V A n c B m e d) (hV : ∀ k, V k → k ≠ b ∧ k ≠ b + 1 + 1) (h1 : lf = d.left) (h2 : dd = d.dead) :
    CBox ((((((((w.setCell ⟨b, 0, none⟩ (.slice A n c)).setCell ⟨b, 1, none⟩ (.slice B m e)).setCell ⟨b, 2, none⟩ (.int .i64 lf)).setCell ⟨b, 3, none⟩ (.bool dd)).setCell ⟨b + 1 + 1, 0, none⟩ (.int .i64 (x.frm : Nat))).setCell ⟨b + 1 + 1, 1, none⟩ (.int .i64 (x.len : Nat))).setCell ⟨b + 1 + 1, 2, none⟩ (.int .i64 (x.at_ : Nat))).setCell ⟨b + 1 + 1, 3, none⟩ (.int .i64 (x.seq : Nat))) V b A n c B m e d x := by
  subst h1 h2
  obtain ⟨v0, v1, v2, v3, rfl⟩ := four_of hvs
  obtain ⟨u0, u1, u2, u3, rfl⟩ := four_of hus
  exact ⟨hd.set4.far4 (by omega), (hf.far4 (by omega)).far4 (by omega), (hx.far4 (by omega)).set4, (hD.set4 fun k hk => (hV k hk).1).set4 fun k hk => (hV k hk).2⟩
/-- a disk written anew -/
theorem CBox.putD {w : World} {V : Nat → Prop} {b n c m e : Nat} {A B : Option Addr} {d : Disk} {x : Log} {lf : Int} {dd : Bool} {vs : Array Value} (hvs : vs.size = 4) (hd : Box w b 50 vs) (hf : Box w (b + 1) 67 #[.int .i64 2, .int .i64 16, .int .i64 0, .int .i64 1])
    (hx : Box w (b + 1 + 1) 67 #[.int .i64 (x.frm : Nat), .int .i64 (x.len : Nat), .int .i64 (x.at_ : Nat), .int .i64 (x.seq : Nat)]) (hD : Dk w V A n c B m e d) (hV : ∀ k, V k → k ≠ b) (h1 : lf = d.left) (h2 : dd = d.dead) :
    CBox ((((w.setCell ⟨b, 0, none⟩ (.slice A n c)).setCell ⟨b, 1, none⟩ (.slice B m e)).setCell ⟨b, 2, none⟩ (.int .i64 lf)).setCell ⟨b, 3, none⟩ (.bool dd)) V b A n c B m e d x := by
  subst h1 h2
  obtain ⟨v0, v1, v2, v3, rfl⟩ := four_of hvs
  exact ⟨hd.set4, hf.far4 (by omega), hx.far4 (by omega), hD.set4 hV⟩
/-- the log behind written anew -/
theorem CBox.putX {w : World} {V : Nat → Prop} {b n c m e : Nat} {A B : Option Addr} {d : Disk} {x : Log} {us : Array Value} (hus : us.size = 4) (hd : Box w b 50 #[.slice A n c, .slice B m e, .int .i64 d.left, .bool d.dead]) (hf : Box w (b + 1) 67 #[.int .i64 2, .int .i64 16, .int .i64 0, .int .i64 1])
    (hx : Box w (b + 1 + 1) 67 us) (hD : Dk w V A n c B m e d) (hV : ∀ k, V k → k ≠ b + 1 + 1) :
    CBox ((((w.setCell ⟨b + 1 + 1, 0, none⟩ (.int .i64 (x.frm : Nat))).setCell ⟨b + 1 + 1, 1, none⟩ (.int .i64 (x.len : Nat))).setCell ⟨b + 1 + 1, 2, none⟩ (.int .i64 (x.at_ : Nat))).setCell ⟨b + 1 + 1, 3, none⟩ (.int .i64 (x.seq : Nat))) V b A n c B m e d x := by
  obtain ⟨u0, u1, u2, u3, rfl⟩ := four_of hus
  exact ⟨hd.far4 (by omega), hf.far4 (by omega), hx.set4, hD.set4 hV⟩
theorem cutR_drew {w0 wr : World} {bd i : Nat} {v : Value} (h : CutR w0 bd i v wr) : CutR w0 bd i v wr.drew := by
  obtain ⟨recs, d, x, A, n, c, B, m, e, h1, h2, h3, h4, h5, h6⟩ := h
  exact ⟨recs, d, x, A, n, c, B, m, e, h1, h2, h3.below (Below.refl _ _).drew, h4, own_below h5 (Below.refl _ _).drew, h6.drew⟩
theorem holds_left {n frm len at0 q0 : Nat} {d : Disk} {recs : List Bytes} {l : Log} (h : Holds n d frm len at0 q0 recs l) : -1 ≤ d.left := ((DiskP.may_iff d).1 h.live.may).2.2.1

theorem octs_mkB (l : List Bytes) : octs (l.map mkB) = l := by
  induction l with
  | nil => rfl
  | cons b l ih => rw [List.map_cons, octs_cons, ih, oct_mkB]
theorem flatMap_get {α : Type} {f : α → List Value} {sz : Nat} (hf : ∀ x, (f x).length = sz) : ∀ {l : List α} {i k : Nat} {y : α} {u : Value}, l[i]? = some y → (f y)[k]? = some u → (l.flatMap f)[i * sz + k]? = some u
  | [], i, k, y, u, h, _ => by simp at h
  | x :: l, 0, k, y, u, h, hu => by
    simp only [List.getElem?_cons_zero, Option.some.injEq] at h
    subst h
    rw [List.flatMap_cons, Nat.zero_mul, Nat.zero_add, List.getElem?_append_left (List.getElem?_eq_some_iff.1 hu).1]
    exact hu
  | x :: l, i + 1, k, y, u, h, hu => by
    rw [List.flatMap_cons, List.getElem?_append_right (by rw [hf, Nat.add_mul]; omega), hf, show (i + 1) * sz + k - sz = i * sz + k by rw [Nat.add_mul]; omega]
    exact flatMap_get hf (by simpa using h) hu
theorem ft_len (y : FtT) : (ftCells y).length = 3 := rfl
/-- a fate of a list in memory -/
theorem sl_fate {w : World} {V : Nat → Prop} {A : Option Addr} {n i : Nat} {l : List FtT} (h : Sl w V 3 A n (l.flatMap ftCells)) (hi : i < n) :
    ∃ a y, A = some a ∧ y ∈ l ∧ (a.add (i * 3)).block < w.heap.size ∧ w.cell? (a.add (i * 3)) = some (.slice y.1 y.2.1 y.2.2.1) ∧ w.cell? ⟨(a.add (i * 3)).block, (a.add (i * 3)).off + 1, none⟩ = some (.int .i64 y.2.2.2.torn) ∧ w.cell? ⟨(a.add (i * 3)).block, (a.add (i * 3)).off + 2, none⟩ = some (.int .i64 y.2.2.2.cut) := by
  obtain ⟨a, e, _, hb, hc⟩ := h.2 (by omega)
  have hl : i < l.length := by have := h.1; rw [flatMap_lenB ft_len] at this; omega
  have g := fun k u hu => flatMap_get (k := k) (u := u) ft_len (List.getElem?_eq_getElem hl) hu
  refine ⟨a, l[i], e, List.getElem_mem hl, by rw [blk_add]; exact hb, hc _ _ (g 0 _ rfl), ?_, ?_⟩
  · rw [← Addr.add_succ' _ 0, add_add']; exact hc _ _ (g 1 _ rfl)
  · rw [← Addr.add_succ' _ 1, add_add']; exact hc _ _ (g 2 _ rfl)
theorem cutR_step {w0 wq wB w5 : World} {bd i n c m e n2 c2 m2 e2 : Nat} {A B A2 B2 : Option Addr} {d d' : Disk} {x l' : Log} {recs : List Bytes} {s : Bytes} {v v2 : Value} {lf2 : Int} {dd2 : Bool} {V : Nat → Prop}
    (hs1 : w0.heap.size ≤ bd) (hbw : Below w0.heap.size w0 wq) (hri : recs.length ≤ i) (hi : i + 1 ≤ 14) (kL : CBox wq V bd A n c B m e d x) (hV : V = fun k => w0.heap.size ≤ k ∧ k ≠ bd ∧ k ≠ bd + 1 ∧ k ≠ bd + 1 + 1 ∧ v.ownBlock ≠ some k)
    (hown : wq.ownsRow (bd + 3) 9 1 v recs.length (secV recs)) (hbB : Below wq.heap.size wq wB) (hA : Apd wB w5 (bd + 3) 9 1 v v2 (recs.length + 1) (secV (recs ++ [s])))
    (hD2 : Dk wB (fun k => (V k ∧ k < wq.heap.size) ∨ wq.heap.size ≤ k) A2 n2 c2 B2 m2 e2 d') (hH' : Holds 20 d' 2 16 0 1 (recs ++ [s]) l') (h1 : lf2 = d'.left) (h2 : dd2 = d'.dead) :
    CutR w0 bd (i + 1) v2 ((((((((w5.setCell ⟨bd, 0, none⟩ (.slice A2 n2 c2)).setCell ⟨bd, 1, none⟩ (.slice B2 m2 e2)).setCell ⟨bd, 2, none⟩ (.int .i64 lf2)).setCell ⟨bd, 3, none⟩ (.bool dd2)).setCell ⟨bd + 1 + 1, 0, none⟩ (.int .i64 (l'.frm : Nat))).setCell ⟨bd + 1 + 1, 1, none⟩ (.int .i64 (l'.len : Nat))).setCell ⟨bd + 1 + 1, 2, none⟩ (.int .i64 (l'.at_ : Nat))).setCell ⟨bd + 1 + 1, 3, none⟩ (.int .i64 (l'.seq : Nat))) := by
  subst hV
  have hoB := own_below hown hbB
  have hxl := kL.bx.lt
  have hBs := hbB.size
  have hb5 := hA.below hoB (Below.refl (bd + 3) wB) (Nat.le_refl _) (by omega)
  have hlt := hown.lt
  have kd5 := (kL.bd.belowS hbB).below hb5 (by omega)
  have kf5 := (kL.bf.belowS hbB).below hb5 (by omega)
  have kx5 := (kL.bx.belowS hbB).below hb5 (by omega)
  have hD5 := hD2.lt'.keep hA.size fun b hb1 hb2 => hA.far hb2 fun e => by
    rcases hb1.1 with h | h
    · exact h.1.2.2.2.2 e
    · have := (hlt _ e).2; omega
  have hne : ∀ j, v2.ownBlock = some j → v.ownBlock = some j ∨ wB.heap.size ≤ j := fun j e => by
    rcases hA.at_ with h | ⟨g, h, hg⟩
    · exact .inl (h ▸ e)
    · rw [h] at e; injection e with e; exact .inr (by omega)
  refine ⟨recs ++ [s], d', l', A2, n2, c2, B2, m2, e2, by simp; omega, hi, ?_, hH', ?_, ?_⟩
  · refine CBox.put (x := l') rfl rfl kd5 kf5 kx5 (hD5.mono fun k hk => ?_) (fun k hk => ⟨hk.2.1, hk.2.2.2.1⟩) h1 h2
    have := hbw.size
    rcases hk.1 with ⟨h, _⟩ | h
    · exact ⟨h.1, h.2.1, h.2.2.1, h.2.2.2.1, fun e => (hne k e).elim h.2.2.2.2 fun g => by have := hk.2; omega⟩
    · have := hk.2
      exact ⟨by omega, by omega, by omega, by omega, fun e => (hne k e).elim (fun g => by have := (hlt _ g).2; omega) fun g => by omega⟩
  · rw [List.length_append, List.length_singleton]
    exact own_set4 (own_set4 hA.own (by omega) _ _ _ _) (by omega) _ _ _ _
  · exact below_set4 (below_set4 ((hbw.trans (hbB.mono hbw.size)).trans (hb5.mono (by omega))) hs1) (by omega)

set_option maxRecDepth 100000 in
set_option maxHeartbeats 12800000 in
theorem logCuts_walk (A0 : Option Addr) (n0 c0 : Nat) (ss : List ByteArray) (AB : Option Addr) (nb cb : Nat) (lb : List UInt8) (AF : Option Addr) (nf cf : Nat) (lf0 : List FtT) (w : World) (hs : Sl w (fun _ => True) 1 A0 n0 (strs ss)) (hn : n0 ≤ 9223372036854775807) (hz : ∀ s ∈ ss, s.size ≤ 9223372036854775807)
    (hsb : Sl w (fun _ => True) 1 AB nb (bytesV lb)) (hnb : nb ≤ 9223372036854775807) (hsf : Sl w (fun _ => True) 3 AF nf (lf0.flatMap ftCells)) (hnf : nf ≤ 9223372036854775807) (hzf : ∀ y ∈ lf0, FtOk w y) :
    Calls Try.prog 13 #[.slice A0 n0 c0, .slice AB nb cb, .slice AF nf cf] w fun q w' => q = .returned (.bool true) ∧ Below w.heap.size w w' := by
  have HSO := hide (fun w1 => some_any 20 w1 (by decide) (by decide))
  have HZ := hide hz
  have HS := hide hs
  have HSB := hide hsb
  have HSF := hide hsf
  have HZF := hide hzf
  clear hz hs hsb hsf hzf
  go_enter Try.func13, Try.ntmps13
  go_wp2_with fail
  refine (HSO.out _).mono ?_
  rintro q w1 ⟨v, rfl, ⟨A, n, c, B, m, e, rfl, hD⟩, hb1⟩
  have hh := LogP.holds_new (n := 20) (frm := 2) (len := 16) (q := 1) (by decide) (by decide) (by decide) (by decide) (by decide) (by decide)
  obtain ⟨d, hd⟩ : ∃ d, d = DiskP.new 20 := ⟨_, rfl⟩
  rw [← hd] at hh hD ⊢
  obtain ⟨lf, hlf⟩ : ∃ lf, lf = d.left := ⟨_, rfl⟩
  obtain ⟨dd, hdd⟩ : ∃ dd, dd = d.dead := ⟨_, rfl⟩
  simp only [dkv]
  rw [← hlf, ← hdd]
  have HLF := hide hlf
  have HDD := hide hdd
  have HH := hide hh
  have HD := hide hD
  have hs1 := hb1.size
  clear hd hh hD hlf hdd HSO
  have kd := ((Box.new w1 50 #[.slice A n c, .slice B m e, .int .i64 lf, .bool dd]).up (.cells #[.int .i64 2, .int .i64 16, .int .i64 0, .int .i64 1] 67)).up (.cells #[.int .i64 2, .int .i64 16, .int .i64 0, .int .i64 1] 67)
  have kf := (Box.new (w1.alloc (.cells #[.slice A n c, .slice B m e, .int .i64 lf, .bool dd] 50)) 67 #[.int .i64 2, .int .i64 16, .int .i64 0, .int .i64 1]).up (.cells #[.int .i64 2, .int .i64 16, .int .i64 0, .int .i64 1] 67)
  have kx := Box.new ((w1.alloc (.cells #[.slice A n c, .slice B m e, .int .i64 lf, .bool dd] 50)).alloc (.cells #[.int .i64 2, .int .i64 16, .int .i64 0, .int .i64 1] 67)) 67 #[.int .i64 2, .int .i64 16, .int .i64 0, .int .i64 1]
  simp only [World.size_alloc] at kf kx
  have hbA : Below w1.heap.size w1 (((w1.alloc (.cells #[.slice A n c, .slice B m e, .int .i64 lf, .bool dd] 50)).alloc (.cells #[.int .i64 2, .int .i64 16, .int .i64 0, .int .i64 1] 67)).alloc (.cells #[.int .i64 2, .int .i64 16, .int .i64 0, .int .i64 1] 67)) := (((Below.refl _ _).alloc (Nat.le_refl _) _).alloc (by simp) _).alloc (by simp; omega) _
  have hbw := hb1.trans (hbA.mono hs1)
  have hDA := (HD.out.lt'.below hbA).mono (V' := fun k => w.heap.size ≤ k ∧ k ≠ w1.heap.size ∧ k ≠ w1.heap.size + 1 ∧ k ≠ w1.heap.size + 1 + 1 ∧ (Value.slice none 0 0).ownBlock ≠ some k) fun k hk => ⟨hk.1, by omega, by omega, by omega, by simp [Value.ownBlock]⟩
  have HN0 : Hid (CutR w w1.heap.size 0 (.slice none 0 0) (((w1.alloc (.cells #[.slice A n c, .slice B m e, .int .i64 lf, .bool dd] 50)).alloc (.cells #[.int .i64 2, .int .i64 16, .int .i64 0, .int .i64 1] 67)).alloc (.cells #[.int .i64 2, .int .i64 16, .int .i64 0, .int .i64 1] 67))) :=
    ⟨[], d, ⟨2, 16, 0, 1⟩, A, n, c, B, m, e, Nat.le_refl _, by omega, ⟨by rw [← HLF.out, ← HDD.out]; exact kd, kf, kx, hDA⟩, HH.out, ⟨rfl, .inl ⟨rfl, rfl⟩⟩, hbw⟩
  obtain ⟨bd, hbd⟩ : ∃ bd, bd = w1.heap.size := ⟨_, rfl⟩
  rw [← hbd] at HN0 hs1
  have HBD := hide hbd
  clear kd kf kx hbA hbw hDA HD HH HLF HDD
  go_upto_block 0 with (fail)
  rw [← HBD.out]
  clear hbd
  go_cut [10] from 11 to 119 (fun all wc => ∃ i, CutR w bd i all wc)
  case first =>
    go_wp2_with fail
    go_loopw [10, 11] (fun all iv wr => ∃ i : Nat, iv = .int .i64 i ∧ CutR w bd i all wr) (fun _ iv _ => 14 - (intOf iv).toNat)
    case atStart => exact ⟨0, rfl, HN0.out⟩
    case round =>
      clear HN0 HBD
      obtain ⟨i, rfl, recs, d, x, A, n, c, B, m, e, hri, hi9, kL, hH, hown, hbw⟩ := hrel
      by_cases hgo : i < n0 ∧ i < 14
      · obtain ⟨h1, h2⟩ := hgo
        obtain ⟨aS, s, eA, es, hcS⟩ := (HS.out.below hbw).str h1
        have hfew := fun w2 => few18_any s w2 (HZ.out s (List.mem_of_getElem? es))
        have hfz := few18_size s
        obtain ⟨fs, hfs⟩ : ∃ fs, fs = few18 s := ⟨_, rfl⟩
        rw [← hfs] at hfew hfz
        have HFEW := hide hfew
        have d1 : decide (i < n0) = true := by simpa using h1
        have d2 : decide ((i : Int) < 14) = true := by simp; omega
        have hni : (i : Int) < (n0 : Int) := by omega
        have HKL := hide kL
        have HH := hide hH
        have HOWN := hide hown
        clear hfew hfs es kL hH hown
        obtain ⟨bq, hbq⟩ : ∃ bq, bq = decide (i < nb) := ⟨_, rfl⟩
        have hq := hbq.symm
        have HBQ := hide hbq
        clear hbq
        subst eA
        go_wp2_with fail
        refine (HFEW.out _).mono ?_
        rintro q w2 ⟨rfl, rfl⟩
        go_upto_if 46 with (fail)
        clear HFEW hcS hq
        go_cut [13, 14] from 46 to 60 (fun _ _ wx => ∃ A' n' c' B' m' e' d', CBox wx (fun k => w.heap.size ≤ k ∧ k ≠ bd ∧ k ≠ bd + 1 ∧ k ≠ bd + 1 + 1 ∧ u10.ownBlock ≠ some k) bd A' n' c' B' m' e' d' x ∧ Holds 20 d' 2 16 0 1 recs x ∧ wx.ownsRow (bd + 3) 9 1 u10 recs.length (secV recs) ∧ Below w.heap.size w wx)
        case first =>
          cases bq with
          | true =>
            have hb : i < nb := of_decide_eq_true HBQ.out.symm
            obtain ⟨aB, kb, eB, hcB⟩ := u8_cell (HSB.out.below hbw) hb
            have hltB : (aB.add i).block < wr.heap.size := World.block_lt_of_cell? wr _ hcB
            obtain ⟨kv, hkv⟩ : ∃ kv, kv = kb.toNat := ⟨_, rfl⟩
            have hkv256 : kv < 256 := by rw [hkv]; exact UInt8.toNat_lt _
            rw [← hkv] at hcB
            obtain ⟨q9, hq9⟩ : ∃ q, q = kv % 9 := ⟨_, rfl⟩
            have w8 : ∀ z : Nat, z < 256 → IntKind.u8.wrap (z : Int) = (z : Int) := by
              intro z hz
              have : ∀ z : Fin 256, IntKind.u8.wrap ((z.val : Nat) : Int) = ((z.val : Nat) : Int) := by decide
              exact this ⟨z, hz⟩
            have HQ9 : Hid ((kv : Int).tmod 9 = (q9 : Int) ∧ IntKind.u8.wrap (q9 : Int) = (q9 : Int)) := ⟨by rw [Int.tmod_eq_emod_of_nonneg (by omega), hq9]; rfl, w8 q9 (by omega)⟩
            have HQ5 : Hid (IntKind.i64.wrap (q9 : Int) = (q9 : Int)) := IntWalk.i64_in _ (by omega)
            have HIB : Hid ((i : Int) < (nb : Int) ∧ (0 : Int) ≤ (i : Int) ∧ i < nb) := ⟨by omega, by omega, hb⟩
            obtain ⟨lf, hlf⟩ : ∃ lf, lf = d.left := ⟨_, rfl⟩
            obtain ⟨dd, hdd⟩ : ∃ dd, dd = d.dead := ⟨_, rfl⟩
            have kbd := HKL.out.bd
            have HBUD : Hid (∀ ww V', Dk ww V' A n c B m e d → Calls Try.prog 41 #[dkv A n c B m e lf dd, .int .i64 (q9 : Nat)] ww fun q w' => q = .returned (.tuple #[dkv A n c B m e (q9 : Nat) dd, .int .i64 0]) ∧ Below ww.heap.size ww w') := fun ww V' hD => by
              rw [hlf, hdd]
              exact budget_any A n c B m e d V' (q9 : Int) ww hD HH.out.live.may (by omega)
            rw [← hlf, ← hdd] at kbd
            have HDK := hide HKL.out.dk
            have HBH := hide (HH.out.budget (k := (q9 : Int)) (by omega))
            have HDD := hide hdd
            have hq9s : (q9 : Int) ≤ 9223372036854775807 := by omega
            clear w8 hq9 hkv hkv256 hlf hdd hb
            subst eB
            go_upto_region 10 with (fail)
            go_cut [13, 14] from 47 to 57 (fun p ev wx => ∃ b13, p = .pointer (some ⟨b13, 0, none⟩) ∧ ev = .int .i64 0 ∧ Box wx b13 50 #[.slice A n c, .slice B m e, .int .i64 (q9 : Nat), .bool dd] ∧ wr.heap.size ≤ b13 ∧ Below wr.heap.size wr wx)
            case first =>
              refine wp_region_noPanic ?_
              refine RegS.region (ds := [48, 49, 50, 51, 52, 53, 54, 55, 47, 56, 57, 13]) (pure := [8, 9, 10]) (fresh := [11])
                (G := Gs [.is (dkv A n c B m e lf dd), .is (.slice (some aB) nb cb), .is (.int .i64 (i : Nat)), .is (.pointer (some (aB.add i))), .is (.int .u8 (kv : Nat)), .is (.int .u8 (q9 : Nat)), .is (.int .i64 (q9 : Nat)), .two (.is (dkv A n c B m e (q9 : Nat) dd)) (.int .i64 0), .two (.is (dkv A n c B m e (q9 : Nat) dd)) (.int .i64 0), .is (dkv A n c B m e (q9 : Nat) dd), .is (.int .i64 0), .box wr.heap.size 50 #[.slice none 0 0, .slice none 0 0, .int .i64 0, .bool false]])
                rfl (by kernel_rfl) (by kernel_rfl) ⟨by kernel_rfl, by kernel_rfl, fun i _ v w w' => gs_keep _ i v w w', ?quiet, ?step⟩ (fun _ _ _ _ _ h => h) ?tail
              case quiet =>
                intro i o hi hp ho u ww hd
                obtain rfl | rfl | rfl : i = 8 ∨ i = 9 ∨ i = 10 := by simp at hp; omega
                · simp only [List.getElem?_toArray, List.getElem?_cons_succ, List.getElem?_cons_zero, Option.some.injEq] at ho
                  subst ho
                  simp only [RegS.putAll, List.length_cons, List.length_nil, Nat.reduceAdd, List.getD_cons_zero, List.getD_cons_succ, Act.put, List.setIfInBounds_toArray, List.set_cons_zero, List.set_cons_succ]
                  exact ⟨_, fun _ => rfl, hd 7 (by decide) (by rfl)⟩
                · simp only [List.getElem?_toArray, List.getElem?_cons_succ, List.getElem?_cons_zero, Option.some.injEq] at ho
                  subst ho
                  simp only [RegS.putAll, List.length_cons, List.length_nil, Nat.reduceAdd, List.getD_cons_zero, List.getD_cons_succ, Act.put, List.setIfInBounds_toArray, List.set_cons_zero, List.set_cons_succ]
                  obtain ⟨x, e, h⟩ := hd 8 (by decide) (by rfl)
                  rw [e]
                  exact ⟨_, fun _ => rfl, h⟩
                · simp only [List.getElem?_toArray, List.getElem?_cons_succ, List.getElem?_cons_zero, Option.some.injEq] at ho
                  subst ho
                  simp only [RegS.putAll, List.length_cons, List.length_nil, Nat.reduceAdd, List.getD_cons_zero, List.getD_cons_succ, Act.put, List.setIfInBounds_toArray, List.set_cons_zero, List.set_cons_succ]
                  obtain ⟨x, e, h⟩ := hd 8 (by decide) (by rfl)
                  rw [e]
                  exact ⟨_, fun _ => rfl, rfl⟩
              case step =>
                intro i o hi hp ho u ww hb hd K hK
                obtain rfl | rfl | rfl | rfl | rfl | rfl | rfl | rfl | rfl : i = 0 ∨ i = 1 ∨ i = 2 ∨ i = 3 ∨ i = 4 ∨ i = 5 ∨ i = 6 ∨ i = 7 ∨ i = 11 := by simp at hp hi; omega
                · simp only [List.getElem?_toArray, List.getElem?_cons_succ, List.getElem?_cons_zero, Option.some.injEq] at ho
                  subst ho
                  simp only [RegS.putAll, List.length_cons, List.length_nil, Nat.reduceAdd, List.getD_cons_zero, List.getD_cons_succ, Act.put, List.setIfInBounds_toArray, List.set_cons_zero, List.set_cons_succ]
                  obtain ⟨q0, q1, q2, q3⟩ := (kbd.belowS hb).cell4
                  go_simp
                  exact hK _ _ rfl (Below.refl _ _) rfl (fun h => absurd h (by decide))
                · simp only [List.getElem?_toArray, List.getElem?_cons_succ, List.getElem?_cons_zero, Option.some.injEq] at ho
                  subst ho
                  simp only [RegS.putAll, List.length_cons, List.length_nil, Nat.reduceAdd, List.getD_cons_zero, List.getD_cons_succ, Act.put, List.setIfInBounds_toArray, List.set_cons_zero, List.set_cons_succ]
                  go_simp
                  exact hK _ _ rfl (Below.refl _ _) rfl (fun h => absurd h (by decide))
                · simp only [List.getElem?_toArray, List.getElem?_cons_succ, List.getElem?_cons_zero, Option.some.injEq] at ho
                  subst ho
                  simp only [RegS.putAll, List.length_cons, List.length_nil, Nat.reduceAdd, List.getD_cons_zero, List.getD_cons_succ, Act.put, List.setIfInBounds_toArray, List.set_cons_zero, List.set_cons_succ]
                  go_simp
                  exact hK _ _ rfl (Below.refl _ _) rfl (fun h => absurd h (by decide))
                · simp only [List.getElem?_toArray, List.getElem?_cons_succ, List.getElem?_cons_zero, Option.some.injEq] at ho
                  subst ho
                  simp only [RegS.putAll, List.length_cons, List.length_nil, Nat.reduceAdd, List.getD_cons_zero, List.getD_cons_succ, Act.put, List.setIfInBounds_toArray, List.set_cons_zero, List.set_cons_succ]
                  have e1 : u 1 = .slice (some aB) nb cb := hd 1 (by decide) (by rfl)
                  have e2 : u 2 = .int .i64 (i : Nat) := hd 2 (by decide) (by rfl)
                  obtain ⟨y1, y2, y3⟩ := HIB.out
                  go_simp
                  exact hK _ _ rfl (Below.refl _ _) rfl (fun h => absurd h (by decide))
                · simp only [List.getElem?_toArray, List.getElem?_cons_succ, List.getElem?_cons_zero, Option.some.injEq] at ho
                  subst ho
                  simp only [RegS.putAll, List.length_cons, List.length_nil, Nat.reduceAdd, List.getD_cons_zero, List.getD_cons_succ, Act.put, List.setIfInBounds_toArray, List.set_cons_zero, List.set_cons_succ]
                  have e3 : u 3 = .pointer (some (aB.add i)) := hd 3 (by decide) (by rfl)
                  have hcs := (hb.cell (p := aB.add i) hltB).trans hcB
                  go_simp
                  exact hK _ _ rfl (Below.refl _ _) rfl (fun h => absurd h (by decide))
                · simp only [List.getElem?_toArray, List.getElem?_cons_succ, List.getElem?_cons_zero, Option.some.injEq] at ho
                  subst ho
                  simp only [RegS.putAll, List.length_cons, List.length_nil, Nat.reduceAdd, List.getD_cons_zero, List.getD_cons_succ, Act.put, List.setIfInBounds_toArray, List.set_cons_zero, List.set_cons_succ]
                  have e4 : u 4 = .int .u8 (kv : Nat) := hd 4 (by decide) (by rfl)
                  have y1 := HQ9.out
                  go_simp
                  exact hK _ _ rfl (Below.refl _ _) rfl (fun h => absurd h (by decide))
                · simp only [List.getElem?_toArray, List.getElem?_cons_succ, List.getElem?_cons_zero, Option.some.injEq] at ho
                  subst ho
                  simp only [RegS.putAll, List.length_cons, List.length_nil, Nat.reduceAdd, List.getD_cons_zero, List.getD_cons_succ, Act.put, List.setIfInBounds_toArray, List.set_cons_zero, List.set_cons_succ]
                  have e5 : u 5 = .int .u8 (q9 : Nat) := hd 5 (by decide) (by rfl)
                  have y1 := HQ5.out
                  go_simp
                  exact hK _ _ rfl (Below.refl _ _) rfl (fun h => absurd h (by decide))
                · simp only [List.getElem?_toArray, List.getElem?_cons_succ, List.getElem?_cons_zero, Option.some.injEq] at ho
                  subst ho
                  simp only [RegS.putAll, List.length_cons, List.length_nil, Nat.reduceAdd, List.getD_cons_zero, List.getD_cons_succ, Act.put, List.setIfInBounds_toArray, List.set_cons_zero, List.set_cons_succ]
                  have e0 : u 0 = dkv A n c B m e lf dd := hd 0 (by decide) (by rfl)
                  have e6 : u 6 = .int .i64 (q9 : Nat) := hd 6 (by decide) (by rfl)
                  go_simp
                  refine (HBUD.out ww _ (HDK.out.below hb)).mono ?_
                  rintro q w2 ⟨rfl, hb2⟩
                  exact hK _ _ rfl hb2 ⟨_, rfl, rfl⟩ (fun h => absurd h (by decide))
                · simp only [List.getElem?_toArray, List.getElem?_cons_succ, List.getElem?_cons_zero, Option.some.injEq] at ho
                  subst ho
                  simp only [RegS.putAll, List.length_cons, List.length_nil, Nat.reduceAdd, List.getD_cons_zero, List.getD_cons_succ, Act.put, List.setIfInBounds_toArray, List.set_cons_zero, List.set_cons_succ]
                  go_simp
                  exact hK _ _ rfl ((Below.refl _ _).alloc (Nat.le_refl _) _) ⟨_, rfl, hb.size, Box.new _ _ _⟩ fun _ => ⟨rfl, by simp⟩
              case tail =>
                intro u ww hb hG hp hne
                simp only [RegS.putAll, List.length_cons, List.length_nil, Nat.reduceAdd, List.getD_cons_zero, List.getD_cons_succ, Act.put, List.setIfInBounds_toArray, List.set_cons_zero, List.set_cons_succ, List.drop_succ_cons, List.drop_zero]
                have e9 : u 9 = dkv A n c B m e (q9 : Nat) dd := hG 9 (by decide)
                have e10 : u 10 = .int .i64 0 := hG 10 (by decide)
                obtain ⟨b13, e11, l11, k11⟩ := hG 11 (by decide)
                simp only [dkv] at e9
                clear hG hp hne
                obtain ⟨q0, q1, q2, q3⟩ := k11.cell4
                have f0 := k11.frozen 0
                have f1' := k11.frozen 1
                have f2' := k11.frozen 2
                have f3' := k11.frozen 3
                go_wp2_with fail
                refine NoPanic.normal ?_
                go_wp2_with fail
                go_meet
                exact ⟨b13, by first | rfl | exact e11, by first | rfl | exact e10, k11.set4, l11, below_set4 hb l11⟩
            case rest =>
              revert wc
              intro wX hcut
              obtain ⟨b13, rfl, rfl, k13, l13, hbX⟩ := hcut
              have kdX := HKL.out.bd.belowS hbX
              have kfX := HKL.out.bf.belowS hbX
              have kxX := HKL.out.bx.belowS hbX
              have hDX := HKL.out.dk.below hbX
              have hoX := own_below HOWN.out hbX
              have hbwX := hbw.trans (hbX.mono hbw.size)
              have hlx := HKL.out.bx.lt
              have n1 : b13 ≠ bd := by omega
              have n1' := n1.symm
              obtain ⟨q0, q1, q2, q3⟩ := k13.cell4
              obtain ⟨r0, r1, r2, r3⟩ := kdX.cell4
              have f0 := kdX.frozen 0
              have f1 := kdX.frozen 1
              have f2 := kdX.frozen 2
              have f3 := kdX.frozen 3
              have HX := hide hDX
              have HOX := hide hoX
              clear hDX hoX HBUD HDK kbd hcB hltB HQ9 HQ5
              go_wp2_with fail
              go_meet
              refine ⟨A, n, c, B, m, e, _, CBox.putD (d := { d with left := (q9 : Int) }) rfl kdX kfX kxX (HX.out.other rfl rfl hq9s) (fun k hk => hk.2.1) rfl HDD.out, HBH.out, own_set4 HOX.out (by omega) _ _ _ _, below_set4 hbwX hs1⟩
          | false =>
            go_wp2_with fail
            go_meet
            exact ⟨A, n, c, B, m, e, d, HKL.out, HH.out, HOWN.out, hbw⟩
        case rest =>
          revert wc
          intro wq hcut
          clear HKL HH HOWN hbw
          obtain ⟨A, n, c, B, m, e, d, kL, hH, hown, hbw⟩ := hcut
          obtain ⟨V, hV⟩ : ∃ V : Nat → Prop, V = fun k => w.heap.size ≤ k ∧ k ≠ bd ∧ k ≠ bd + 1 ∧ k ≠ bd + 1 + 1 ∧ u10.ownBlock ≠ some k := ⟨_, rfl⟩
          rw [← hV] at kL
          have hroom : 1 + recs.length ≤ LogP.maxSeq := by unfold LogP.maxSeq; omega
          have hap := fun ww hD => append_any A n c B m e d (fun b => V b ∧ b < wq.heap.size) x fs ww hD (hH.okL hroom) (by have := kL.dk.wlen; rw [hH.quiet] at this; simp at this; omega) (by omega)
          obtain ⟨RR, hRR⟩ : ∃ RR, RR = LogP.appendP d x (oct fs) := ⟨_, rfl⟩
          rw [← hRR] at hap
          obtain ⟨lf, hlf⟩ : ∃ lf, lf = d.left := ⟨_, rfl⟩
          obtain ⟨dd, hdd⟩ : ∃ dd, dd = d.dead := ⟨_, rfl⟩
          have kbd := kL.bd
          have kbx := kL.bx
          have HDK := hide kL.dk
          have HKL := hide kL
          rw [← hlf, ← hdd] at kbd hap
          have HAP : Hid (∀ ww, Dk ww (fun b => V b ∧ b < wq.heap.size) A n c B m e d → Calls Try.prog 45 #[dkv A n c B m e lf dd, .agg #[.int .i64 (x.frm : Nat), .int .i64 (x.len : Nat), .int .i64 (x.at_ : Nat), .int .i64 (x.seq : Nat)], .string fs] ww fun q w' => ∃ v, q = .returned (.tuple #[v, lgv RR.2.1, .int .i64 (RR.2.2 : Nat)]) ∧ DkV w' (fun b => (V b ∧ b < wq.heap.size) ∨ ww.heap.size ≤ b) v RR.1 ∧ Below ww.heap.size ww w') := hap
          have HRR := hide hRR
          have HH := hide hH
          have HOWN := hide hown
          have HV := hide hV
          have HROOM := hide hroom
          clear hap hRR hH hown hV hlf hdd kL hroom
          obtain ⟨q0, q1, q2, q3⟩ := kbd.cell4
          obtain ⟨r0, r1, r2, r3⟩ := kbx.cell4
          go_wp2_with fail
          refine (HAP.out _ HDK.out.lt').mono ?_
          rintro q wc ⟨v, rfl, ⟨A2, n2, c2, B2, m2, e2, rfl, hD2⟩, hbc⟩
          have hbwc := hbw.trans (hbc.mono hbw.size)
          rcases HH.out.append HROOM.out (oct fs) with ⟨_, e1⟩ | ⟨_, _, e1⟩ | ⟨_, _, d', l', ev, e1, hev⟩
          · have hr := HRR.out.trans e1
            subst hr
            clear e1 HRR hD2 HAP HDK kbd kbx q0 q1 q2 q3 r0 r1 r2 r3
            go_wp2_with fail
            go_roundw
            case rel => exact ⟨i + 1, by go_num, recs, d, x, A, n, c, B, m, e, by omega, by omega, by rw [← HV.out]; exact (HKL.out.below hbc).below (((Below.refl _ _).alloc (Nat.le_refl _) _).alloc (by simp) _), HH.out, own_below (own_below HOWN.out hbc) (((Below.refl _ _).alloc (Nat.le_refl _) _).alloc (by simp) _), (hbwc.alloc hbwc.size _).alloc (by simp; have := hbwc.size; omega) _⟩
            case measure => simp [intOf]; omega
          · have hr := HRR.out.trans e1
            subst hr
            clear e1 HRR hD2 HAP HDK kbd kbx q0 q1 q2 q3 r0 r1 r2 r3
            go_wp2_with fail
            go_roundw
            case rel => exact ⟨i + 1, by go_num, recs, d, x, A, n, c, B, m, e, by omega, by omega, by rw [← HV.out]; exact (HKL.out.below hbc).below (((Below.refl _ _).alloc (Nat.le_refl _) _).alloc (by simp) _), HH.out, own_below (own_below HOWN.out hbc) (((Below.refl _ _).alloc (Nat.le_refl _) _).alloc (by simp) _), (hbwc.alloc hbwc.size _).alloc (by simp; have := hbwc.size; omega) _⟩
            case measure => simp [intOf]; omega
          · have hr := HRR.out.trans e1
            rcases hev with ⟨rfl, hH', hleft'⟩ | ⟨rfl, h14, rfl, hmay', hcr⟩
            · subst hr
              simp only at hD2
              obtain ⟨lf2, hlf2⟩ : ∃ lf2, lf2 = d'.left := ⟨_, rfl⟩
              obtain ⟨dd2, hdd2⟩ : ∃ dd2, dd2 = d'.dead := ⟨_, rfl⟩
              simp only [dkv, lgv]
              rw [← hlf2, ← hdd2]
              have k7c := (Box.new wc 50 #[.slice A2 n2 c2, .slice B2 m2 e2, .int .i64 lf2, .bool dd2]).up (.cells #[.int .i64 (l'.frm : Nat), .int .i64 (l'.len : Nat), .int .i64 (l'.at_ : Nat), .int .i64 (l'.seq : Nat)] 67)
              have k8c := Box.new (wc.alloc (.cells #[.slice A2 n2 c2, .slice B2 m2 e2, .int .i64 lf2, .bool dd2] 50)) 67 #[.int .i64 (l'.frm : Nat), .int .i64 (l'.len : Nat), .int .i64 (l'.at_ : Nat), .int .i64 (l'.seq : Nat)]
              rw [World.size_alloc] at k8c
              have hbB : Below wc.heap.size wc ((wc.alloc (.cells #[.slice A2 n2 c2, .slice B2 m2 e2, .int .i64 lf2, .bool dd2] 50)).alloc (.cells #[.int .i64 (l'.frm : Nat), .int .i64 (l'.len : Nat), .int .i64 (l'.at_ : Nat), .int .i64 (l'.seq : Nat)] 67)) := ((Below.refl _ _).alloc (Nat.le_refl _) _).alloc (by simp) _
              obtain ⟨wB, hwB⟩ : ∃ wB, wB = (wc.alloc (.cells #[.slice A2 n2 c2, .slice B2 m2 e2, .int .i64 lf2, .bool dd2] 50)).alloc (.cells #[.int .i64 (l'.frm : Nat), .int .i64 (l'.len : Nat), .int .i64 (l'.at_ : Nat), .int .i64 (l'.seq : Nat)] 67) := ⟨_, rfl⟩
              rw [← hwB] at k7c k8c hbB
              have hbqB := hbc.trans (hbB.mono hbc.size)
              have hDB := hD2.below hbB
              have hoB := own_below HOWN.out hbqB
              have kxB := kbx.belowS hbqB
              have hbdB : bd + 3 ≤ wB.heap.size := by have := kxB.lt; omega
              have hrl : recs.length ≤ 1000000000 := by omega
              have HWB := hide hwB
              have HLF2 := hide hlf2
              have HDD2 := hide hdd2
              have HH' := hide hH'
              have HDB := hide hDB
              clear e1 HRR hD2 HAP HDK kbd kbx q0 q1 q2 q3 r0 r1 r2 r3 hlf2 hdd2 hwB hDB hH' hleft'
              go_upto_region 16 with (fail)
              rw [← HWB.out]
              go_wp2_with (at_builtin; refine wp_app_str rfl _ _ rfl (bd + 3) _ _ (recs.map mkB) hoB rfl fs rfl (by omega) hbdB ?_; intro v7 w6 hA2)
              have hb6 := hA2.below hoB (Below.refl (bd + 3) wB) (Nat.le_refl _) hbdB
              have hlt := HOWN.out.lt
              have hcs := hbc.size
              have k76 := k7c.at (hA2.far k7c.lt fun e => by have := (hlt _ e).2; omega)
              have k86 := k8c.at (hA2.far k8c.lt fun e => by have := (hlt _ e).2; omega)
              have kd6 := (HKL.out.bd.belowS hbqB).below hb6 (by omega)
              have kx6 := kxB.below hb6 (by omega)
              have hxl := HKL.out.bx.lt
              rw [secV_snoc2] at hA2
              have HA2 := hide hA2
              have HBQB := hide hbqB
              have x1 : wc.heap.size ≠ bd := by omega
              have x2 : wc.heap.size ≠ bd + 1 + 1 := by omega
              have x3 : wc.heap.size + 1 ≠ bd := by omega
              have x4 : wc.heap.size + 1 ≠ bd + 1 + 1 := by omega
              have x1' := x1.symm
              have x2' := x2.symm
              have x3' := x3.symm
              have x4' := x4.symm
              clear hA2 hbqB hb6 hoB kxB hlt hbB k7c k8c
              obtain ⟨q0, q1, q2, q3⟩ := k76.cell4
              obtain ⟨r0, r1, r2, r3⟩ := k86.cell4
              obtain ⟨y0, y1, y2, y3⟩ := kd6.cell4
              obtain ⟨z0, z1, z2, z3⟩ := kx6.cell4
              have f0 := kd6.frozen 0
              have f1 := kd6.frozen 1
              have f2 := kd6.frozen 2
              have f3 := kd6.frozen 3
              have g0 := kx6.frozen 0
              have g1 := kx6.frozen 1
              have g2 := kx6.frozen 2
              have g3 := kx6.frozen 3
              go_region_law (fail)
              all_goals go_wp2_with fail
              all_goals
                go_roundw
                case rel => exact ⟨i + 1, by go_num, cutR_drew (cutR_step hs1 hbw hri (by omega) HKL.out HV.out HOWN.out HBQB.out HA2.out HDB.out HH'.out HLF2.out HDD2.out)⟩
                case measure => simp [intOf]; omega
            · subst hr
              simp only at hD2
              obtain ⟨lf2, hlf2⟩ : ∃ lf2, lf2 = d'.left := ⟨_, rfl⟩
              obtain ⟨dd2, hdd2⟩ : ∃ dd2, dd2 = d'.dead := ⟨_, rfl⟩
              simp only [dkv, lgv]
              rw [← hlf2, ← hdd2]
              have k7c := (Box.new wc 50 #[.slice A2 n2 c2, .slice B2 m2 e2, .int .i64 lf2, .bool dd2]).up (.cells #[.int .i64 (zeroL.frm : Nat), .int .i64 (zeroL.len : Nat), .int .i64 (zeroL.at_ : Nat), .int .i64 (zeroL.seq : Nat)] 67)
              have hbB : Below wc.heap.size wc ((wc.alloc (.cells #[.slice A2 n2 c2, .slice B2 m2 e2, .int .i64 lf2, .bool dd2] 50)).alloc (.cells #[.int .i64 (zeroL.frm : Nat), .int .i64 (zeroL.len : Nat), .int .i64 (zeroL.at_ : Nat), .int .i64 (zeroL.seq : Nat)] 67)) := ((Below.refl _ _).alloc (Nat.le_refl _) _).alloc (by simp) _
              obtain ⟨wB, hwB⟩ : ∃ wB, wB = (wc.alloc (.cells #[.slice A2 n2 c2, .slice B2 m2 e2, .int .i64 lf2, .bool dd2] 50)).alloc (.cells #[.int .i64 (zeroL.frm : Nat), .int .i64 (zeroL.len : Nat), .int .i64 (zeroL.at_ : Nat), .int .i64 (zeroL.seq : Nat)] 67) := ⟨_, rfl⟩
              rw [← hwB] at k7c hbB
              have hbqB := hbc.trans (hbB.mono hbc.size)
              have HDB := hide (hD2.below hbB)
              have HWB := hide hwB
              have HLF2 := hide hlf2
              have HDD2 := hide hdd2
              have HCR := hide hcr
              have HMY := hide hmay'
              obtain ⟨bq, hbq⟩ : ∃ bq, bq = decide (i < nf) := ⟨_, rfl⟩
              have hq := hbq.symm
              have HBQ2 := hide hbq
              have hbwB := hbw.trans (hbqB.mono hbw.size)
              clear e1 HRR hD2 HAP HDK kbd kbx q0 q1 q2 q3 r0 r1 r2 r3 hlf2 hdd2 hwB hcr hmay' hbq
              go_upto_region 19 with (fail)
              rw [← HWB.out]
              go_upto_if 83 with (fail)
              have kF := Box.new wB 47 #[.slice none 0 0, .int .i64 (-1), .int .i64 0]
              have hbF : Below wB.heap.size wB (wB.alloc (.cells #[.slice none 0 0, .int .i64 (-1), .int .i64 0] 47)) := (Below.refl _ _).alloc (Nat.le_refl _) _
              obtain ⟨wF, hwF⟩ : ∃ wF, wF = wB.alloc (.cells #[.slice none 0 0, .int .i64 (-1), .int .i64 0] 47) := ⟨_, rfl⟩
              rw [← hwF] at kF hbF ⊢
              have hbwF := hbwB.trans (hbF.mono hbwB.size)
              clear hwF hq
              go_cut [] from 83 to 88 (fun wx => ∃ FA fn fc ft, Box wx wB.heap.size 47 #[.slice FA fn fc, .int .i64 ft.torn, .int .i64 ft.cut] ∧ Ft wx (fun _ => True) FA fn fc ft ∧ Below wB.heap.size wB wx)
              case first =>
                cases bq with
                | true =>
                  have hb : i < nf := of_decide_eq_true HBQ2.out.symm
                  obtain ⟨aF, y, eF, hy, hlF, t0, t1, t2⟩ := sl_fate (HSF.out.below hbwF) hb
                  obtain ⟨FA, fn, fc, ft⟩ := y
                  obtain ⟨hFt, hfc1, hfc2⟩ := HZF.out _ hy
                  simp only at hFt hfc1 hfc2 t0 t1 t2
                  have hFtF : Ft wF (fun b => b < w.heap.size) FA fn fc ft := Ft.below ⟨hFt.sl.lt, hFt.le⟩ hbwF
                  obtain ⟨tn, htn⟩ : ∃ tn, tn = ft.torn := ⟨_, rfl⟩
                  obtain ⟨ct, hct⟩ : ∃ ct, ct = ft.cut := ⟨_, rfl⟩
                  have hfa := fun ww hF => fates_any FA fn fc ft (fun b => b < w.heap.size) ww hF hfc1 hfc2
                  unfold ftv at hfa
                  have e1 : (fates ft).torn = ft.torn := rfl
                  have e2 : (fates ft).cut = ft.cut := rfl
                  rw [e1, e2] at hfa
                  rw [← htn, ← hct] at hfa
                  rw [← htn] at t1
                  rw [← hct] at t2
                  have HFA := hide hfa
                  have HFT := hide hFtF
                  have HTN := hide htn
                  have HCT := hide hct
                  have hni2 : (i : Int) < (nf : Int) := by omega
                  have hkFl := kF.lt
                  clear hfa hFtF hFt htn hct e1 e2 hy
                  subst eF
                  go_wp2_with fail
                  refine (HFA.out _ HFT.out).mono ?_
                  rintro q wx ⟨nF, rfl, _, hbx, hFx⟩
                  have kFx := kF.belowS hbx
                  have u0' := kFx.cellAt (i := 0) rfl
                  have u1' := kFx.cellAt (i := 1) rfl
                  have u2' := kFx.cellAt (i := 2) rfl
                  have f0 := kFx.frozen 0
                  have f1 := kFx.frozen 1
                  have f2 := kFx.frozen 2
                  have HFX := hide hFx
                  clear t0 t1 t2 hFx
                  go_wp2_with fail
                  go_meet
                  have hsz := hbwB.size
                  refine ⟨FA, nF, fc, fates ft, ?_, ⟨?_, HFX.out.le⟩, ?_⟩
                  · show Box _ _ _ #[_, .int .i64 ft.torn, .int .i64 ft.cut]
                    rw [← HTN.out, ← HCT.out]
                    exact ((kFx.set 0 _).set 1 _).set 2 _
                  · refine (HFX.out.sl.keep (by simp) fun b h1 h2 => ?_).mono fun _ _ => trivial
                    rw [Below.heap_setCell _ _ _ _ (by show b ≠ wB.heap.size; omega), Below.heap_setCell _ _ _ _ (by show b ≠ wB.heap.size; omega), Below.heap_setCell _ _ _ _ (by show b ≠ wB.heap.size; omega)]
                  · exact (((hbF.trans (hbx.mono hbF.size)).setCell (Nat.le_refl _) _).setCell (Nat.le_refl _) _).setCell (Nat.le_refl _) _
                | false =>
                  have HKF := hide kF
                  clear kF
                  go_wp2_with fail
                  go_meet
                  exact ⟨none, 0, 0, ⟨[], -1, 0⟩, HKF.out, ⟨Sl.nil, Nat.zero_le _⟩, hbF⟩
              case rest =>
                revert wc
                intro wcA
                intro hcut
                obtain ⟨FA, fn, fc, ft, kFA, hFt, hbA⟩ := hcut
                have hbqA := hbqB.trans (hbA.mono hbqB.size)
                have hbwA := hbwB.trans (hbA.mono hbwB.size)
                have k7A := k7c.belowS hbA
                have kdA := HKL.out.bd.belowS hbqA
                have kfA := HKL.out.bf.belowS hbqA
                have kxA := HKL.out.bx.belowS hbqA
                have hDA := HDB.out.below hbA
                have hoA := own_below HOWN.out hbqA
                have hcra := crash_any A2 n2 c2 B2 m2 e2 d' _ (fun _ => True) FA fn fc ft wcA hDA HMY.out hFt
                obtain ⟨recs', x', hHC, hcase⟩ : ∃ recs' x', Holds 20 (DiskP.crash d' ft) 2 16 0 1 recs' x' ∧ (recs' = recs ∨ recs' = recs ++ [oct fs]) := by
                  rcases HCR.out ft with h | h
                  · exact ⟨_, _, h, .inl rfl⟩
                  · exact ⟨_, _, h, .inr rfl⟩
                obtain ⟨dC, hdC⟩ : ∃ dC, dC = DiskP.crash d' ft := ⟨_, rfl⟩
                rw [← hdC] at hcra hHC
                obtain ⟨tn, htn⟩ : ∃ tn, tn = ft.torn := ⟨_, rfl⟩
                obtain ⟨ct, hct⟩ : ∃ ct, ct = ft.cut := ⟨_, rfl⟩
                unfold ftv dkv at hcra
                rw [← htn, ← hct, ← HLF2.out, ← HDD2.out] at hcra
                rw [← htn, ← hct] at kFA
                have hl3 : recs'.length ≤ i + 1 := by
                  rcases hcase with h | h
                  · rw [h]; omega
                  · rw [h]; simp; omega
                have HCRA := hide hcra
                have HHC := hide hHC
                have HCASE := hide hcase
                have HOA := hide hoA
                have hbdl := kxA.lt
                clear hdC htn hct hcra hHC hcase hoA hDA hFt
                obtain ⟨q0, q1, q2, q3⟩ := k7A.cell4
                have t0 := kFA.cellAt (i := 0) rfl
                have t1 := kFA.cellAt (i := 1) rfl
                have t2 := kFA.cellAt (i := 2) rfl
                go_wp2_with fail
                refine HCRA.out.mono ?_
                rintro q wD ⟨v, rfl, ⟨A3, n3, c3, B3, m3, e3, rfl, hD3⟩, hbD⟩
                have kdD := kdA.belowS hbD
                have kfD := kfA.belowS hbD
                have kxD := kxA.belowS hbD
                have hoD := own_below HOA.out hbD
                have hbwD := hbwA.trans (hbD.mono hbwA.size)
                obtain ⟨lf3, hlf3⟩ : ∃ lf3, lf3 = dC.left := ⟨_, rfl⟩
                obtain ⟨dd3, hdd3⟩ : ∃ dd3, dd3 = dC.dead := ⟨_, rfl⟩
                simp only [dkv]
                rw [← hlf3, ← hdd3]
                have HD3 := hide hD3
                have HOD := hide hoD
                have hsc : ∀ ww V', Dk ww V' A3 n3 c3 B3 m3 e3 dC → Calls Try.prog 47 #[.agg #[.slice A3 n3 c3, .slice B3 m3 e3, .int .i64 lf3, .bool dd3], .agg #[.int .i64 2, .int .i64 16, .int .i64 0, .int .i64 1]] ww fun q w' => ∃ v, q = .returned (.tuple #[v, .agg #[.int .i64 (x'.frm : Nat), .int .i64 (x'.len : Nat), .int .i64 (x'.at_ : Nat), .int .i64 (x'.seq : Nat)], .int .i64 0]) ∧ OwnT w' ww.heap.size v recs' ∧ Below ww.heap.size ww w' := by
                  intro ww V' hD
                  have := scan_any A3 n3 c3 B3 m3 e3 dC V' ⟨2, 16, 0, 1⟩ ww hD (HHC.out.ok0 (by unfold LogP.maxSeq; omega))
                  rw [HHC.out.scan] at this
                  rw [hlf3, hdd3]
                  exact this
                have HSC := hide hsc
                have HLF3 := hide hlf3
                have HDD3 := hide hdd3
                clear hsc hlf3 hdd3 hD3 hoD q0 q1 q2 q3 t0 t1 t2
                obtain ⟨y0, y1, y2, y3⟩ := kdD.cell4
                have f0 := kdD.frozen 0
                have f1 := kdD.frozen 1
                have f2 := kdD.frozen 2
                have f3 := kdD.frozen 3
                go_upto_region 23 with (fail)
                have kdE := kdD.set4 (u0 := .slice A3 n3 c3) (u1 := .slice B3 m3 e3) (u2 := .int .i64 lf3) (u3 := .bool dd3)
                have kfE := kfD.far4 (c := bd) (by omega) (u0 := .slice A3 n3 c3) (u1 := .slice B3 m3 e3) (u2 := .int .i64 lf3) (u3 := .bool dd3)
                have kxE := kxD.far4 (c := bd) (by omega) (u0 := .slice A3 n3 c3) (u1 := .slice B3 m3 e3) (u2 := .int .i64 lf3) (u3 := .bool dd3)
                have hDE := HD3.out.set4 (b := bd) (u0 := .slice A3 n3 c3) (u1 := .slice B3 m3 e3) (u2 := .int .i64 lf3) (u3 := .bool dd3) fun x hx => by omega
                have hoE := own_set4 HOD.out (b := bd) (by omega) (.slice A3 n3 c3) (.slice B3 m3 e3) (.int .i64 lf3) (.bool dd3)
                have hbwE := below_set4 (b := bd) (u0 := .slice A3 n3 c3) (u1 := .slice B3 m3 e3) (u2 := .int .i64 lf3) (u3 := .bool dd3) hbwD hs1
                have hzE : wcA.heap.size ≤ ((((wD.setCell ⟨bd, 0, none⟩ (.slice A3 n3 c3)).setCell ⟨bd, 1, none⟩ (.slice B3 m3 e3)).setCell ⟨bd, 2, none⟩ (.int .i64 lf3)).setCell ⟨bd, 3, none⟩ (.bool dd3)).heap.size := by rw [set4_size]; exact hbD.size
                obtain ⟨wE, hwE⟩ : ∃ wE, wE = ((((wD.setCell ⟨bd, 0, none⟩ (.slice A3 n3 c3)).setCell ⟨bd, 1, none⟩ (.slice B3 m3 e3)).setCell ⟨bd, 2, none⟩ (.int .i64 lf3)).setCell ⟨bd, 3, none⟩ (.bool dd3)) := ⟨_, rfl⟩
                rw [← hwE] at kdE kfE kxE hDE hoE hbwE hzE ⊢
                have HDE := hide hDE
                have HOE := hide hoE
                clear hwE kdD kfD kxD hDE hoE y0 y1 y2 y3 f0 f1 f2 f3 kdA kfA kxA k7A kFA k7c
                obtain ⟨y0, y1, y2, y3⟩ := kdE.cell4
                obtain ⟨z0, z1, z2, z3⟩ := kfE.cell4
                go_wp2_with fail
                refine (HSC.out _ _ HDE.out).mono ?_
                rintro q wG ⟨v9, rfl, hown9, hbG⟩
                unfold OwnT at hown9
                obtain ⟨A9, c9, rfl⟩ := own_shape hown9
                have kbG : Below wG.heap.size wG (wG.alloc (.cells #[.int .i64 (x'.frm : Nat), .int .i64 (x'.len : Nat), .int .i64 (x'.at_ : Nat), .int .i64 (x'.seq : Nat)] 67)) := (Below.refl _ _).alloc (Nat.le_refl _) _
                have k20 := Box.new wG 67 #[.int .i64 (x'.frm : Nat), .int .i64 (x'.len : Nat), .int .i64 (x'.at_ : Nat), .int .i64 (x'.seq : Nat)]
                have hzG := hbG.size
                have hbEH := hbG.trans (kbG.mono hbG.size)
                have hown9H := own_below hown9 kbG
                obtain ⟨wH, hwH⟩ : ∃ wH, wH = wG.alloc (.cells #[.int .i64 (x'.frm : Nat), .int .i64 (x'.len : Nat), .int .i64 (x'.at_ : Nat), .int .i64 (x'.seq : Nat)] 67) := ⟨_, rfl⟩
                rw [← hwH] at k20 hbEH hown9H
                have kdH := kdE.belowS hbEH
                have kfH := kfE.belowS hbEH
                have kxH := kxE.belowS hbEH
                have HDH := hide (HDE.out.lt'.below hbEH)
                have HOH := hide (own_below HOE.out hbEH)
                have HO9 := hide hown9H
                have hbwH := hbwE.trans (hbEH.mono hbwE.size)
                have HWH := hide hwH
                clear hwH hown9 hown9H kbG kdE kfE kxE y0 y1 y2 y3 z0 z1 z2 z3
                go_upto_region 24 with (fail)
                rw [← HWH.out]
                obtain ⟨A10, c10, hv10⟩ := own_shape HOWN.out
                subst hv10
                have hs9 := Sl.of_own HO9.out
                have hs10 := Sl.of_own HOH.out
                have hrl : recs.length ≤ 14 := by omega
                have HSM : Hid (∀ ww, Below wH.heap.size wH ww → Calls Try.prog 21 #[.slice A9 recs'.length c9, .slice A10 recs.length c10] ww fun q w' => q = .returned (.bool (decide (recs' = recs))) ∧ ∃ q, w' = ww.drewN q) := by
                  intro ww hb
                  have := same_any A9 A10 recs'.length recs.length c9 c10 (recs'.map mkB) (recs.map mkB) _ _ ww (hs9.below hb) (hs10.below hb) (by omega)
                  rw [octs_mkB, octs_mkB] at this
                  exact this
                have HS9 := hide hs9
                have HS10 := hide hs10
                clear hs9 hs10
                go_cut [117] from 99 to 116 (fun v wx => v = .bool false ∧ Below wH.heap.size wH wx)
                case first =>
                  by_cases hsame : recs' = recs
                  · have dS : decide (recs' = recs) = true := by simpa using hsame
                    rw [dS] at HSM
                    clear dS
                    have HSAME := hide hsame
                    clear hsame
                    go_wp2_with fail
                    refine (HSM.out _ (Below.refl _ _)).mono ?_
                    rintro q w' ⟨rfl, nq, rfl⟩
                    go_wp2_with fail
                    go_meet
                    exact ⟨rfl, below_drewN (Below.refl _ _) nq⟩
                  · have dS : decide (recs' = recs) = false := by simpa using hsame
                    rw [dS] at HSM
                    clear dS
                    have hr' : recs' = recs ++ [oct fs] := HCASE.out.resolve_left hsame
                    have HR' := hide hr'
                    clear hsame hr'
                    go_wp2_with fail
                    refine (HSM.out _ (Below.refl _ _)).mono ?_
                    rintro q w' ⟨rfl, nq, rfl⟩
                    have hbQ : Below wH.heap.size wH (wH.drewN nq) := below_drewN (Below.refl _ _) nq
                    have hbQe : Below wH.heap.size wH ((wH.drewN nq).alloc (.cells #[] 9)) := hbQ.alloc hbQ.size _
                    have hs10q := HS10.out.below hbQe
                    have hoe := own_empty (wH.drewN nq)
                    have hzQ : wH.heap.size ≤ (wH.drewN nq).heap.size := hbQ.size
                    have hze : (wH.drewN nq).heap.size ≤ ((wH.drewN nq).alloc (.cells #[] 9)).heap.size := by rw [World.size_alloc]; omega
                    obtain ⟨wQ, hwQ⟩ : ∃ wQ, wQ = wH.drewN nq := ⟨_, rfl⟩
                    rw [← hwQ] at hbQ hbQe hs10q hoe hzQ hze ⊢
                    clear hwQ
                    go_wp2_with (at_builtin; refine wp_unguard (by simp [Region.wanted, yielded]) ?_; refine wp_app_strs rfl _ _ rfl wQ.heap.size _ _ [] hoe rfl _ _ _ _ (recs.map mkB) hs10q rfl (by omega) hze ?_; intro v6 w6 hA6; rw [Nat.zero_add, List.nil_append] at hA6; obtain ⟨A6, c6, hv6⟩ := own_shape hA6.own; subst hv6; have hb6 := hA6.below hoe hbQe hzQ (Nat.le_trans hzQ hze); have ho6 := hA6.own; have hz6 := Nat.le_trans hze hA6.size; go_wp2_with (at_builtin; refine wp_unguard (by simp [Region.wanted, yielded]) ?_; refine wp_app_str rfl _ _ rfl wQ.heap.size _ _ (recs.map mkB) ho6 rfl fs rfl (by omega) hz6 ?_; intro v7 w7 hA7; obtain ⟨A7, c7, hv7⟩ := own_shape hA7.own; subst hv7))
                    have hb7 := hA7.below ho6 hb6 hzQ (Nat.le_trans hzQ hz6)
                    have hs7 := Sl.of_own hA7.own
                    have hsm2 : Calls Try.prog 21 #[.slice A9 recs'.length c9, .slice A7 (recs.length + 1) c7] w7 fun q w' => q = .returned (.bool true) ∧ ∃ q, w' = w7.drewN q := by
                      have := same_any A9 A7 recs'.length (recs.length + 1) c9 c7 (recs'.map mkB) (recs.map mkB ++ [fs]) _ _ w7 (HS9.out.below hb7) hs7 (by omega)
                      have e : octs (recs.map mkB ++ [fs]) = recs' := by rw [octs_append, octs_mkB, HR'.out]; rfl
                      rw [octs_mkB, e] at this
                      simpa using this
                    have HSM2 := hide hsm2
                    clear hsm2
                    clear hA6 hA7 hs7 ho6 hs10q hoe
                    refine HSM2.out.mono ?_
                    rintro q w' ⟨rfl, nq2, rfl⟩
                    go_wp2_with fail
                    go_meet
                    exact ⟨rfl, below_drewN hb7 nq2⟩
                case rest =>
                  revert wc
                  intro wI hcut
                  obtain ⟨rfl, hbI⟩ := hcut
                  have kdI := kdH.belowS hbI
                  have kfI := kfH.belowS hbI
                  have kxI := kxH.belowS hbI
                  have k20I := k20.belowS hbI
                  have HDI := hide (HDH.out.below hbI)
                  have HO9I := hide (own_below HO9.out hbI)
                  have hbwI := hbwH.trans (hbI.mono hbwH.size)
                  have x1 : wG.heap.size ≠ bd + 1 + 1 := by omega
                  have x1' := x1.symm
                  clear kdH kfH kxH k20 HDH HSM HS9 HS10
                  obtain ⟨y0, y1, y2, y3⟩ := k20I.cell4
                  obtain ⟨z0, z1, z2, z3⟩ := kxI.cell4
                  have g0 := kxI.frozen 0
                  have g1 := kxI.frozen 1
                  have g2 := kxI.frozen 2
                  have g3 := kxI.frozen 3
                  go_upto_region 26 with (fail)
                  go_region_law (fail)
                  all_goals go_wp2_with fail
                  all_goals
                    go_roundw
                    case rel =>
                      refine ⟨i + 1, by go_num, cutR_drew ⟨recs', dC, x', A3, n3, c3, B3, m3, e3, hl3, by omega, CBox.putX (x := x') rfl (by rw [← HLF3.out, ← HDD3.out]; exact kdI) kfI kxI (HDI.out.mono fun k hk => ?_) (fun k hk => hk.2.2.2.1), HHC.out, own_set4 (own_mono HO9I.out (by omega)) (by omega) _ _ _ _, below_set4 hbwI (by omega)⟩⟩
                      have := hbwA.size
                      exact ⟨by omega, by omega, by omega, by omega, fun e => by have := (HO9I.out.lt _ e).1; omega⟩
                    case measure => simp [intOf]; omega
      · have HE : Hid (CutR w bd i _ wr) := ⟨recs, d, x, A, n, c, B, m, e, hri, hi9, kL, hH, hown, hbw⟩
        by_cases h1 : i < n0
        · have d1 : decide (i < n0) = true := by simpa using h1
          have d2 : decide ((i : Int) < 14) = false := by simp; omega
          clear hgo h1 kL hH hown hbw hri hi9
          go_wp2_with fail
          go_meet
          exact ⟨i, HE.out⟩
        · have d1 : decide (i < n0) = false := by simpa using h1
          clear hgo h1 kL hH hown hbw hri hi9
          go_wp2_with fail
          go_meet
          exact ⟨i, HE.out⟩
  case rest =>
    clear HN0 HS HZ HSB HSF HZF
    revert wc
    intro wL hcut
    obtain ⟨i, recs, d, x, A, n, c, B, m, e, hri, hi9, kL, hH, hown, hbw⟩ := hcut
    obtain ⟨A10, c10, rfl⟩ := own_shape hown
    obtain ⟨r, hr⟩ : ∃ r, r = recs.length := ⟨_, rfl⟩
    rw [← hr] at hown hri ⊢
    have hHC := hH.crash ⟨[], -1, 0⟩
    have hcr := fun ww V' hD => crash_no ⟨[], -1, 0⟩ rfl A n c B m e d V' ww hD hH.live.may
    obtain ⟨dC, hdC⟩ : ∃ dC, dC = DiskP.crash d ⟨[], -1, 0⟩ := ⟨_, rfl⟩
    rw [← hdC] at hHC
    simp only [← hdC] at hcr
    have HSC : Hid (∀ ww A n c B m e V', Dk ww V' A n c B m e dC → Calls Try.prog 47 #[dkv A n c B m e dC.left dC.dead, .agg #[.int .i64 2, .int .i64 16, .int .i64 0, .int .i64 1]] ww fun q w' => ∃ A5 c5, q = .returned (.tuple #[.slice A5 r c5, .agg #[.int .i64 (x.frm : Nat), .int .i64 (x.len : Nat), .int .i64 (x.at_ : Nat), .int .i64 (x.seq : Nat)], .int .i64 0]) ∧ Sl w' (fun b => b < w'.heap.size) 1 A5 r (secV recs) ∧ Below ww.heap.size ww w') := by
      intro ww A n c B m e V' hD
      have := scan_any A n c B m e dC V' ⟨2, 16, 0, 1⟩ ww hD (hHC.ok0 (by unfold LogP.maxSeq; omega))
      rw [hHC.scan] at this
      refine this.mono ?_
      rintro q w' ⟨v, rfl, ho, hb⟩
      unfold OwnT at ho
      simp only at ho
      rw [← hr] at ho
      obtain ⟨A5, c5, rfl⟩ := own_shape ho
      exact ⟨A5, c5, rfl, (Sl.of_own ho).lt, hb⟩
    have kbd := kL.bd
    have kbf := kL.bf
    have kbx := kL.bx
    have HDK := hide kL.dk
    have hs10 := Sl.of_own hown
    have HS10 := hide hs10
    have hr14 : r ≤ 14 := by omega
    obtain ⟨lf, hlf⟩ : ∃ lf, lf = d.left := ⟨_, rfl⟩
    obtain ⟨dd, hdd⟩ : ∃ dd, dd = d.dead := ⟨_, rfl⟩
    simp only [← hlf, ← hdd] at kbd hcr
    have HCR : Hid (∀ ww V', Dk ww V' A n c B m e d → Calls Try.prog 37 #[dkv A n c B m e lf dd, .agg #[.slice none 0 0, .int .i64 (-1), .int .i64 0]] ww fun q w' => ∃ v, q = .returned v ∧ DkV w' (fun _ => True) v dC ∧ Below ww.heap.size ww w') := hcr
    clear kL hH hHC hcr hdC hown hs10 hlf hdd hr hri hi9
    go_upto_region 27 with (fail)
    go_cut [22, 23, 24] from 120 to 128 (fun p q ev wx => ∃ A5 c5 bZ, p = .slice A5 r c5 ∧ q = .pointer (some ⟨bZ, 0, none⟩) ∧ ev = .int .i64 0 ∧ Sl wx (fun _ => True) 1 A5 r (secV recs) ∧ Box wx bZ 67 #[.int .i64 (x.frm : Nat), .int .i64 (x.len : Nat), .int .i64 (x.at_ : Nat), .int .i64 (x.seq : Nat)] ∧ Below wL.heap.size wL wx)
    case first =>
      refine wp_region_noPanic ?_
      refine RegT.region (ds := [121, 122, 123, 124, 125, 120, 126, 127, 128, 23]) (pure := [5, 6, 7, 8]) (fresh := [9])
        (G := Gs [.is (dkv A n c B m e lf dd), .is (.agg #[.slice none 0 0, .int .i64 (-1), .int .i64 0]), .dk (fun _ => True) dC, .is (.agg #[.int .i64 2, .int .i64 16, .int .i64 0, .int .i64 1]), .three (Fc.txt recs r) (.agg #[.int .i64 (x.frm : Nat), .int .i64 (x.len : Nat), .int .i64 (x.at_ : Nat), .int .i64 (x.seq : Nat)]) (.int .i64 0), .three (Fc.txt recs r) (.agg #[.int .i64 (x.frm : Nat), .int .i64 (x.len : Nat), .int .i64 (x.at_ : Nat), .int .i64 (x.seq : Nat)]) (.int .i64 0), (Fc.txt recs r), .is (.agg #[.int .i64 (x.frm : Nat), .int .i64 (x.len : Nat), .int .i64 (x.at_ : Nat), .int .i64 (x.seq : Nat)]), .is (.int .i64 0), .box wL.heap.size 67 #[.int .i64 0, .int .i64 0, .int .i64 0, .int .i64 0]])
        rfl (by kernel_rfl) (by kernel_rfl) ⟨by kernel_rfl, by kernel_rfl, fun i _ v w w' => gs_keep _ i v w w', ?quiet, ?step⟩ (fun _ _ _ _ _ h => h) ?tail
      case quiet =>
        intro i o hi hp ho u ww hd
        obtain rfl | rfl | rfl | rfl : i = 5 ∨ i = 6 ∨ i = 7 ∨ i = 8 := by simp at hp; omega
        · simp only [List.getElem?_toArray, List.getElem?_cons_succ, List.getElem?_cons_zero, Option.some.injEq] at ho
          subst ho
          simp only [RegT.putAll, List.length_cons, List.length_nil, Nat.reduceAdd, List.getD_cons_zero, List.getD_cons_succ, Act.put, List.setIfInBounds_toArray, List.set_cons_zero, List.set_cons_succ]
          exact ⟨_, fun _ => rfl, hd 4 (by decide) (by rfl)⟩
        · simp only [List.getElem?_toArray, List.getElem?_cons_succ, List.getElem?_cons_zero, Option.some.injEq] at ho
          subst ho
          simp only [RegT.putAll, List.length_cons, List.length_nil, Nat.reduceAdd, List.getD_cons_zero, List.getD_cons_succ, Act.put, List.setIfInBounds_toArray, List.set_cons_zero, List.set_cons_succ]
          obtain ⟨x, e, h⟩ := hd 5 (by decide) (by rfl)
          rw [e]
          exact ⟨_, fun _ => rfl, h⟩
        · simp only [List.getElem?_toArray, List.getElem?_cons_succ, List.getElem?_cons_zero, Option.some.injEq] at ho
          subst ho
          simp only [RegT.putAll, List.length_cons, List.length_nil, Nat.reduceAdd, List.getD_cons_zero, List.getD_cons_succ, Act.put, List.setIfInBounds_toArray, List.set_cons_zero, List.set_cons_succ]
          obtain ⟨x, e, h⟩ := hd 5 (by decide) (by rfl)
          rw [e]
          exact ⟨_, fun _ => rfl, rfl⟩
        · simp only [List.getElem?_toArray, List.getElem?_cons_succ, List.getElem?_cons_zero, Option.some.injEq] at ho
          subst ho
          simp only [RegT.putAll, List.length_cons, List.length_nil, Nat.reduceAdd, List.getD_cons_zero, List.getD_cons_succ, Act.put, List.setIfInBounds_toArray, List.set_cons_zero, List.set_cons_succ]
          obtain ⟨x, e, h⟩ := hd 5 (by decide) (by rfl)
          rw [e]
          exact ⟨_, fun _ => rfl, rfl⟩
      case step =>
        intro i o hi hp ho u ww hb hd K hK
        obtain rfl | rfl | rfl | rfl | rfl | rfl : i = 0 ∨ i = 1 ∨ i = 2 ∨ i = 3 ∨ i = 4 ∨ i = 9 := by simp at hp hi; omega
        · simp only [List.getElem?_toArray, List.getElem?_cons_succ, List.getElem?_cons_zero, Option.some.injEq] at ho
          subst ho
          simp only [RegT.putAll, List.length_cons, List.length_nil, Nat.reduceAdd, List.getD_cons_zero, List.getD_cons_succ, Act.put, List.setIfInBounds_toArray, List.set_cons_zero, List.set_cons_succ]
          obtain ⟨q0, q1, q2, q3⟩ := (kbd.belowS hb).cell4
          go_simp
          exact hK _ _ rfl (Below.refl _ _) rfl (fun h => absurd h (by decide))
        · simp only [List.getElem?_toArray, List.getElem?_cons_succ, List.getElem?_cons_zero, Option.some.injEq] at ho
          subst ho
          simp only [RegT.putAll, List.length_cons, List.length_nil, Nat.reduceAdd, List.getD_cons_zero, List.getD_cons_succ, Act.put, List.setIfInBounds_toArray, List.set_cons_zero, List.set_cons_succ]
          go_simp
          exact hK _ _ rfl (Below.refl _ _) rfl (fun h => absurd h (by decide))
        · simp only [List.getElem?_toArray, List.getElem?_cons_succ, List.getElem?_cons_zero, Option.some.injEq] at ho
          subst ho
          simp only [RegT.putAll, List.length_cons, List.length_nil, Nat.reduceAdd, List.getD_cons_zero, List.getD_cons_succ, Act.put, List.setIfInBounds_toArray, List.set_cons_zero, List.set_cons_succ]
          have e0 : u 0 = dkv A n c B m e lf dd := hd 0 (by decide) (by rfl)
          have e1 : u 1 = .agg #[.slice none 0 0, .int .i64 (-1), .int .i64 0] := hd 1 (by decide) (by rfl)
          go_simp
          refine (HCR.out ww _ (HDK.out.below hb)).mono ?_
          rintro q w2 ⟨v, rfl, hv, hb2⟩
          exact hK _ _ rfl hb2 hv (fun h => absurd h (by decide))
        · simp only [List.getElem?_toArray, List.getElem?_cons_succ, List.getElem?_cons_zero, Option.some.injEq] at ho
          subst ho
          simp only [RegT.putAll, List.length_cons, List.length_nil, Nat.reduceAdd, List.getD_cons_zero, List.getD_cons_succ, Act.put, List.setIfInBounds_toArray, List.set_cons_zero, List.set_cons_succ]
          obtain ⟨q0, q1, q2, q3⟩ := (kbf.belowS hb).cell4
          go_simp
          exact hK _ _ rfl (Below.refl _ _) rfl (fun h => absurd h (by decide))
        · simp only [List.getElem?_toArray, List.getElem?_cons_succ, List.getElem?_cons_zero, Option.some.injEq] at ho
          subst ho
          simp only [RegT.putAll, List.length_cons, List.length_nil, Nat.reduceAdd, List.getD_cons_zero, List.getD_cons_succ, Act.put, List.setIfInBounds_toArray, List.set_cons_zero, List.set_cons_succ]
          obtain ⟨A7, n7, c7, B7, m7, e7, e2, hD7⟩ := hd 2 (by decide) (by rfl)
          have e3 : u 3 = .agg #[.int .i64 2, .int .i64 16, .int .i64 0, .int .i64 1] := hd 3 (by decide) (by rfl)
          go_simp
          refine (HSC.out ww A7 n7 c7 B7 m7 e7 _ hD7).mono ?_
          rintro q w3 ⟨A5, c5, rfl, hs5, hb3⟩
          exact hK _ _ rfl hb3 ⟨_, rfl, A5, c5, rfl, hs5⟩ (fun h => absurd h (by decide))
        · simp only [List.getElem?_toArray, List.getElem?_cons_succ, List.getElem?_cons_zero, Option.some.injEq] at ho
          subst ho
          simp only [RegT.putAll, List.length_cons, List.length_nil, Nat.reduceAdd, List.getD_cons_zero, List.getD_cons_succ, Act.put, List.setIfInBounds_toArray, List.set_cons_zero, List.set_cons_succ]
          go_simp
          exact hK _ _ rfl ((Below.refl _ _).alloc (Nat.le_refl _) _) ⟨_, rfl, hb.size, Box.new _ _ _⟩ fun _ => ⟨rfl, by simp⟩
      case tail =>
        intro u ww hb hG hp hne
        simp only [RegT.putAll, List.length_cons, List.length_nil, Nat.reduceAdd, List.getD_cons_zero, List.getD_cons_succ, Act.put, List.setIfInBounds_toArray, List.set_cons_zero, List.set_cons_succ, List.drop_succ_cons, List.drop_zero]
        obtain ⟨A5, c5, e6, hs5⟩ := hG 6 (by decide)
        have e7 : u 7 = (.agg #[.int .i64 (x.frm : Nat), .int .i64 (x.len : Nat), .int .i64 (x.at_ : Nat), .int .i64 (x.seq : Nat)]) := hG 7 (by decide)
        have e8 : u 8 = .int .i64 0 := hG 8 (by decide)
        obtain ⟨bZ, e9, l9, k9⟩ := hG 9 (by decide)
        have HS5 := hide hs5
        clear hG hp hne hs5
        obtain ⟨q0, q1, q2, q3⟩ := k9.cell4
        have f0 := k9.frozen 0
        have f1' := k9.frozen 1
        have f2' := k9.frozen 2
        have f3' := k9.frozen 3
        go_wp2_with fail
        refine NoPanic.normal ?_
        go_wp2_with fail
        go_meet
        exact ⟨A5, c5, bZ, by first | rfl | exact e6, by first | rfl | exact e9, by first | rfl | exact e8, sl_notBox HS5.out k9 noStr_log, k9.set4, below_set4 hb l9⟩
    case rest =>
      revert wc
      intro wM hcut
      obtain ⟨A5, c5, bZ, rfl, rfl, rfl, hs5, kZ, hbM⟩ := hcut
      have kxM := kbx.belowS hbM
      have hbwM := hbw.trans (hbM.mono hbw.size)
      have HS5 := hide hs5
      have HSM : Hid (∀ ww, Below wM.heap.size wM ww → Calls Try.prog 21 #[.slice A5 r c5, .slice A10 r c10] ww fun q w' => q = .returned (.bool true) ∧ ∃ q, w' = ww.drewN q) := by
        intro ww hb
        have := same_any A5 A10 r r c5 c10 (recs.map mkB) (recs.map mkB) _ _ ww (HS5.out.below hb) ((HS10.out.below hbM).below hb) (by omega)
        simpa using this
      clear hs5 HSC HCR HDK kbd kbf kbx
      obtain ⟨q0, q1, q2, q3⟩ := kZ.cell4
      obtain ⟨r0, r1, r2, r3⟩ := kxM.cell4
      go_wp2_with fail
      refine (HSM.out _ (Below.refl _ _)).mono ?_
      rintro q w' ⟨rfl, nq, rfl⟩
      go_wp2_with fail
      refine (awake18_any _).mono ?_
      rintro q w9 ⟨rfl, hb9⟩
      have hbN := below_drewN hbwM nq
      go_wp2_with fail
      go_ret
      exact ⟨rfl, hbN.trans (hb9.mono hbN.size)⟩
end Go.Proofs.Yteoiadfcchalfaa
