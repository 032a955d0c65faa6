/- Open of disks that may not be, or are dead; the disk that comes in; how many records are scanned. (printed by ku.py) -/
import Derived.Test.YteoiadfcchalfaaKeepS
import Derived.Test.YteoiadfcchalfaaOpenW
import Derived.Test.YteoiadfcchalfaaRegE
import Derived.Lib.SmallJoins
namespace Go.Proofs.Yteoiadfcchalfaa
open Go.RowKit
open DiskP (Bytes Disk Wr Fate noughts)
open KeepP (Cut Head K Kept okC okH newestP pagesP saveP beginP openP)
open LogP (Log zeroL Live okL Holds)
set_option linter.unusedVariables false

/-- a disk that may not be, or of another size, is not opened -/
def BadO (sz : Int) (my : Bool) (n : Nat) : Prop := sz = 0 ∨ (sz ≠ 0 ∧ my = false) ∨ (sz ≠ 0 ∧ my = true ∧ (n : Int) ≠ sz)

set_option maxRecDepth 100000 in
set_option maxHeartbeats 6400000 in
theorem open_bad (A : Option Addr) (n c : Nat) (B : Option Addr) (m e : Nat) (d : Disk) (V : Nat → Prop) (l p : Int) (w : World) (hD : Dk w V A n c B m e d) (hbad : BadO (sizeI l p) (DiskP.may d) n) :
    Calls Try.prog 60 #[.agg #[.slice A n c, .slice B m e, .int .i64 d.left, .bool d.dead], .agg #[.int .i64 l, .int .i64 p]] w fun q w' => q = .returned (.tuple #[.pointer none, .int .i64 1]) ∧ Below w.heap.size w w' := by
  have hma := fun ww V' hD => may_any A n c B m e d V' ww hD
  have hsz := size_any l p
  obtain ⟨lf, hlf⟩ : ∃ lf, lf = d.left := ⟨_, rfl⟩
  obtain ⟨dd, hdd⟩ : ∃ dd, dd = d.dead := ⟨_, rfl⟩
  obtain ⟨sz, hsz0⟩ : ∃ sz, sz = sizeI l p := ⟨_, rfl⟩
  obtain ⟨my, hmy⟩ : ∃ my, my = DiskP.may d := ⟨_, rfl⟩
  rw [← hlf, ← hdd, ← hmy] at hma
  rw [← hlf, ← hdd]
  rw [← hsz0] at hsz hbad
  rw [← hmy] at hbad
  have HSZ := hide hsz
  have HMA : Hid (∀ ww V', Dk ww V' A n c B m e d → Calls Try.prog 70 #[.agg #[.slice A n c, .slice B m e, .int .i64 lf, .bool dd]] ww fun q w' => q = .returned (.bool my) ∧ Below ww.heap.size ww w') := hma
  have kD0 := (Box.new w 50 #[.slice A n c, .slice B m e, .int .i64 lf, .bool dd]).up (.cells #[.int .i64 l, .int .i64 p] 85)
  have kC0 := Box.new (w.alloc (.cells #[.slice A n c, .slice B m e, .int .i64 lf, .bool dd] 50)) 85 #[.int .i64 l, .int .i64 p]
  have hb0 := ((Below.refl w.heap.size w).alloc (Nat.le_refl _) (.cells #[.slice A n c, .slice B m e, .int .i64 lf, .bool dd] 50)).alloc (by simp) (.cells #[.int .i64 l, .int .i64 p] 85)
  simp only [World.size_alloc] at kC0
  have hD0 := hD.lt'.below hb0
  obtain ⟨w0, hw0⟩ : ∃ y, y = (w.alloc (.cells #[.slice A n c, .slice B m e, .int .i64 lf, .bool dd] 50)).alloc (.cells #[.int .i64 l, .int .i64 p] 85) := ⟨_, rfl⟩
  rw [← hw0] at kD0 kC0 hb0 hD0
  have HW0 := hide hw0
  have HD0 := hide hD0
  have HB0 := hide hb0
  have HSS : Hid (∀ ww, Below w0.heap.size w0 ww → (ww.cell? ⟨w.heap.size, 0, none⟩ = some (.slice A n c) ∧ ww.cell? ⟨w.heap.size, 1, none⟩ = some (.slice B m e) ∧ ww.cell? ⟨w.heap.size, 2, none⟩ = some (.int .i64 lf) ∧ ww.cell? ⟨w.heap.size, 3, none⟩ = some (.bool dd)) ∧ ww.cell? ⟨w.heap.size + 1, 0, none⟩ = some (.int .i64 l) ∧ ww.cell? ⟨w.heap.size + 1, 1, none⟩ = some (.int .i64 p)) := fun ww hb => ⟨(kD0.belowS hb).cell4, (kC0.belowS hb).cell2⟩
  have HBAD := hide hbad
  clear hma hsz hlf hdd hsz0 hmy hw0 hD0 hD hb0 kD0 kC0 hbad
  go_enter Try.func60, Try.ntmps60
  go_upto_region 1 with (fail)
  rw [← HW0.out]
  clear HW0
  have hbx : Below w0.heap.size w0 w0.drew := (Below.refl _ _).drew
  rcases HBAD.out with rfl | ⟨h1, rfl⟩ | ⟨h1, rfl, h2⟩
  · clear HBAD
    refine wp_region_noPanic ?_
    have hS := HSS.out w0.drew hbx
    refine RegE.begin_ (n := 15) (S := fun ww => (ww.cell? ⟨w.heap.size, 0, none⟩ = some (.slice A n c) ∧ ww.cell? ⟨w.heap.size, 1, none⟩ = some (.slice B m e) ∧ ww.cell? ⟨w.heap.size, 2, none⟩ = some (.int .i64 lf) ∧ ww.cell? ⟨w.heap.size, 3, none⟩ = some (.bool dd)) ∧ ww.cell? ⟨w.heap.size + 1, 0, none⟩ = some (.int .i64 l) ∧ ww.cell? ⟨w.heap.size + 1, 1, none⟩ = some (.int .i64 p)) (by kernel_rfl) (by kernel_rfl) (by kernel_rfl) ?_
    refine RegE.take (i := 0) (v := ?k1vv) rfl (by kernel_rfl) (by kernel_rfl) rfl (by kernel_rfl) (by kernel_rfl) (by kernel_rfl) (fun _ _ _ h => h) (Or.inl ⟨by first | rfl | simp [Region.wanted, yielded], ?k1vy⟩) hS ?k1vr
    case k1vy => intro ww hSw; obtain ⟨⟨hs1, hs2, hs3, hs4⟩, hs5, hs6⟩ := hSw; (go_simp <;> with_reducible rfl)
    try simp only [Act.put, List.getElem_toArray, List.getElem_cons_zero, List.setIfInBounds_toArray, List.set_cons_zero, List.set_cons_succ]
    refine RegE.step (i := 1) rfl (by kernel_rfl) rfl (fun K hK => ?_)
    go_simp
    refine (HSZ.out _).mono ?_
    rintro q wp ⟨rfl, hbp⟩
    have hbx := hbx.trans (hbp.mono hbx.size)
    have hS := HSS.out _ hbx
    refine hK _ _ hS ?_
    clear hK K
    try simp only [Act.put, List.getElem_toArray, List.getElem_cons_zero, List.getElem_cons_succ, List.setIfInBounds_toArray, List.set_cons_zero, List.set_cons_succ]
    refine RegE.take (i := 2) (v := ?k2vv) rfl (by kernel_rfl) (by kernel_rfl) rfl (by kernel_rfl) (by kernel_rfl) (by kernel_rfl) (fun _ _ _ h => h) (Or.inl ⟨by first | rfl | simp [Region.wanted, yielded], ?k2vy⟩) hS ?k2vr
    case k2vy => intro ww hSw; obtain ⟨⟨hs1, hs2, hs3, hs4⟩, hs5, hs6⟩ := hSw; (go_simp <;> with_reducible rfl)
    try simp only [Act.put, List.getElem_toArray, List.getElem_cons_zero, List.getElem_cons_succ, List.setIfInBounds_toArray, List.set_cons_zero, List.set_cons_succ]
    refine RegE.take (i := 3) (v := ?k3vv) rfl (by kernel_rfl) (by kernel_rfl) rfl (by kernel_rfl) (by kernel_rfl) (by kernel_rfl) (fun _ _ _ h => h) (Or.inl ⟨by first | rfl | simp [Region.wanted, yielded], ?k3vy⟩) hS ?k3vr
    case k3vy => intro ww hSw; obtain ⟨⟨hs1, hs2, hs3, hs4⟩, hs5, hs6⟩ := hSw; (go_simp <;> with_reducible rfl)
    try simp only [Act.put, List.getElem_toArray, List.getElem_cons_zero, List.getElem_cons_succ, List.setIfInBounds_toArray, List.set_cons_zero, List.set_cons_succ]
    refine RegE.take (i := 4) (v := undef) rfl (by kernel_rfl) (by kernel_rfl) rfl (by kernel_rfl) (by kernel_rfl) (by kernel_rfl) (fun _ _ _ h => h) (Or.inr ⟨by first | rfl | simp [Region.wanted, yielded], rfl⟩) hS ?k4vr
    try simp only [Act.put, List.getElem_toArray, List.getElem_cons_zero, List.getElem_cons_succ, List.setIfInBounds_toArray, List.set_cons_zero, List.set_cons_succ]
    refine RegE.take (i := 5) (v := undef) rfl (by kernel_rfl) (by kernel_rfl) rfl (by kernel_rfl) (by kernel_rfl) (by kernel_rfl) (fun _ _ _ h => h) (Or.inr ⟨by first | rfl | simp [Region.wanted, yielded], rfl⟩) hS ?k5vr
    try simp only [Act.put, List.getElem_toArray, List.getElem_cons_zero, List.getElem_cons_succ, List.setIfInBounds_toArray, List.set_cons_zero, List.set_cons_succ]
    refine RegE.take (i := 6) (v := undef) rfl (by kernel_rfl) (by kernel_rfl) rfl (by kernel_rfl) (by kernel_rfl) (by kernel_rfl) (fun _ _ _ h => h) (Or.inr ⟨by first | rfl | simp [Region.wanted, yielded], rfl⟩) hS ?k6vr
    try simp only [Act.put, List.getElem_toArray, List.getElem_cons_zero, List.getElem_cons_succ, List.setIfInBounds_toArray, List.set_cons_zero, List.set_cons_succ]
    refine RegE.take (i := 7) (v := ?k7vv) rfl (by kernel_rfl) (by kernel_rfl) rfl (by kernel_rfl) (by kernel_rfl) (by kernel_rfl) (fun _ _ _ h => h) (Or.inl ⟨by first | rfl | simp [Region.wanted, yielded], ?k7vy⟩) hS ?k7vr
    case k7vy => intro ww hSw; obtain ⟨⟨hs1, hs2, hs3, hs4⟩, hs5, hs6⟩ := hSw; (go_simp <;> with_reducible rfl)
    try simp only [Act.put, List.getElem_toArray, List.getElem_cons_zero, List.getElem_cons_succ, List.setIfInBounds_toArray, List.set_cons_zero, List.set_cons_succ]
    refine RegE.take (i := 8) (v := ?k8vv) rfl (by kernel_rfl) (by kernel_rfl) rfl (by kernel_rfl) (by kernel_rfl) (by kernel_rfl) (fun _ _ _ h => h) (Or.inl ⟨by first | rfl | simp [Region.wanted, yielded], ?k8vy⟩) hS ?k8vr
    case k8vy => intro ww hSw; obtain ⟨⟨hs1, hs2, hs3, hs4⟩, hs5, hs6⟩ := hSw; (go_simp <;> with_reducible rfl)
    try simp only [Act.put, List.getElem_toArray, List.getElem_cons_zero, List.getElem_cons_succ, List.setIfInBounds_toArray, List.set_cons_zero, List.set_cons_succ]
    refine RegE.take (i := 9) (v := undef) rfl (by kernel_rfl) (by kernel_rfl) rfl (by kernel_rfl) (by kernel_rfl) (by kernel_rfl) (fun _ _ _ h => h) (Or.inr ⟨by first | rfl | simp [Region.wanted, yielded], rfl⟩) hS ?k9vr
    try simp only [Act.put, List.getElem_toArray, List.getElem_cons_zero, List.getElem_cons_succ, List.setIfInBounds_toArray, List.set_cons_zero, List.set_cons_succ]
    refine RegE.take (i := 10) (v := undef) rfl (by kernel_rfl) (by kernel_rfl) rfl (by kernel_rfl) (by kernel_rfl) (by kernel_rfl) (fun _ _ _ h => h) (Or.inr ⟨by first | rfl | simp [Region.wanted, yielded], rfl⟩) hS ?k10vr
    try simp only [Act.put, List.getElem_toArray, List.getElem_cons_zero, List.getElem_cons_succ, List.setIfInBounds_toArray, List.set_cons_zero, List.set_cons_succ]
    refine RegE.take (i := 11) (v := undef) rfl (by kernel_rfl) (by kernel_rfl) rfl (by kernel_rfl) (by kernel_rfl) (by kernel_rfl) (fun _ _ _ h => h) (Or.inr ⟨by first | rfl | simp [Region.wanted, yielded], rfl⟩) hS ?k11vr
    try simp only [Act.put, List.getElem_toArray, List.getElem_cons_zero, List.getElem_cons_succ, List.setIfInBounds_toArray, List.set_cons_zero, List.set_cons_succ]
    refine RegE.take (i := 12) (v := undef) rfl (by kernel_rfl) (by kernel_rfl) rfl (by kernel_rfl) (by kernel_rfl) (by kernel_rfl) (fun _ _ _ h => h) (Or.inr ⟨by first | rfl | simp [Region.wanted, yielded], rfl⟩) hS ?k12vr
    try simp only [Act.put, List.getElem_toArray, List.getElem_cons_zero, List.getElem_cons_succ, List.setIfInBounds_toArray, List.set_cons_zero, List.set_cons_succ]
    refine RegE.take (i := 13) (v := undef) rfl (by kernel_rfl) (by kernel_rfl) rfl (by kernel_rfl) (by kernel_rfl) (by kernel_rfl) (fun _ _ _ h => h) (Or.inr ⟨by first | rfl | simp [Region.wanted, yielded], rfl⟩) hS ?k13vr
    try simp only [Act.put, List.getElem_toArray, List.getElem_cons_zero, List.getElem_cons_succ, List.setIfInBounds_toArray, List.set_cons_zero, List.set_cons_succ]
    refine RegE.take (i := 14) (v := undef) rfl (by kernel_rfl) (by kernel_rfl) rfl (by kernel_rfl) (by kernel_rfl) (by kernel_rfl) (fun _ _ _ h => h) (Or.inr ⟨by first | rfl | simp [Region.wanted, yielded], rfl⟩) hS ?k14vr
    try simp only [Act.put, List.getElem_toArray, List.getElem_cons_zero, List.getElem_cons_succ, List.setIfInBounds_toArray, List.set_cons_zero, List.set_cons_succ]
    obtain ⟨⟨hs1, hs2, hs3, hs4⟩, hs5, hs6⟩ := hS
    refine RegE.done rfl (by kernel_rfl) (fun K hK => ?_)
    go_simp
    refine hK _ _ ?_
    clear hK K hs1 hs2 hs3 hs4 hs5 hs6
    refine NoPanic.normal ?_
    try simp only [Act.put, List.getElem_toArray, List.getElem_cons_zero, List.getElem_cons_succ, List.setIfInBounds_toArray, List.set_cons_zero, List.set_cons_succ]
    have HBX := hide hbx
    clear hbx
    go_wp2_with fail
    go_ret2
    exact ⟨rfl, HB0.out.trans (HBX.out.mono HB0.out.size)⟩
  · have z1 : (sz == 0) = false := by simpa using h1
    have z2 : decide (sz = 0) = false := by simpa using h1
    clear HBAD
    refine wp_region_noPanic ?_
    have hS := HSS.out w0.drew hbx
    refine RegE.begin_ (n := 15) (S := fun ww => (ww.cell? ⟨w.heap.size, 0, none⟩ = some (.slice A n c) ∧ ww.cell? ⟨w.heap.size, 1, none⟩ = some (.slice B m e) ∧ ww.cell? ⟨w.heap.size, 2, none⟩ = some (.int .i64 lf) ∧ ww.cell? ⟨w.heap.size, 3, none⟩ = some (.bool dd)) ∧ ww.cell? ⟨w.heap.size + 1, 0, none⟩ = some (.int .i64 l) ∧ ww.cell? ⟨w.heap.size + 1, 1, none⟩ = some (.int .i64 p)) (by kernel_rfl) (by kernel_rfl) (by kernel_rfl) ?_
    refine RegE.take (i := 0) (v := ?k15vv) rfl (by kernel_rfl) (by kernel_rfl) rfl (by kernel_rfl) (by kernel_rfl) (by kernel_rfl) (fun _ _ _ h => h) (Or.inl ⟨by first | rfl | simp [Region.wanted, yielded], ?k15vy⟩) hS ?k15vr
    case k15vy => intro ww hSw; obtain ⟨⟨hs1, hs2, hs3, hs4⟩, hs5, hs6⟩ := hSw; (go_simp <;> with_reducible rfl)
    try simp only [Act.put, List.getElem_toArray, List.getElem_cons_zero, List.setIfInBounds_toArray, List.set_cons_zero, List.set_cons_succ]
    refine RegE.step (i := 1) rfl (by kernel_rfl) rfl (fun K hK => ?_)
    go_simp
    refine (HSZ.out _).mono ?_
    rintro q wp ⟨rfl, hbp⟩
    have hbx := hbx.trans (hbp.mono hbx.size)
    have hS := HSS.out _ hbx
    refine hK _ _ hS ?_
    clear hK K
    try simp only [Act.put, List.getElem_toArray, List.getElem_cons_zero, List.getElem_cons_succ, List.setIfInBounds_toArray, List.set_cons_zero, List.set_cons_succ]
    refine RegE.take (i := 2) (v := ?k16vv) rfl (by kernel_rfl) (by kernel_rfl) rfl (by kernel_rfl) (by kernel_rfl) (by kernel_rfl) (fun _ _ _ h => h) (Or.inl ⟨by first | rfl | simp [Region.wanted, yielded], ?k16vy⟩) hS ?k16vr
    case k16vy => intro ww hSw; obtain ⟨⟨hs1, hs2, hs3, hs4⟩, hs5, hs6⟩ := hSw; (go_simp <;> with_reducible rfl)
    try simp only [Act.put, List.getElem_toArray, List.getElem_cons_zero, List.getElem_cons_succ, List.setIfInBounds_toArray, List.set_cons_zero, List.set_cons_succ]
    refine RegE.take (i := 3) (v := ?k17vv) rfl (by kernel_rfl) (by kernel_rfl) rfl (by kernel_rfl) (by kernel_rfl) (by kernel_rfl) (fun _ _ _ h => h) (Or.inl ⟨by first | rfl | simp [Region.wanted, yielded], ?k17vy⟩) hS ?k17vr
    case k17vy => intro ww hSw; obtain ⟨⟨hs1, hs2, hs3, hs4⟩, hs5, hs6⟩ := hSw; (go_simp <;> with_reducible rfl)
    try simp only [Act.put, List.getElem_toArray, List.getElem_cons_zero, List.getElem_cons_succ, List.setIfInBounds_toArray, List.set_cons_zero, List.set_cons_succ]
    refine RegE.take (i := 4) (v := ?k18vv) rfl (by kernel_rfl) (by kernel_rfl) rfl (by kernel_rfl) (by kernel_rfl) (by kernel_rfl) (fun _ _ _ h => h) (Or.inl ⟨by first | rfl | simp [Region.wanted, yielded], ?k18vy⟩) hS ?k18vr
    case k18vy => intro ww hSw; obtain ⟨⟨hs1, hs2, hs3, hs4⟩, hs5, hs6⟩ := hSw; (go_simp <;> with_reducible rfl)
    try simp only [Act.put, List.getElem_toArray, List.getElem_cons_zero, List.getElem_cons_succ, List.setIfInBounds_toArray, List.set_cons_zero, List.set_cons_succ]
    refine RegE.step (i := 5) rfl (by kernel_rfl) rfl (fun K hK => ?_)
    go_simp
    refine (HMA.out _ _ (HD0.out.below hbx)).mono ?_
    rintro q wm ⟨rfl, hbm⟩
    have hbx := hbx.trans (hbm.mono hbx.size)
    have hS := HSS.out _ hbx
    refine hK _ _ hS ?_
    clear hK K
    try simp only [Act.put, List.getElem_toArray, List.getElem_cons_zero, List.getElem_cons_succ, List.setIfInBounds_toArray, List.set_cons_zero, List.set_cons_succ]
    refine RegE.take (i := 6) (v := ?k19vv) rfl (by kernel_rfl) (by kernel_rfl) rfl (by kernel_rfl) (by kernel_rfl) (by kernel_rfl) (fun _ _ _ h => h) (Or.inl ⟨by first | rfl | simp [Region.wanted, yielded], ?k19vy⟩) hS ?k19vr
    case k19vy => intro ww hSw; obtain ⟨⟨hs1, hs2, hs3, hs4⟩, hs5, hs6⟩ := hSw; (go_simp <;> with_reducible rfl)
    try simp only [Act.put, List.getElem_toArray, List.getElem_cons_zero, List.getElem_cons_succ, List.setIfInBounds_toArray, List.set_cons_zero, List.set_cons_succ]
    refine RegE.take (i := 7) (v := ?k20vv) rfl (by kernel_rfl) (by kernel_rfl) rfl (by kernel_rfl) (by kernel_rfl) (by kernel_rfl) (fun _ _ _ h => h) (Or.inl ⟨by first | rfl | simp [Region.wanted, yielded], ?k20vy⟩) hS ?k20vr
    case k20vy => intro ww hSw; obtain ⟨⟨hs1, hs2, hs3, hs4⟩, hs5, hs6⟩ := hSw; (go_simp <;> with_reducible rfl)
    try simp only [Act.put, List.getElem_toArray, List.getElem_cons_zero, List.getElem_cons_succ, List.setIfInBounds_toArray, List.set_cons_zero, List.set_cons_succ]
    refine RegE.take (i := 8) (v := ?k21vv) rfl (by kernel_rfl) (by kernel_rfl) rfl (by kernel_rfl) (by kernel_rfl) (by kernel_rfl) (fun _ _ _ h => h) (Or.inl ⟨by first | rfl | simp [Region.wanted, yielded], ?k21vy⟩) hS ?k21vr
    case k21vy => intro ww hSw; obtain ⟨⟨hs1, hs2, hs3, hs4⟩, hs5, hs6⟩ := hSw; (go_simp <;> with_reducible rfl)
    try simp only [Act.put, List.getElem_toArray, List.getElem_cons_zero, List.getElem_cons_succ, List.setIfInBounds_toArray, List.set_cons_zero, List.set_cons_succ]
    refine RegE.take (i := 9) (v := undef) rfl (by kernel_rfl) (by kernel_rfl) rfl (by kernel_rfl) (by kernel_rfl) (by kernel_rfl) (fun _ _ _ h => h) (Or.inr ⟨by first | rfl | simp [Region.wanted, yielded], rfl⟩) hS ?k22vr
    try simp only [Act.put, List.getElem_toArray, List.getElem_cons_zero, List.getElem_cons_succ, List.setIfInBounds_toArray, List.set_cons_zero, List.set_cons_succ]
    refine RegE.take (i := 10) (v := undef) rfl (by kernel_rfl) (by kernel_rfl) rfl (by kernel_rfl) (by kernel_rfl) (by kernel_rfl) (fun _ _ _ h => h) (Or.inr ⟨by first | rfl | simp [Region.wanted, yielded], rfl⟩) hS ?k23vr
    try simp only [Act.put, List.getElem_toArray, List.getElem_cons_zero, List.getElem_cons_succ, List.setIfInBounds_toArray, List.set_cons_zero, List.set_cons_succ]
    refine RegE.take (i := 11) (v := undef) rfl (by kernel_rfl) (by kernel_rfl) rfl (by kernel_rfl) (by kernel_rfl) (by kernel_rfl) (fun _ _ _ h => h) (Or.inr ⟨by first | rfl | simp [Region.wanted, yielded], rfl⟩) hS ?k24vr
    try simp only [Act.put, List.getElem_toArray, List.getElem_cons_zero, List.getElem_cons_succ, List.setIfInBounds_toArray, List.set_cons_zero, List.set_cons_succ]
    refine RegE.take (i := 12) (v := undef) rfl (by kernel_rfl) (by kernel_rfl) rfl (by kernel_rfl) (by kernel_rfl) (by kernel_rfl) (fun _ _ _ h => h) (Or.inr ⟨by first | rfl | simp [Region.wanted, yielded], rfl⟩) hS ?k25vr
    try simp only [Act.put, List.getElem_toArray, List.getElem_cons_zero, List.getElem_cons_succ, List.setIfInBounds_toArray, List.set_cons_zero, List.set_cons_succ]
    refine RegE.take (i := 13) (v := undef) rfl (by kernel_rfl) (by kernel_rfl) rfl (by kernel_rfl) (by kernel_rfl) (by kernel_rfl) (fun _ _ _ h => h) (Or.inr ⟨by first | rfl | simp [Region.wanted, yielded], rfl⟩) hS ?k26vr
    try simp only [Act.put, List.getElem_toArray, List.getElem_cons_zero, List.getElem_cons_succ, List.setIfInBounds_toArray, List.set_cons_zero, List.set_cons_succ]
    refine RegE.take (i := 14) (v := undef) rfl (by kernel_rfl) (by kernel_rfl) rfl (by kernel_rfl) (by kernel_rfl) (by kernel_rfl) (fun _ _ _ h => h) (Or.inr ⟨by first | rfl | simp [Region.wanted, yielded], rfl⟩) hS ?k27vr
    try simp only [Act.put, List.getElem_toArray, List.getElem_cons_zero, List.getElem_cons_succ, List.setIfInBounds_toArray, List.set_cons_zero, List.set_cons_succ]
    obtain ⟨⟨hs1, hs2, hs3, hs4⟩, hs5, hs6⟩ := hS
    refine RegE.done rfl (by kernel_rfl) (fun K hK => ?_)
    go_simp
    refine hK _ _ ?_
    clear hK K hs1 hs2 hs3 hs4 hs5 hs6
    refine NoPanic.normal ?_
    try simp only [Act.put, List.getElem_toArray, List.getElem_cons_zero, List.getElem_cons_succ, List.setIfInBounds_toArray, List.set_cons_zero, List.set_cons_succ]
    have HBX := hide hbx
    clear hbx
    go_wp2_with fail
    go_ret2
    exact ⟨rfl, HB0.out.trans (HBX.out.mono HB0.out.size)⟩
  · have z1 : (sz == 0) = false := by simpa using h1
    have z2 : decide (sz = 0) = false := by simpa using h1
    have z3 : ((n : Int) == sz) = false := by simpa using h2
    have z4 : ((n : Int) != sz) = true := by simpa using h2
    have z5 : decide ((n : Int) = sz) = false := by simpa using h2
    clear HBAD
    go_region_held3 (fun ww => (ww.cell? ⟨w.heap.size, 0, none⟩ = some (.slice A n c) ∧ ww.cell? ⟨w.heap.size, 1, none⟩ = some (.slice B m e) ∧ ww.cell? ⟨w.heap.size, 2, none⟩ = some (.int .i64 lf) ∧ ww.cell? ⟨w.heap.size, 3, none⟩ = some (.bool dd)) ∧ ww.cell? ⟨w.heap.size + 1, 0, none⟩ = some (.int .i64 l) ∧ ww.cell? ⟨w.heap.size + 1, 1, none⟩ = some (.int .i64 p))
      (first | (with_reducible exact (HSS.out w0 (Below.refl _ _))) | (with_reducible exact (HSS.out _ hbx)))
      (first
        | ((with_reducible refine (HSZ.out _).mono ?_); rintro q wn ⟨rfl, hbn⟩; have hbx := hbx.trans (hbn.mono hbx.size))
        | ((with_reducible refine (HMA.out _ _ (HD0.out.below hbx)).mono ?_); rintro q wn ⟨rfl, hbn⟩; have hbx := hbx.trans (hbn.mono hbx.size)))
    have HBX := hide hbx
    clear hbx
    go_wp2_with fail
    go_ret2
    exact ⟨rfl, HB0.out.trans (HBX.out.mono HB0.out.size)⟩

set_option maxRecDepth 100000 in
set_option maxHeartbeats 6400000 in
theorem open_dead (A : Option Addr) (n c : Nat) (B : Option Addr) (m e : Nat) (d : Disk) (V : Nat → Prop) (l p : Int) (w : World) (hD : Dk w V A n c B m e d) (hm : DiskP.may d = true) (hdead : d.dead = true) (h0 : sizeI l p ≠ 0) (hn : (n : Int) = sizeI l p) :
    Calls Try.prog 60 #[.agg #[.slice A n c, .slice B m e, .int .i64 d.left, .bool d.dead], .agg #[.int .i64 l, .int .i64 p]] w fun q w' => q = .returned (.tuple #[.pointer none, .int .i64 14]) ∧ Below w.heap.size w w' := by
  have h2 : 2 ≤ n := by
    unfold sizeI at h0 hn
    split at hn
    · rename_i hh; rw [if_pos hh] at h0; exact absurd rfl h0
    · omega
  have hnw := fun ww V' hD => newest_dead A n c B m e d V' ww hD hm h2 hdead
  have hbad : sizeI l p ≠ 0 ∧ DiskP.may d = true ∧ (n : Int) = sizeI l p := ⟨h0, hm, hn⟩
  clear h0 hn hm
  have hma := fun ww V' hD => may_any A n c B m e d V' ww hD
  have hsz := size_any l p
  obtain ⟨lf, hlf⟩ : ∃ lf, lf = d.left := ⟨_, rfl⟩
  obtain ⟨dd, hdd⟩ : ∃ dd, dd = d.dead := ⟨_, rfl⟩
  obtain ⟨sz, hsz0⟩ : ∃ sz, sz = sizeI l p := ⟨_, rfl⟩
  obtain ⟨my, hmy⟩ : ∃ my, my = DiskP.may d := ⟨_, rfl⟩
  rw [← hlf, ← hdd, ← hmy] at hma
  rw [← hlf, ← hdd] at hnw
  rw [← hdd] at hdead
  subst hdead
  rw [← hlf, ← hdd]
  rw [← hsz0] at hsz hbad
  rw [← hmy] at hbad
  have HSZ := hide hsz
  have HMA : Hid (∀ ww V', Dk ww V' A n c B m e d → Calls Try.prog 70 #[.agg #[.slice A n c, .slice B m e, .int .i64 lf, .bool true]] ww fun q w' => q = .returned (.bool my) ∧ Below ww.heap.size ww w') := hma
  have kD0 := (Box.new w 50 #[.slice A n c, .slice B m e, .int .i64 lf, .bool true]).up (.cells #[.int .i64 l, .int .i64 p] 85)
  have kC0 := Box.new (w.alloc (.cells #[.slice A n c, .slice B m e, .int .i64 lf, .bool true] 50)) 85 #[.int .i64 l, .int .i64 p]
  have hb0 := ((Below.refl w.heap.size w).alloc (Nat.le_refl _) (.cells #[.slice A n c, .slice B m e, .int .i64 lf, .bool true] 50)).alloc (by simp) (.cells #[.int .i64 l, .int .i64 p] 85)
  simp only [World.size_alloc] at kC0
  have hD0 := hD.lt'.below hb0
  obtain ⟨w0, hw0⟩ : ∃ y, y = (w.alloc (.cells #[.slice A n c, .slice B m e, .int .i64 lf, .bool true] 50)).alloc (.cells #[.int .i64 l, .int .i64 p] 85) := ⟨_, rfl⟩
  rw [← hw0] at kD0 kC0 hb0 hD0
  have HW0 := hide hw0
  have HD0 := hide hD0
  have HB0 := hide hb0
  have HSS : Hid (∀ ww, Below w0.heap.size w0 ww → (ww.cell? ⟨w.heap.size, 0, none⟩ = some (.slice A n c) ∧ ww.cell? ⟨w.heap.size, 1, none⟩ = some (.slice B m e) ∧ ww.cell? ⟨w.heap.size, 2, none⟩ = some (.int .i64 lf) ∧ ww.cell? ⟨w.heap.size, 3, none⟩ = some (.bool true)) ∧ ww.cell? ⟨w.heap.size + 1, 0, none⟩ = some (.int .i64 l) ∧ ww.cell? ⟨w.heap.size + 1, 1, none⟩ = some (.int .i64 p)) := fun ww hb => ⟨(kD0.belowS hb).cell4, (kC0.belowS hb).cell2⟩
  have HBAD := hide hbad
  have HNW : Hid (∀ ww V', Dk ww V' A n c B m e d → Calls Try.prog 89 #[.agg #[.slice A n c, .slice B m e, .int .i64 lf, .bool true]] ww fun q w' => q = .returned (.tuple #[.agg #[.int .i64 0, .int .i64 0, .int .i64 0, .int .i64 0], .bool false, .int .i64 14]) ∧ Below ww.heap.size ww w') := hnw
  clear hnw hma hsz hlf hdd hsz0 hmy hw0 hD0 hD hb0 kD0 kC0 hbad
  go_enter Try.func60, Try.ntmps60
  go_upto_region 1 with (fail)
  rw [← HW0.out]
  clear HW0
  have hbx : Below w0.heap.size w0 w0.drew := (Below.refl _ _).drew
  obtain ⟨h1, rfl, h3⟩ := HBAD.out
  have z1 : (sz == 0) = false := by simpa using h1
  have z2 : decide (sz = 0) = false := by simpa using h1
  have z3 : ((n : Int) == sz) = true := by simpa using h3
  have z4 : ((n : Int) != sz) = false := by simpa using h3
  have z5 : decide ((n : Int) = sz) = true := by simpa using h3
  clear HBAD h3
  go_region_held3 (fun ww => (ww.cell? ⟨w.heap.size, 0, none⟩ = some (.slice A n c) ∧ ww.cell? ⟨w.heap.size, 1, none⟩ = some (.slice B m e) ∧ ww.cell? ⟨w.heap.size, 2, none⟩ = some (.int .i64 lf) ∧ ww.cell? ⟨w.heap.size, 3, none⟩ = some (.bool true)) ∧ ww.cell? ⟨w.heap.size + 1, 0, none⟩ = some (.int .i64 l) ∧ ww.cell? ⟨w.heap.size + 1, 1, none⟩ = some (.int .i64 p))
    (first | (with_reducible exact (HSS.out w0 (Below.refl _ _))) | (with_reducible exact (HSS.out _ hbx)))
    (first
      | ((with_reducible refine (HSZ.out _).mono ?_); rintro q wn ⟨rfl, hbn⟩; have hbx := hbx.trans (hbn.mono hbx.size))
      | ((with_reducible refine (HMA.out _ _ (HD0.out.below hbx)).mono ?_); rintro q wn ⟨rfl, hbn⟩; have hbx := hbx.trans (hbn.mono hbx.size)))
  obtain ⟨⟨q0, q1, q2, q3⟩, _, _⟩ := HSS.out _ hbx
  have HD1 := hide (HD0.out.below hbx)
  have HBX := hide hbx
  clear hbx z3 z4 z5
  go_upto_region 3 with (fail)
  go_wp2_with fail
  refine (HNW.out _ _ HD1.out).mono ?_
  rintro q w5 ⟨rfl, hb5⟩
  have kH := Box.new w5 128 #[.int .i64 0, .int .i64 0, .int .i64 0, .int .i64 0]
  have HB5 := hide ((HB0.out.trans (HBX.out.mono HB0.out.size)).trans (hb5.mono (HB0.out.trans (HBX.out.mono HB0.out.size)).size))
  clear hb5 q0 q1 q2 q3
  go_wp2_with fail
  go_ret2
  exact ⟨rfl, HB5.out.alloc HB5.out.size _⟩

theorem scanGo_len (all : Bytes) : ∀ (f at_ q : Nat), (LogP.scanGo all f at_ q).1.length ≤ f ∧ (LogP.scanGo all f at_ q).2.2 ≤ q + f ∧ q ≤ (LogP.scanGo all f at_ q).2.2 := by
  intro f
  induction f with
  | zero => intro at_ q; exact ⟨Nat.le_refl _, Nat.le_refl _, Nat.le_refl _⟩
  | succ f ih =>
    intro at_ q
    unfold LogP.scanGo
    split
    · exact ⟨Nat.zero_le _, by show q ≤ _; omega, Nat.le_refl _⟩
    · split
      · exact ⟨Nat.zero_le _, by show q ≤ _; omega, Nat.le_refl _⟩
      · rename_i s hs
        obtain ⟨h1, h2, h3⟩ := ih (at_ + LogP.secs s.length) (q + 1)
        refine ⟨?_, ?_, ?_⟩
        · show (LogP.scanGo all f (at_ + LogP.secs s.length) (q + 1)).1.length + 1 ≤ _
          omega
        · show (LogP.scanGo all f (at_ + LogP.secs s.length) (q + 1)).2.2 ≤ _
          omega
        · show q ≤ (LogP.scanGo all f (at_ + LogP.secs s.length) (q + 1)).2.2
          omega
/-- what is opened -/
theorem opened_few {d : Disk} {c : Cut} {k : K} (hc : okC c) (hl : Live (KeepP.size c) d) (h : openP d c = (some k, 0)) : k.cut = c ∧ k.drive = d ∧ okH k.head ∧ k.records.length ≤ 400 ∧ k.log.seq ≤ LogP.maxSeq + 400 ∧ 1 ≤ k.log.seq := by
  obtain ⟨h1, h2, h3, _⟩ := KeepP.opened_is hl h
  refine ⟨h1, h2, h3, ?_⟩
  have hq := h3.2.2.2.2.1
  have hlg := hc.2.1
  unfold openP at h
  split at h
  · cases h
  · rename_i hd hn
    split at h
    · cases h
    · split at h
      · cases h
      · injection h with h _
        injection h with h
        subst h
        simp only at hq h3 ⊢
        have hfit := KeepP.half_fit (c := c) h3.2.2.1
        unfold KeepP.half at hfit
        have hlen := hl.len
        have hr : DiskP.read d ((KeepP.start c hd.half : Nat) : Int) ((c.log : Nat) : Int) = _ := read_ok hl.may (by simp only [DiskP.there, Bool.and_eq_true, decide_eq_true_eq]; rw [hlen]; omega) hl.dead
        have hr2 : (DiskP.read d ((beginP c hd).frm : Nat) ((beginP c hd).len : Nat)).2 = 0 := by
          show (DiskP.read d ((KeepP.start c hd.half : Nat) : Int) ((c.log : Nat) : Int)).2 = 0
          rw [hr]
        have hq1 := h3.2.2.2.1
        unfold LogP.scanP
        rw [if_pos hr2]
        obtain ⟨s1, s2, s3⟩ := scanGo_len (DiskP.read d ((beginP c hd).frm : Nat) ((beginP c hd).len : Nat)).1 (beginP c hd).len (beginP c hd).at_ (beginP c hd).seq
        have e1 : (beginP c hd).len = c.log := rfl
        have e2 : (beginP c hd).seq = hd.seq := rfl
        refine ⟨?_, ?_, ?_⟩
        · show (LogP.scanGo _ _ _ _).1.length ≤ 400
          omega
        · show (LogP.scanGo _ _ _ _).2.2 ≤ _
          omega
        · show 1 ≤ (LogP.scanGo _ _ _ _).2.2
          omega

section
variable {H : Type} {enc : TypeId × Value → H} {W : World}
theorem strs_list {fuel : Nat} {v : Value} {x : DataW H × List MemPlace} (h : DataW.trod enc Try.prog W 0 (fun _ => true) true fuel 22 [v] = some x) :
    ∃ A c, ∃ l : List Bytes, v = .slice A l.length c ∧ l.length ≤ c ∧ c ≤ 9223372036854775807 ∧ Sl W (fun _ => True) 1 A l.length (secV l) := by
  obtain ⟨A, c, l, h1, h2, h3, h4, _⟩ := slice_list (f := fun s : Bytes => [Value.string (mkB s)]) (Q := fun _ => True) (sz := 1) (by decide) (fun _ => rfl) Try.underlying22 Try.cellsSt (fun fuel cs x h => by
    obtain ⟨s, e, _, _⟩ := DataW.trod_string Try.underlying9 h
    exact ⟨oct s, by rw [e, mkB_oct], trivial⟩) h
  have e : ∀ l : List Bytes, l.flatMap (fun s : Bytes => [Value.string (mkB s)]) = secV l := fun l => by
    induction l with
    | nil => rfl
    | cons a l ih => rw [List.flatMap_cons, ih]; rfl
  rw [e] at h4
  exact ⟨A, c, l, h1, h2, h3, h4⟩
theorem Try.cellsBoo : Try.prog.cellsOf 4 = 1 := by kernel_rfl
set_option maxRecDepth 100000 in
/-- a disk that comes in -/
theorem open_disk_arg {v : Value} {d : DataW H} {p : List MemPlace} (h : DataW.Trod enc Try.prog W 0 (fun _ => true) true 50 v d p) :
    ∃ SA sc, ∃ ss : List Bytes, ∃ WA wc, ∃ ws : List Wr, ∃ lf dd, v = .agg #[.slice SA ss.length sc, .slice WA ws.length wc, .int .i64 lf, .bool dd] ∧ ss.length ≤ sc ∧ sc ≤ 9223372036854775807 ∧ Sl W (fun _ => True) 1 SA ss.length (secV ss) ∧ ws.length ≤ wc ∧ wc ≤ 9223372036854775807 ∧ Sl W (fun _ => True) 2 WA ws.length (wrV ws) ∧ -9223372036854775808 ≤ lf ∧ lf ≤ 9223372036854775807 := by
  obtain ⟨fuel, hf⟩ := h
  obtain ⟨y0, y1, y2, y3, n, _, hl, h0, h1, h2, h3⟩ := Go.Joins.trod_struct4 Try.underlying50 hf
  rw [Try.cellsDisk] at hl
  obtain ⟨a, b, c, e, hab⟩ : ∃ a b c e, v.cells.toList = [a, b, c, e] := by
    match hv : v.cells.toList, hl with
    | [a, b, c, e], _ => exact ⟨a, b, c, e, rfl⟩
  rw [hab] at h0 h1 h2 h3
  simp only [Try.cellsSs, Try.cellsWs, Try.cellsIn, Try.cellsBoo] at h0 h1 h2 h3
  simp at h0 h1 h2 h3
  obtain ⟨SA, sc, ss, e0, s1, s2, s3⟩ := strs_list (v := a) h0
  obtain ⟨WA, wc, ws, e1, t1, t2, t3, _⟩ := wrs_list (v := b) h1
  obtain ⟨n2, e2, _, hw2⟩ := DataW.trod_int Try.underlying3 h2
  obtain ⟨b3, e3, _⟩ := DataW.trod_bool Try.underlying4 h3
  simp at e2 e3
  subst e0 e1 e2 e3
  have k2 := i64_wf hw2
  exact ⟨SA, sc, ss, WA, wc, ws, n2, b3, aggB hab (by simp), s1, s2, s3, t1, t2, t3, k2.1, k2.2⟩
end
end Go.Proofs.Yteoiadfcchalfaa
