/- The walks of layer 17: strings.Join, Read; the reference's Same of equal disks, and May. -/
import Derived.Test.YteoiadfcchalfaaDiskE
namespace Go.Proofs.Yteoiadfcchalfaa
open Go.RowKit
open DiskP (Bytes Disk Wr Fate)
set_option linter.unusedVariables false

theorem join_flat (xs : List (List UInt8)) : Lib.join xs [] = xs.flatten := by
  cases xs with
  | nil => rfl
  | cons x r => rw [Lib.join_cons, List.flatten_cons, Lib.joinTail]; simp

/-- a slice of strings, one behind the other -/
theorem join_any (A : Option Addr) (n c : Nat) (ss : List ByteArray) (V : Nat → Prop) (w : World) (h : Sl w V 1 A n (strs ss)) (hA : n = 0 ∨ ∃ g o, A = some ⟨g, o, none⟩) (hc : n ≤ c) (hn : n ≤ 1000000000) (hl : ((ss.map oct).flatten).length ≤ 140737488355328) :
    Calls Try.prog 100 #[.slice A n c, .string ⟨#[]⟩] w fun e w' => e = .returned (.string (mkB (ss.map oct).flatten)) ∧ Below w.heap.size w w' := by
  have hlen := h.len
  rcases Nat.eq_zero_or_pos n with h0 | h0
  · subst h0
    have hs : ss = [] := List.eq_nil_of_length_eq_zero hlen
    subst hs
    exact (Try.strings_Join_none A c ⟨#[]⟩ w).mono fun e w' ⟨he, hw⟩ => ⟨he, hw ▸ Below.refl _ _⟩
  · obtain ⟨g, o, rfl⟩ := hA.resolve_left (by omega)
    obtain ⟨a, ea, _, hb, hcell⟩ := h.2 h0
    injection ea with ea
    subst ea
    have hj := join_flat (ss.map fun x => x.data.toList)
    have := Try.strings_Join g o c ss ⟨#[]⟩ w (fun j x hx => by
      have := hcell j (.string x) (by rw [strs, List.getElem?_map, hx]; rfl)
      rw [Addr.add_lit] at this
      exact this) hb (by omega) (by omega) (by rw [show (⟨#[]⟩ : ByteArray).data.toList = [] from rfl, hj]; exact hl)
    rw [show (⟨#[]⟩ : ByteArray).data.toList = [] from rfl, hj, hlen] at this
    exact this

theorem read_ok {d : Disk} {i n : Int} (hm : DiskP.may d = true) (ht : DiskP.there d i n = true) (hd : d.dead = false) : DiskP.read d i n = ((((DiskP.done d).drop i.toNat).take n.toNat).flatten, 0) := by
  rw [DiskP.read, hm, ht, hd]; rfl
theorem read_dead {d : Disk} {i n : Int} (hm : DiskP.may d = true) (ht : DiskP.there d i n = true) (hd : d.dead = true) : DiskP.read d i n = ([], 14) := by
  rw [DiskP.read, hm, ht, hd]; rfl
theorem sized_flat {S : List Bytes} (h : ∀ s ∈ S, s.length = 128) : S.flatten.length = 128 * S.length := by
  induction S with
  | nil => rfl
  | cons s S ih =>
    rw [List.flatten_cons, List.length_append, h s (by simp), ih fun t ht => h t (by simp [ht]), List.length_cons]
    omega

set_option maxRecDepth 100000 in
set_option maxHeartbeats 1600000 in
theorem read17_any (A : Option Addr) (n c : Nat) (B : Option Addr) (m e : Nat) (d : Disk) (V : Nat → Prop) (i k : Nat) (w : World) (h : Dk w V A n c B m e d) (hm : DiskP.may d = true) (hik : i + k ≤ n) :
    Calls Try.prog 83 #[dkv A n c B m e d.left d.dead, .int .i64 i, .int .i64 k] w fun q w' => q = .returned (.tuple #[.string (mkB (DiskP.read d i k).1), .int .i64 ((DiskP.read d i k).2 : Nat)]) ∧ Below w.heap.size w w' := by
  have hlen := h.len
  have hnle := h.nle
  have hdl : (DiskP.done d).length = n := by rw [DiskP.done, DiskP.doneGo_len, hlen]
  have hmi := (DiskP.may_iff d).1 hm
  have hsz : ∀ s ∈ DiskP.done d, s.length = 128 := DiskP.doneGo_size d.W (fun w hw => (hmi.2.2.2.2 w hw).2.2) d.S hmi.2.2.2.1
  have hn1 : 0 < n := by rw [← hlen]; omega
  have ht : DiskP.there d i k = true := by
    simp only [DiskP.there, Bool.and_eq_true, decide_eq_true_eq]
    rw [hlen]; omega
  have hma := fun w1 hD => may_any A n c B m e d V w1 hD
  have hth := fun w1 hD => there_any A n c B m e d V i k w1 hD (by omega) (by omega)
  have hdo := fun w1 hD => done_any A n c B m e d V w1 hD hm
  rw [hm] at hma
  rw [ht] at hth
  have hB1 := Box.new w 50 #[.slice A n c, .slice B m e, .int .i64 d.left, .bool d.dead]
  have hb : Below w.heap.size w (w.alloc (.cells #[.slice A n c, .slice B m e, .int .i64 d.left, .bool d.dead] 50)) := (Below.refl _ _).alloc (Nat.le_refl _) _
  obtain ⟨lf, hlf⟩ : ∃ lf, lf = d.left := ⟨_, rfl⟩
  have HDL := hide hdl
  have HSZ := hide hsz
  clear hdl hsz hmi hlen
  cases hd : d.dead with
  | true =>
    rw [read_dead hm ht hd]
    rw [← hlf, hd] at hma hth hB1 hb
    rw [← hlf]
    have HMA := hide (hma _ (h.below hb))
    have HTH := hide hth
    clear hma hth hlf hdo ht hd
    go_enter Try.func83, Try.ntmps83
    go_wp2_with fail
    refine HMA.out.mono ?_
    rintro q w1 ⟨rfl, hb1⟩
    have kA1 := hB1.belowS hb1
    have hbw1 := hb.trans (hb1.mono hb.size)
    obtain ⟨p0, p1, p2, p3⟩ := kA1.cell4
    go_wp2_with fail
    refine (HTH.out _ (h.below hbw1)).mono ?_
    rintro q w2 ⟨rfl, hb2⟩
    have kA2 := kA1.belowS hb2
    have hbw2 := hbw1.trans (hb2.mono hbw1.size)
    clear p0 p1 p2 p3
    obtain ⟨p0, p1, p2, p3⟩ := kA2.cell4
    go_wp2_with fail
    go_ret2
    exact ⟨rfl, hbw2⟩
  | false =>
    rw [read_ok hm ht hd]
    obtain ⟨ss, hss⟩ : ∃ ss, ss = (((DiskP.done d).drop i).take k).map mkB := ⟨_, rfl⟩
    have e1 : ((secV (DiskP.done d)).drop (i * 1)).take ((i + k - i) * 1) = strs ss := by
      rw [hss, Nat.mul_one, Nat.mul_one, Nat.add_sub_cancel_left]
      simp [secV, strs, List.map_drop, List.map_take]
    have e2 : (ss.map oct).flatten = (((DiskP.done d).drop i).take k).flatten := by
      rw [hss, List.map_map, show oct ∘ mkB = id from funext oct_mkB, List.map_id]
    have hjl : ((ss.map oct).flatten).length ≤ 140737488355328 := by
      rw [e2, sized_flat fun s hs => HSZ.out s (List.mem_of_mem_drop (List.mem_of_mem_take hs)), List.length_take]
      omega
    rw [Int.toNat_natCast, Int.toNat_natCast, ← e2]
    have E1 := hide e1
    have HJL := hide hjl
    clear e1 e2 hjl hss
    rw [← hlf, hd] at hma hth hB1 hb hdo
    rw [← hlf]
    have HMA := hide (hma _ (h.below hb))
    have HTH := hide hth
    have HDO := hide hdo
    clear hma hth hlf hdo ht hd
    go_enter Try.func83, Try.ntmps83
    go_wp2_with fail
    refine HMA.out.mono ?_
    rintro q w1 ⟨rfl, hb1⟩
    have kA1 := hB1.belowS hb1
    have hbw1 := hb.trans (hb1.mono hb.size)
    obtain ⟨p0, p1, p2, p3⟩ := kA1.cell4
    go_wp2_with fail
    refine (HTH.out _ (h.below hbw1)).mono ?_
    rintro q w2 ⟨rfl, hb2⟩
    have kA2 := kA1.belowS hb2
    have hbw2 := hbw1.trans (hb2.mono hbw1.size)
    clear p0 p1 p2 p3
    obtain ⟨p0, p1, p2, p3⟩ := kA2.cell4
    go_wp2_with fail
    refine (HDO.out _ (h.below hbw2)).mono ?_
    rintro q w3 ⟨v3, rfl, ho3, hb3⟩
    obtain ⟨g, cap, hv3, hg1, hg2, hgc⟩ := own_form ho3 hn1
    subst hv3
    have hbw3 := hbw2.trans (hb3.mono hbw2.size)
    have hsl := (Sl.of_own ho3).cut (k := i) (m := i + k) (cap := cap) (by omega) hik (by omega)
    rw [E1.out, Nat.add_sub_cancel_left, Nat.mul_one] at hsl
    have b1 : (i : Int) ≤ (cap : Int) := by omega
    have b2 : (i : Int) + (k : Int) ≤ (cap : Int) := by omega
    have b3 : (i : Int) ≤ (i : Int) + (k : Int) := by omega
    have hjl := HJL.out
    clear ho3 p0 p1 p2 p3
    by_cases hci : cap = i
    · rw [if_pos hci] at hsl
      have hj := join_any _ k (cap - i) ss _ w3 hsl (.inl (by omega)) (by omega) (by omega) hjl
      clear hsl hjl
      subst hci
      have hk0 : k = 0 := by omega
      subst hk0
      rw [Nat.sub_self] at hj
      go_wp2_with fail
      refine hj.mono ?_
      rintro q w4 ⟨rfl, hb4⟩
      go_wp2_with fail
      go_ret2
      exact ⟨rfl, hbw3.trans (hb4.mono hbw3.size)⟩
    · rw [if_neg hci] at hsl
      have hA : (some (⟨g, 0, none⟩ : Addr)).map (fun x => x.add i) = some ⟨g, i, none⟩ := by rw [Option.map_some, Addr.add_lit, Nat.zero_add]
      rw [hA] at hsl
      have hj := join_any _ k (cap - i) ss _ w3 hsl (.inr ⟨g, i, rfl⟩) (by omega) (by omega) hjl
      clear hsl hjl hA
      go_wp2_with fail
      refine hj.mono ?_
      rintro q w4 ⟨rfl, hb4⟩
      go_wp2_with fail
      go_ret2
      exact ⟨rfl, hbw3.trans (hb4.mono hbw3.size)⟩
end Go.Proofs.Yteoiadfcchalfaa
