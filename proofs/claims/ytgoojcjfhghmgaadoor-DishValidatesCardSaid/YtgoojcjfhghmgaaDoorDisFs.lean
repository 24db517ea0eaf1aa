/- SameRules, Same of equal books. -/
import Derived.Test.YtgoojcjfhghmgaaDoorDisZb
namespace Go.Proofs.YtgoojcjfhghmgaaDoor
open Go.RowKit

set_option maxRecDepth 100000 in
set_option maxHeartbeats 2000000 in
theorem SameRules_ref (A A' : Option Addr) (c c' B : Nat) (l : List Ru) (w : World) (h : RusAt B w A l) (h' : RusAt B w A' l) (hs : l.length ≤ 60) (hl : ∀ x ∈ l, x.1.length ≤ 40) :
    Calls Tryd.prog 63 #[.slice A l.length c, .slice A' l.length c'] w fun e w' => e = .returned (.bool true) ∧ Drew w w' := by
  have Hl := Lib.hid hl
  clear hl
  go_enter Tryd.func63, Tryd.ntmps63
  go_wp2_with fail
  go_loopw [5] (fun i wr => ∃ k : Nat, k ≤ l.length ∧ i = .int .i64 k ∧ Drew w wr) (fun i _ => l.length - (intOf i).toNat)
  case atStart => exact ⟨0, Nat.zero_le _, rfl, 0, rfl⟩
  case round =>
    obtain ⟨k, hk, rfl, hb⟩ := hrel
    have Hb := Lib.hid hb
    clear hb
    by_cases hlt : k < l.length
    · obtain ⟨b1, o1, A1, c1, rfl, hb1, e0, e1, i1⟩ := h k hlt
      obtain ⟨b2, o2, A2, c2, rfl, hb2, g0, g1, i2⟩ := h' k hlt
      have d0 := (Hb.out.cell _).trans e0
      have d1 := (Hb.out.cell _).trans e1
      have d2 := (Hb.out.cell _).trans g0
      have d3 := (Hb.out.cell _).trans g1
      have m1 := Hl.out l[k] (List.getElem_mem hlt)
      have k0 : (0 : Int) ≤ (k : Int) := by omega
      have k1 : (k : Int) < (l.length : Int) := by omega
      have cs := Lib.hid (fun W (hW : Drew w W) => sameInts_ref A1 A2 c1 c2 B l[k].1 l[k].1 W (i1.below (hW.below B) (Nat.le_refl _)) (i2.below (hW.below B) (Nat.le_refl _)) (by omega))
      clear e0 e1 g0 g1 i1 i2
      generalize l[k].1 = o at d0 d2 cs m1
      have ht : decide (o = o) = true := by simp
      rw [ht] at cs
      go_wp2_with fail
      go_quiet ((go_at_call 25; exact quiet_drew (cs.out _ (Hb.out.drewN _))))
      go_wp2_with fail
      go_roundw
      case rel => exact ⟨k + 1, by omega, by go_num, Hb.out.drewN _⟩
      case measure => simp [intOf]; omega
    · obtain rfl : k = l.length := by omega
      go_wp2_with fail
      go_ret
      exact ⟨rfl, Hb.out⟩

set_option maxRecDepth 100000 in
set_option maxHeartbeats 4000000 in
theorem Same_ref (AI AR AI' AR' : Option Addr) (cI cR cI' cR' B : Nat) (b : Bk) (w : World) (hB : B ≤ w.heap.size) (h : ItsAt B w AI b.its) (h' : RusAt B w AR b.rus) (g : ItsAt B w AI' b.its) (g' : RusAt B w AR' b.rus) (hs : Short b) :
    Calls Tryd.prog 22 #[.agg #[.int .i64 b.p, .slice AI b.its.length cI, .slice AR b.rus.length cR], .agg #[.int .i64 b.p, .slice AI' b.its.length cI', .slice AR' b.rus.length cR']] w fun e w' => e = .returned (.bool true) ∧ Below w.heap.size w w' := by
  obtain ⟨W0, hW0⟩ : ∃ W0, W0 = (w.alloc (.cells #[.int .i64 b.p, .slice AI b.its.length cI, .slice AR b.rus.length cR] 25)).alloc (.cells #[.int .i64 b.p, .slice AI' b.its.length cI', .slice AR' b.rus.length cR'] 25) := ⟨_, rfl⟩
  have hw0 : Below w.heap.size w W0 := by rw [hW0]; exact balloc (balloc (Below.refl _ _) _) _
  have hb0 : Blk W0 w.heap.size 25 #[.int .i64 b.p, .slice AI b.its.length cI, .slice AR b.rus.length cR] := by rw [hW0]; exact (Blk.new w 25 _).alloc _
  have hb1 : Blk W0 (w.heap.size + 1) 25 #[.int .i64 b.p, .slice AI' b.its.length cI', .slice AR' b.rus.length cR'] := by rw [hW0]; exact blk_new' (by simp only [World.size_alloc])
  have hlt : w.heap.size < W0.heap.size := hb0.lt
  have hR := (h'.below (Below.refl _ _) hB).below hw0 (Nat.le_of_lt hlt)
  have hR' := (g'.below (Below.refl _ _) hB).below hw0 (Nat.le_of_lt hlt)
  have H := Lib.hid ((h.below (Below.refl _ _) hB).below hw0 (Nat.le_of_lt hlt))
  have H' := Lib.hid ((g.below (Below.refl _ _) hB).below hw0 (Nat.le_of_lt hlt))
  have cr := Lib.hid (SameRules_ref AR AR' cR cR' W0.heap.size b.rus W0 hR hR' hs.2.1 hs.2.2.2)
  have HB0 := Lib.hid hb0
  have HB1 := Lib.hid hb1
  have Hw := Lib.hid hw0
  have Hl := Lib.hid hs.2.2.1
  have hl60 := hs.1
  have x0 := hb0.cell 0
  have x1 := hb0.cell 1
  have x2 := hb0.cell 2
  have y0 := hb1.cell 0
  have y1 := hb1.cell 1
  have y2 := hb1.cell 2
  clear h h' g g' hs hR hR' hb0 hb1 hw0 hB
  rw [hW0] at x0 x1 x2 y0 y1 y2
  go_enter Tryd.func22, Tryd.ntmps22
  go_wp2_with (go_at_call 63; rw [← hW0]; refine cr.out.mono ?_; rintro e w1 ⟨rfl, hd1⟩)
  clear x0 x1 x2 y0 y1 y2
  go_loopw [5] (fun i wr => ∃ k : Nat, k ≤ b.its.length ∧ i = .int .i64 k ∧ Drew W0 wr) (fun i _ => b.its.length - (intOf i).toNat)
  case atStart => exact ⟨0, Nat.zero_le _, rfl, hd1⟩
  case round =>
    obtain ⟨k, hk, rfl, hb⟩ := hrel
    have Hb := Lib.hid hb
    have x1 := (hb.cell ⟨w.heap.size, 1, none⟩).trans (HB0.out.cell 1)
    have y1 := (hb.cell ⟨w.heap.size + 1, 1, none⟩).trans (HB1.out.cell 1)
    clear hb
    by_cases hlt2 : k < b.its.length
    · obtain ⟨b1, o1, A1, c1, A2, c2, rfl, hb1, e0, e1, i1, i2⟩ := H.out k hlt2
      obtain ⟨b2, o2, A3, c3, A4, c4, rfl, hb2, g0, g1, i3, i4⟩ := H'.out k hlt2
      have d0 := (Hb.out.cell _).trans e0
      have d1 := (Hb.out.cell _).trans e1
      have d2 := (Hb.out.cell _).trans g0
      have d3 := (Hb.out.cell _).trans g1
      obtain ⟨m1, m2⟩ := Hl.out b.its[k] (List.getElem_mem hlt2)
      have k0 : (0 : Int) ≤ (k : Int) := by omega
      have k1 : (k : Int) < (b.its.length : Int) := by omega
      have cs := Lib.hid (fun W (hW : Drew W0 W) => sameInts_ref A1 A3 c1 c3 W0.heap.size b.its[k].1 b.its[k].1 W (i1.below (hW.below _) (Nat.le_refl _)) (i3.below (hW.below _) (Nat.le_refl _)) (by omega))
      have ct := Lib.hid (fun W (hW : Drew W0 W) => sameInts_ref A2 A4 c2 c4 W0.heap.size b.its[k].2 b.its[k].2 W (i2.below (hW.below _) (Nat.le_refl _)) (i4.below (hW.below _) (Nat.le_refl _)) (by omega))
      clear e0 e1 g0 g1 i1 i2 i3 i4
      obtain ⟨n1, hn1⟩ : ∃ n1, n1 = b.its[k].1.length := ⟨_, rfl⟩
      obtain ⟨n2, hn2⟩ : ∃ n2, n2 = b.its[k].2.length := ⟨_, rfl⟩
      rw [← hn1] at d0 d2 cs
      rw [← hn2] at d1 d3 ct
      have ht1 : decide (b.its[k].1 = b.its[k].1) = true := by simp
      have ht2 : decide (b.its[k].2 = b.its[k].2) = true := by simp
      rw [ht1] at cs
      rw [ht2] at ct
      clear hn1 hn2 m1 m2 ht1 ht2
      go_wp2_with fail
      go_quiet ((first
        | (go_at_call_of 25 (Value.slice A1 n1 c1); exact quiet_drew (cs.out _ (Hb.out.drewN _)))
        | (go_at_call_of 25 (Value.slice A2 n2 c2); exact quiet_drew (ct.out _ (Hb.out.drewN _)))))
      go_wp2_with fail
      go_roundw
      case rel => exact ⟨k + 1, by omega, by go_num, Hb.out.drewN _⟩
      case measure => simp [intOf]; omega
    · obtain rfl : k = b.its.length := by omega
      go_wp2_with fail
      go_ret
      exact ⟨rfl, Hw.out.trans (Hb.out.below _)⟩
end Go.Proofs.YtgoojcjfhghmgaaDoor
