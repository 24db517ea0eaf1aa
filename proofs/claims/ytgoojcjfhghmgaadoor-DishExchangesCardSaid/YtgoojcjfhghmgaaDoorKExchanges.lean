/- DishExchanges returns true for every input, and its arguments read as they did; the library's tables start as its text lays them. -/
import Derived.Test.YtgoojcjfhghmgaaDoorDisZb
import Derived.Deep.RegionHeld3
import Derived.Test.YtgoojcjfhghmgaaDoorMergeX
import Derived.Test.YtgoojcjfhghmgaaDoorDisFf
import Derived.Test.YtgoojcjfhghmgaaDoorBase
import Derived.ProofKit
import Derived.Deep.Slices
import Derived.Deep.Fields
import Derived.ChangeOld
import Derived.OpenShut
import Derived.Test.YtgoojcjfhghmgaaDoorTie
import Derived.Test.YtgoojcjfhghmgaaDoorDisA
import Derived.LaidMore
import Derived.Lay
import Derived.SevenTiedAt
import Derived.Stop.Joined
import Derived.Test.YtgoojcjfhghmgaaDoorDisI
import Derived.Test.YtgoojcjfhghmgaaDoorRows
import Derived.Test.YtgoojcjfhghmgaaDoorCards
import Derived.Carry
import Derived.ShutString

namespace Go.Proofs.YtgoojcjfhghmgaaDoor
open Go.RowKit

set_option maxRecDepth 100000 in
set_option maxHeartbeats 2000000 in
theorem SameRules_ref (A A' : Option Addr) (c c' B : Nat) (l : List Ru) (w : World) (h : RusAt B w A l) (h' : RusAt B w A' l) (hs : l.length ≤ 60) (hl : ∀ x ∈ l, x.1.length ≤ 40) :
    Calls Tryd.prog 63 #[.slice A l.length c, .slice A' l.length c'] w fun e w' => e = .returned (.bool true) ∧ Drew w w' := by
  have Hl := Lib.hid hl
  clear hl
  go_enter Tryd.func63, Tryd.ntmps63
  go_wp2_with fail
  go_loopw [5] (fun i wr => ∃ k : Nat, k ≤ l.length ∧ i = .int .i64 k ∧ Drew w wr) (fun i _ => l.length - (intOf i).toNat)
  case atStart => exact ⟨0, Nat.zero_le _, rfl, 0, rfl⟩
  case round =>
    obtain ⟨k, hk, rfl, hb⟩ := hrel
    have Hb := Lib.hid hb
    clear hb
    by_cases hlt : k < l.length
    · obtain ⟨b1, o1, A1, c1, rfl, hb1, e0, e1, i1⟩ := h k hlt
      obtain ⟨b2, o2, A2, c2, rfl, hb2, g0, g1, i2⟩ := h' k hlt
      have d0 := (Hb.out.cell _).trans e0
      have d1 := (Hb.out.cell _).trans e1
      have d2 := (Hb.out.cell _).trans g0
      have d3 := (Hb.out.cell _).trans g1
      have m1 := Hl.out l[k] (List.getElem_mem hlt)
      have k0 : (0 : Int) ≤ (k : Int) := by omega
      have k1 : (k : Int) < (l.length : Int) := by omega
      have cs := Lib.hid (fun W (hW : Drew w W) => sameInts_ref A1 A2 c1 c2 B l[k].1 l[k].1 W (i1.below (hW.below B) (Nat.le_refl _)) (i2.below (hW.below B) (Nat.le_refl _)) (by omega))
      clear e0 e1 g0 g1 i1 i2
      generalize l[k].1 = o at d0 d2 cs m1
      have ht : decide (o = o) = true := by simp
      rw [ht] at cs
      go_wp2_with fail
      go_quiet ((go_at_call 25; exact quiet_drew (cs.out _ (Hb.out.drewN _))))
      go_wp2_with fail
      go_roundw
      case rel => exact ⟨k + 1, by omega, by go_num, Hb.out.drewN _⟩
      case measure => simp [intOf]; omega
    · obtain rfl : k = l.length := by omega
      go_wp2_with fail
      go_ret
      exact ⟨rfl, Hb.out⟩

set_option maxRecDepth 100000 in
set_option maxHeartbeats 4000000 in
theorem Same_ref (AI AR AI' AR' : Option Addr) (cI cR cI' cR' B : Nat) (b : Bk) (w : World) (hB : B ≤ w.heap.size) (h : ItsAt B w AI b.its) (h' : RusAt B w AR b.rus) (g : ItsAt B w AI' b.its) (g' : RusAt B w AR' b.rus) (hs : Short b) :
    Calls Tryd.prog 22 #[.agg #[.int .i64 b.p, .slice AI b.its.length cI, .slice AR b.rus.length cR], .agg #[.int .i64 b.p, .slice AI' b.its.length cI', .slice AR' b.rus.length cR']] w fun e w' => e = .returned (.bool true) ∧ Below w.heap.size w w' := by
  obtain ⟨W0, hW0⟩ : ∃ W0, W0 = (w.alloc (.cells #[.int .i64 b.p, .slice AI b.its.length cI, .slice AR b.rus.length cR] 25)).alloc (.cells #[.int .i64 b.p, .slice AI' b.its.length cI', .slice AR' b.rus.length cR'] 25) := ⟨_, rfl⟩
  have hw0 : Below w.heap.size w W0 := by rw [hW0]; exact balloc (balloc (Below.refl _ _) _) _
  have hb0 : Blk W0 w.heap.size 25 #[.int .i64 b.p, .slice AI b.its.length cI, .slice AR b.rus.length cR] := by rw [hW0]; exact (Blk.new w 25 _).alloc _
  have hb1 : Blk W0 (w.heap.size + 1) 25 #[.int .i64 b.p, .slice AI' b.its.length cI', .slice AR' b.rus.length cR'] := by rw [hW0]; exact blk_new' (by simp only [World.size_alloc])
  have hlt : w.heap.size < W0.heap.size := hb0.lt
  have hR := (h'.below (Below.refl _ _) hB).below hw0 (Nat.le_of_lt hlt)
  have hR' := (g'.below (Below.refl _ _) hB).below hw0 (Nat.le_of_lt hlt)
  have H := Lib.hid ((h.below (Below.refl _ _) hB).below hw0 (Nat.le_of_lt hlt))
  have H' := Lib.hid ((g.below (Below.refl _ _) hB).below hw0 (Nat.le_of_lt hlt))
  have cr := Lib.hid (SameRules_ref AR AR' cR cR' W0.heap.size b.rus W0 hR hR' hs.2.1 hs.2.2.2)
  have HB0 := Lib.hid hb0
  have HB1 := Lib.hid hb1
  have Hw := Lib.hid hw0
  have Hl := Lib.hid hs.2.2.1
  have hl60 := hs.1
  have x0 := hb0.cell 0
  have x1 := hb0.cell 1
  have x2 := hb0.cell 2
  have y0 := hb1.cell 0
  have y1 := hb1.cell 1
  have y2 := hb1.cell 2
  clear h h' g g' hs hR hR' hb0 hb1 hw0 hB
  rw [hW0] at x0 x1 x2 y0 y1 y2
  go_enter Tryd.func22, Tryd.ntmps22
  go_wp2_with (go_at_call 63; rw [← hW0]; refine cr.out.mono ?_; rintro e w1 ⟨rfl, hd1⟩)
  clear x0 x1 x2 y0 y1 y2
  go_loopw [5] (fun i wr => ∃ k : Nat, k ≤ b.its.length ∧ i = .int .i64 k ∧ Drew W0 wr) (fun i _ => b.its.length - (intOf i).toNat)
  case atStart => exact ⟨0, Nat.zero_le _, rfl, hd1⟩
  case round =>
    obtain ⟨k, hk, rfl, hb⟩ := hrel
    have Hb := Lib.hid hb
    have x1 := (hb.cell ⟨w.heap.size, 1, none⟩).trans (HB0.out.cell 1)
    have y1 := (hb.cell ⟨w.heap.size + 1, 1, none⟩).trans (HB1.out.cell 1)
    clear hb
    by_cases hlt2 : k < b.its.length
    · obtain ⟨b1, o1, A1, c1, A2, c2, rfl, hb1, e0, e1, i1, i2⟩ := H.out k hlt2
      obtain ⟨b2, o2, A3, c3, A4, c4, rfl, hb2, g0, g1, i3, i4⟩ := H'.out k hlt2
      have d0 := (Hb.out.cell _).trans e0
      have d1 := (Hb.out.cell _).trans e1
      have d2 := (Hb.out.cell _).trans g0
      have d3 := (Hb.out.cell _).trans g1
      obtain ⟨m1, m2⟩ := Hl.out b.its[k] (List.getElem_mem hlt2)
      have k0 : (0 : Int) ≤ (k : Int) := by omega
      have k1 : (k : Int) < (b.its.length : Int) := by omega
      have cs := Lib.hid (fun W (hW : Drew W0 W) => sameInts_ref A1 A3 c1 c3 W0.heap.size b.its[k].1 b.its[k].1 W (i1.below (hW.below _) (Nat.le_refl _)) (i3.below (hW.below _) (Nat.le_refl _)) (by omega))
      have ct := Lib.hid (fun W (hW : Drew W0 W) => sameInts_ref A2 A4 c2 c4 W0.heap.size b.its[k].2 b.its[k].2 W (i2.below (hW.below _) (Nat.le_refl _)) (i4.below (hW.below _) (Nat.le_refl _)) (by omega))
      clear e0 e1 g0 g1 i1 i2 i3 i4
      obtain ⟨n1, hn1⟩ : ∃ n1, n1 = b.its[k].1.length := ⟨_, rfl⟩
      obtain ⟨n2, hn2⟩ : ∃ n2, n2 = b.its[k].2.length := ⟨_, rfl⟩
      rw [← hn1] at d0 d2 cs
      rw [← hn2] at d1 d3 ct
      have ht1 : decide (b.its[k].1 = b.its[k].1) = true := by simp
      have ht2 : decide (b.its[k].2 = b.its[k].2) = true := by simp
      rw [ht1] at cs
      rw [ht2] at ct
      clear hn1 hn2 m1 m2 ht1 ht2
      go_wp2_with fail
      go_quiet ((first
        | (go_at_call_of 25 (Value.slice A1 n1 c1); exact quiet_drew (cs.out _ (Hb.out.drewN _)))
        | (go_at_call_of 25 (Value.slice A2 n2 c2); exact quiet_drew (ct.out _ (Hb.out.drewN _)))))
      go_wp2_with fail
      go_roundw
      case rel => exact ⟨k + 1, by omega, by go_num, Hb.out.drewN _⟩
      case measure => simp [intOf]; omega
    · obtain rfl : k = b.its.length := by omega
      go_wp2_with fail
      go_ret
      exact ⟨rfl, Hw.out.trans (Hb.out.below _)⟩
end Go.Proofs.YtgoojcjfhghmgaaDoor


namespace Go.Proofs.YtgoojcjfhghmgaaDoor
open Go.RowKit

/-- The contract of Copy. -/
def CopyOk : Prop := ∀ (AI AR : Option Addr) (cI cR B : Nat) (b : Bk) (w : World) (_ : B ≤ w.heap.size) (_ : ItsAt B w AI b.its) (_ : RusAt B w AR b.rus) (_ : Short b),
    Calls Tryd.prog 19 #[.agg #[.int .i64 b.p, .slice AI b.its.length cI, .slice AR b.rus.length cR]] w fun e w' => ∃ AI' AR' cI' cR', e = .returned (.agg #[.int .i64 b.p, .slice AI' b.its.length cI', .slice AR' b.rus.length cR']) ∧ ItsAt w'.heap.size w' AI' b.its ∧ RusAt w'.heap.size w' AR' b.rus ∧ Below w.heap.size w w'
theorem keep6 {w0 W : World} {n n' : Nat} {c0 c1 c2 e0 e1 e2 : Value} (hlt : n < w0.heap.size) (hlt' : n' < w0.heap.size) (h : w0.cell? ⟨n, 0, none⟩ = some c0 ∧ w0.cell? ⟨n, 1, none⟩ = some c1 ∧ w0.cell? ⟨n, 2, none⟩ = some c2) (h' : w0.cell? ⟨n', 0, none⟩ = some e0 ∧ w0.cell? ⟨n', 1, none⟩ = some e1 ∧ w0.cell? ⟨n', 2, none⟩ = some e2) (hb : Below w0.heap.size w0 W) :
    W.cell? ⟨n, 0, none⟩ = some c0 ∧ W.cell? ⟨n, 1, none⟩ = some c1 ∧ W.cell? ⟨n, 2, none⟩ = some c2 ∧ W.cell? ⟨n', 0, none⟩ = some e0 ∧ W.cell? ⟨n', 1, none⟩ = some e1 ∧ W.cell? ⟨n', 2, none⟩ = some e2 ∧ Below w0.heap.size w0 W :=
  ⟨(hb.cell (p := ⟨n, 0, none⟩) hlt).trans h.1, (hb.cell (p := ⟨n, 1, none⟩) hlt).trans h.2.1, (hb.cell (p := ⟨n, 2, none⟩) hlt).trans h.2.2, (hb.cell (p := ⟨n', 0, none⟩) hlt').trans h'.1, (hb.cell (p := ⟨n', 1, none⟩) hlt').trans h'.2.1, (hb.cell (p := ⟨n', 2, none⟩) hlt').trans h'.2.2, hb⟩

set_option maxRecDepth 100000 in
set_option maxHeartbeats 4000000 in
theorem law_validates (hC : CopyOk) (AI AR : Option Addr) (cI cR : Nat) (b : Bk) (w : World) (h : ItsAt w.heap.size w AI b.its) (h' : RusAt w.heap.size w AR b.rus) (hT : Tab w) :
    Calls Tryd.prog 3 #[.agg #[.int .i64 b.p, .slice AI b.its.length cI, .slice AR b.rus.length cR]] w fun e w' => e = .returned (.bool true) ∧ Below w.heap.size w w' := by
  have hb0 := Blk.new w 25 #[.int .i64 b.p, .slice AI b.its.length cI, .slice AR b.rus.length cR]
  have hw0 : Below w.heap.size w (w.alloc (.cells #[.int .i64 b.p, .slice AI b.its.length cI, .slice AR b.rus.length cR] 25)) := (Below.refl _ _).alloc (Nat.le_refl _) _
  obtain ⟨W0, hW0⟩ : ∃ W0, W0 = w.alloc (.cells #[.int .i64 b.p, .slice AI b.its.length cI, .slice AR b.rus.length cR] 25) := ⟨_, rfl⟩
  rw [← hW0] at hb0 hw0
  have hlt : w.heap.size < W0.heap.size := hb0.lt
  have hI := h.below hw0 (Nat.le_of_lt hlt)
  have hR := h'.below hw0 (Nat.le_of_lt hlt)
  have hT0 := hT.below hw0 hT.2
  have clg := Lib.hid (Long_any AI AR cI cR _ b W0 (Nat.le_refl _) hI hR)
  have ck := Lib.hid (fun W (hW : Below W0.heap.size W0 W) => known_any W (hT0.below hW hT0.2))
  have Hw := Lib.hid hw0
  have HB0 := Lib.hid hb0
  have HX := Lib.hid (fun W (hW : Below W0.heap.size W0 W) => blk3 (hb0.below hW hlt))
  have tok := Lib.hid (Nat.le_refl 0)
  cases hlg : lgR b with
  | true =>
    rw [hlg] at clg
    clear h h' hI hR hT hT0 hb0 hw0 hlg
    go_enter Tryd.func3, Tryd.ntmps3
    go_wp2_with (first
      | (have tk := tok; clear tok; go_at_call 17; rw [← hW0]; clear hW0; refine clg.out.mono ?_; rintro e w1 ⟨rfl, hd1⟩; have tok2 := tk; obtain ⟨z0, z1, z2, _⟩ := HX.out _ hd1)
      | (have tk := tok2; clear tok2; go_at_call 18; refine (ck.out _ hd1).mono ?_; rintro e w2 ⟨rfl, hd2⟩; have hb2 := hd1.trans (hd2.mono hd1.size)))
    go_ret
    exact ⟨rfl, Hw.out.trans (hb2.mono Hw.out.size)⟩
  | false =>
    rw [hlg] at clg
    have hs := lg_short hlg
    have c19 := Lib.hid (fun W (hW : Below W0.heap.size W0 W) => hC AI AR cI cR W0.heap.size b W hW.size (hI.below hW (Nat.le_refl _)) (hR.below hW (Nat.le_refl _)) hs)
    have c20 := Lib.hid (fun A' R' k1 k2 B' W1 W (h1 : ItsAt B' W1 A' b.its) (h2 : RusAt B' W1 R' b.rus) (hb : Below B' W1 W) (hB : B' ≤ W.heap.size) => Validate_any A' R' k1 k2 B' b W hB (h1.below hb (Nat.le_refl _)) (h2.below hb (Nat.le_refl _)) hs)
    have c21 := Lib.hid (fun W (hW : Below W0.heap.size W0 W) => Validate_ref AI AR cI cR W0.heap.size b W hW.size (hI.below hW (Nat.le_refl _)) (hR.below hW (Nat.le_refl _)) hs)
    have c22 := Lib.hid (fun A' R' k1 k2 B' W1 W (h1 : ItsAt B' W1 A' b.its) (h2 : RusAt B' W1 R' b.rus) (hb : Below B' W1 W) (hB : B' ≤ W.heap.size) (hW : Below W0.heap.size W0 W) (hB0 : W0.heap.size ≤ B') => Same_ref A' R' AI AR k1 k2 cI cR B' b W hB (h1.below hb (Nat.le_refl _)) (h2.below hb (Nat.le_refl _)) (hI.below hW hB0) (hR.below hW hB0) hs)
    generalize vlR b = e0 at c20 c21
    clear h h' hI hR hT hT0 hb0 hw0 hlg hs
    go_enter Tryd.func3, Tryd.ntmps3
    go_wp2_with (first
      | (have tk := tok; clear tok; go_at_call 17; rw [← hW0]; clear hW0; refine clg.out.mono ?_; rintro e w1 ⟨rfl, hd1⟩; have tok2 := tk; obtain ⟨z0, z1, z2, _⟩ := HX.out _ hd1)
      | (have tk := tok2; clear tok2; go_at_call 19; refine (c19.out _ hd1).mono ?_; rintro e w2 ⟨A', R', k1, k2, rfl, hi2, hr2, hd2⟩; have hb2 := hd1.trans (hd2.mono hd1.size); have tok3 := tk; clear z0 z1 z2; obtain ⟨z0, z1, z2, _⟩ := HX.out _ hb2))
    clear z0 z1 z2
    obtain ⟨W3, hW3⟩ : ∃ W3, W3 = w2.alloc (.cells #[.int .i64 b.p, .slice A' b.its.length k1, .slice R' b.rus.length k2] 25) := ⟨_, rfl⟩
    have hk3 : Blk W3 w2.heap.size 25 #[.int .i64 b.p, .slice A' b.its.length k1, .slice R' b.rus.length k2] := by rw [hW3]; exact Blk.new w2 25 _
    have hb3 : Below W0.heap.size W0 W3 := by rw [hW3]; exact balloc hb2 _
    have hd23 : Below w2.heap.size w2 W3 := by rw [hW3]; exact balloc (Below.refl _ _) _
    have HK3 := Lib.hid hk3
    have HI2 := Lib.hid (hi2.below hd23 hd23.size)
    have HR2 := Lib.hid (hr2.below hd23 hd23.size)
    have hl3 : w.heap.size < W3.heap.size := Nat.lt_of_lt_of_le hlt hb3.size
    have hl3' : w2.heap.size < W3.heap.size := hk3.lt
    have HX3 := Lib.hid (HB0.out.below hb3 hlt)
    rw [← hW3]
    clear hW3 hk3 hi2 hr2 hd23 hb2 hd1 hd2
    go_region_held3 (fun W => W.cell? ⟨w.heap.size, 0, none⟩ = some (.int .i64 b.p) ∧ W.cell? ⟨w.heap.size, 1, none⟩ = some (.slice AI b.its.length cI) ∧ W.cell? ⟨w.heap.size, 2, none⟩ = some (.slice AR b.rus.length cR) ∧ W.cell? ⟨w2.heap.size, 0, none⟩ = some (.int .i64 b.p) ∧ W.cell? ⟨w2.heap.size, 1, none⟩ = some (.slice A' b.its.length k1) ∧ W.cell? ⟨w2.heap.size, 2, none⟩ = some (.slice R' b.rus.length k2) ∧ Below W3.heap.size W3 W)
      ((refine keep6 hl3 hl3' ⟨HX3.out.cell 0, HX3.out.cell 1, HX3.out.cell 2⟩ ⟨HK3.out.cell 0, HK3.out.cell 1, HK3.out.cell 2⟩ ?_; repeat (first | exact Below.refl _ _ | assumption | refine Below.drew ?_)))
      (first
        | (go_at_call 20; have tk := tok3; clear tok3; refine (c20.out A' R' k1 k2 _ W3 _ HI2.out HR2.out (by repeat (first | exact Below.refl _ _ | assumption | refine Below.drew ?_ | refine balloc ?_ _)) (Below.size (w := W3) (B := W3.heap.size) (by repeat (first | exact Below.refl _ _ | assumption | refine Below.drew ?_ | refine balloc ?_ _)))).mono ?_; rintro e w5 ⟨rfl, hd5⟩; have tok4 := tk; have hb5 : Below W3.heap.size W3 w5 := Below.trans (by repeat (first | exact Below.refl _ _ | assumption | refine Below.drew ?_ | refine balloc ?_ _)) (hd5.mono (Below.size (w := W3) (B := W3.heap.size) (by repeat (first | exact Below.refl _ _ | assumption | refine Below.drew ?_ | refine balloc ?_ _)))))
        | (go_at_call 21; have tk := tok4; clear tok4; refine (c21.out _ (hb3.trans (Below.mono (by repeat (first | exact Below.refl _ _ | assumption | refine Below.drew ?_ | refine balloc ?_ _)) hb3.size))).mono ?_; rintro e w6 ⟨rfl, hd6⟩; have tok5 := tk; have hb6 : Below W3.heap.size W3 w6 := Below.trans (by repeat (first | exact Below.refl _ _ | assumption | refine Below.drew ?_ | refine balloc ?_ _)) (hd6.mono (Below.size (w := W3) (B := W3.heap.size) (by repeat (first | exact Below.refl _ _ | assumption | refine Below.drew ?_ | refine balloc ?_ _)))))
        | (go_at_call 22; have tk := tok5; clear tok5; refine (c22.out A' R' k1 k2 _ W3 _ HI2.out HR2.out (by repeat (first | exact Below.refl _ _ | assumption | refine Below.drew ?_ | refine balloc ?_ _)) (Below.size (w := W3) (B := W3.heap.size) (by repeat (first | exact Below.refl _ _ | assumption | refine Below.drew ?_ | refine balloc ?_ _))) (hb3.trans (Below.mono (by repeat (first | exact Below.refl _ _ | assumption | refine Below.drew ?_ | refine balloc ?_ _)) hb3.size)) hb3.size).mono ?_; rintro e w7 ⟨rfl, hd7⟩; have tok6 := tk; have hb7 : Below W3.heap.size W3 w7 := Below.trans (by repeat (first | exact Below.refl _ _ | assumption | refine Below.drew ?_ | refine balloc ?_ _)) (hd7.mono (Below.size (w := W3) (B := W3.heap.size) (by repeat (first | exact Below.refl _ _ | assumption | refine Below.drew ?_ | refine balloc ?_ _)))))
        | (go_at_call 18; have tk := tok6; clear tok6; refine (ck.out _ (hb3.trans (Below.mono (by repeat (first | exact Below.refl _ _ | assumption | refine Below.drew ?_ | refine balloc ?_ _)) hb3.size))).mono ?_; rintro e w8 ⟨rfl, hd8⟩; have hb8 : Below W3.heap.size W3 w8 := Below.trans (by repeat (first | exact Below.refl _ _ | assumption | refine Below.drew ?_ | refine balloc ?_ _)) (hd8.mono (Below.size (w := W3) (B := W3.heap.size) (by repeat (first | exact Below.refl _ _ | assumption | refine Below.drew ?_ | refine balloc ?_ _))))))
    all_goals
      have HB8 := Lib.hid (Hw.out.trans ((hb3.trans (hb8.mono hb3.size)).mono Hw.out.size))
      clear hb5 hb6 hb7 hb8
      go_wp2_with fail
      go_ret
      exact ⟨rfl, HB8.out⟩
end Go.Proofs.YtgoojcjfhghmgaaDoor


set_option linter.unusedSimpArgs false
set_option linter.unusedVariables false
namespace Go.Proofs.YtgoojcjfhghmgaaDoor
open Go Go.RowKit

set_option maxRecDepth 100000 in
set_option maxHeartbeats 8000000 in
theorem swapped_ref (AI AR : Option Addr) (cI cR B x y : Nat) (b : Bk) (w : World) (hB : B ≤ w.heap.size) (h : ItsAt B w AI b.its) (h' : RusAt B w AR b.rus) (hs : Short b) (ho : Ord b.its) (hx : x < b.its.length) (hy : y < b.its.length) :
    Calls Tryd.prog 113 #[.agg #[.int .i64 b.p, .slice AI b.its.length cI, .slice AR b.rus.length cR], .agg #[.int .i64 (x : Int), .int .i64 (y : Int)]] w fun e w' =>
      ((∃ AI' AR' cI' cR', exOk b.its ((x : Int), (y : Int)) ∧ e = .returned (.tuple #[.agg #[.int .i64 b.p, .slice AI' b.its.length cI', .slice AR' b.rus.length cR'], .bool true]) ∧ ItsN (fun q => w.heap.size ≤ q) w' AI' (exK b.its ((x : Int), (y : Int)) b.its.length) ∧ RusN (fun q => w.heap.size ≤ q) w' AR' b.rus) ∨
        (¬ exOk b.its ((x : Int), (y : Int)) ∧ e = .returned (.tuple #[.agg #[.int .i64 b.p, .slice AI b.its.length cI, .slice AR b.rus.length cR], .bool false]))) ∧ Below w.heap.size w w' := by
  have hT := h.below (Below.refl _ _) hB
  have hT' := h'.below (Below.refl _ _) hB
  have cc := Lib.hid (fun W (hW : Below w.heap.size w W) => Copy_apart AI AR cI cR w.heap.size b W hW.size (hT.below hW (Nat.le_refl _)) (hT'.below hW (Nat.le_refl _)) hs)
  have nI := hs.1
  have nR := hs.2.1
  have HOrd := Lib.hid ho
  have H40 := Lib.hid hs.2.2.1
  clear h h' hs ho hT hT' hB
  go_enter Tryd.func113, Tryd.ntmps113
  go_wp2_with fail
  generalize hW1 : ((w.alloc (.cells #[.int .i64 b.p, .slice AI b.its.length cI, .slice AR b.rus.length cR] 25)).alloc (.cells #[.int .i64 (x : Int), .int .i64 (y : Int)] 79)).alloc (.cells #[.int .i64 0, .slice none 0 0, .slice none 0 0] 25) = W1
  have HB1 := Lib.hid (show Below w.heap.size w W1 by rw [← hW1]; exact balloc (balloc (balloc (Below.refl _ _) _) _) _)
  have HK0 := Lib.hid (show Blk W1 w.heap.size 25 #[.int .i64 b.p, .slice AI b.its.length cI, .slice AR b.rus.length cR] by rw [← hW1]; exact ((Blk.new _ _ _).alloc _).alloc _)
  have HKs := Lib.hid (show Blk W1 (w.heap.size + 1) 79 #[.int .i64 (x : Int), .int .i64 (y : Int)] by rw [← hW1]; exact (blk_new' (by simp)).alloc _)
  have HK1 := Lib.hid (show Blk W1 (w.heap.size + 1 + 1) 25 #[.int .i64 0, .slice none 0 0, .slice none 0 0] by rw [← hW1]; exact blk_new' (by simp))
  have HS0 := Lib.hid (show w.heap.size + 1 + 1 < W1.heap.size from HK1.out.lt)
  clear hW1
  obtain ⟨x0, x1, x2, _⟩ := blk3 HK0.out
  go_wp2_with (go_at_call 19; refine (cc.out _ HB1.out).mono ?_; rintro e w2 ⟨AI', AR', cI', cR', ps, lo, rfl, hlo, hit, hru, hb2⟩)
  clear x0 x1 x2
  generalize hW3 : w2.alloc (.cells #[.int .i64 b.p, .slice AI' b.its.length cI', .slice AR' b.rus.length cR'] 25) = w3
  have hb23 : Below w2.heap.size w2 w3 := by rw [← hW3]; exact balloc (Below.refl _ _) _
  have HKG := Lib.hid (show Blk w3 w2.heap.size 25 #[.int .i64 b.p, .slice AI' b.its.length cI', .slice AR' b.rus.length cR'] by rw [← hW3]; exact Blk.new _ _ _)
  have HIt := Lib.hid (hit.itM.below hb23)
  have HRu := Lib.hid (hru.below hb23)
  have HB3 := Lib.hid (hb2.trans (hb23.mono hb2.size))
  have Hlo := Lib.hid hlo
  have HGi := Lib.hid (show ∀ g, (Value.slice AI' b.its.length cI').ownBlock = some g → g ≠ w2.heap.size from fun g hg e => by have := (hit.itM.2.1.lt g hg).2; omega)
  have HGw := Lib.hid (show W1.heap.size ≤ w2.heap.size from hb2.size)
  clear hW3 hit hru hlo hb23 hb2 cc
  generalize w2.heap.size = G at *
  have hxI : (x : Int) < (b.its.length : Int) := by omega
  have hyI : (y : Int) < (b.its.length : Int) := by omega
  have hx0 : (0 : Int) ≤ (x : Int) := by omega
  have hy0 : (0 : Int) ≤ (y : Int) := by omega
  go_loopw [7] (fun vi wx => ∃ (i : Nat) (ps : List (Value × Value)), i ≤ b.its.length ∧ vi = .int .i64 i ∧ Aside (ItM lo (.slice AI' b.its.length cI') wx ps (exK b.its ((x : Int), (y : Int)) i)) ∧ Aside (RusN (fun x => W1.heap.size < x ∧ x < lo) wx AR' b.rus) ∧ Aside (Blk wx G 25 #[.int .i64 b.p, .slice AI' b.its.length cI', .slice AR' b.rus.length cR']) ∧ Aside (Below W1.heap.size W1 wx) ∧ Aside (∀ k (hk : k < b.its.length), k < i → (x : Int) ∈ b.its[k].1 → y < k)) (fun vi _ => b.its.length - (intOf vi).toNat)
  case atStart => exact ⟨0, ps, Nat.zero_le _, rfl, by rw [exK_zero]; exact HIt.out, HRu.out, HKG.out, HB3.out, (fun k hk h => absurd h (Nat.not_lt_zero _))⟩
  case round =>
    clear HIt HRu HKG HB3
    obtain ⟨i, ps, hi, rfl, hit, hru, hbl, hbr, hok⟩ := hrel
    have HIt := Lib.hid hit.out
    have HRu := Lib.hid hru.out
    have HBl := Lib.hid hbl.out
    have HBr := Lib.hid hbr.out
    have HOk := Lib.hid hok.out
    obtain ⟨y0', y1', y2', _, _, _⟩ := blk3 hbl.out
    obtain ⟨s0, s1, _, _⟩ := blk2 (HKs.out.below HBr.out HKs.out.lt)
    obtain ⟨b0, b1, b2, _⟩ := blk3 (HK0.out.below HBr.out HK0.out.lt)
    have hGr : G < wr.heap.size := hbl.out.lt
    clear hit hru hbl hbr hok
    by_cases hlti : i < b.its.length
    · have hil : i < (exK b.its ((x : Int), (y : Int)) i).length := by rw [exK_length]; exact hlti
      have hgi : (exK b.its ((x : Int), (y : Int)) i)[i]'hil = b.its[i]'hlti := by rw [exK_get b.its _ i hlti, if_neg (Nat.lt_irrefl i)]
      obtain ⟨g, A1, c1, v2, rfl, hps, e0, fz, hlog, hg, hI⟩ := HIt.out.cell hil
      rw [hgi] at hps e0 hI
      have h40 := (H40.out _ (List.getElem_mem hlti)).1
      have hiI : (i : Int) < (b.its.length : Int) := by omega
      have hi0 : (0 : Int) ≤ (i : Int) := by omega
      have HI := Lib.hid hI
      have HFz := Lib.hid fz
      have HAsc := Lib.hid (HOrd.out i hlti).1
      have HPb := Lib.hid (HOrd.out i hlti).2
      have HSkip := Lib.hid (fun (hx : exM (b.its[i]'hlti).1 ((x : Int), (y : Int)) = (b.its[i]'hlti).1) => exK_skip b.its ((x : Int), (y : Int)) hlti hx)
      have HOkS := Lib.hid (show ((x : Int) ∈ (b.its[i]'hlti).1 → y < i) → ∀ k (hk : k < b.its.length), k < i + 1 → (x : Int) ∈ b.its[k].1 → y < k from fun h k hk hki hx => by
        by_cases e : k = i
        · subst e; exact h hx
        · exact HOk.out k hk (by omega) hx)
      have HSet := Lib.hid (exK_set b.its ((x : Int), (y : Int)) hlti)
      obtain ⟨np, hnp⟩ : ∃ np, np = (b.its[i]'hlti).1.length := ⟨_, rfl⟩
      rw [← hnp] at e0 h40
      have Hnp := Lib.hid hnp
      clear hI fz hps hnp
      by_cases hxy : x = y
      · have hd : ((x : Int) == (y : Int)) = true := by rw [hxy]; simp
        have HSk := Lib.hid (HSkip.out (exM_same HAsc.out (by rw [hxy])))
        have HOk2 := Lib.hid (HOkS.out fun h => by have := (HPb.out _ h).2; omega)
        go_wp2_with fail
        have hbi : Below wr.heap.size wr wr.drew := (Below.refl _ _).drew
        have Keep := Lib.hid (show wr.drew.cell? ⟨w.heap.size + 1, 0, none⟩ = some (.int .i64 (x : Int)) ∧ wr.drew.cell? ⟨w.heap.size + 1, 1, none⟩ = some (.int .i64 (y : Int)) from ⟨s0, s1⟩)
        have HIt2 := Lib.hid (HIt.out.below hbi)
        have HRu2 := Lib.hid (HRu.out.below hbi)
        have HBl2 := Lib.hid (HBl.out.below hbi hGr)
        have HBr2 := Lib.hid (HBr.out.trans (hbi.mono HBr.out.size))
        refine wp_region_E (S := fun W => W.cell? ⟨w.heap.size + 1, 0, none⟩ = some (.int .i64 (x : Int)) ∧ W.cell? ⟨w.heap.size + 1, 1, none⟩ = some (.int .i64 (y : Int))) (E := fun _ => false) (by kernel_rfl) ?_
        generalize wr.drew = wi0 at *
        have hS := Keep.out
        clear hbi
        refine anyE_tk 0 18 (oi := ?oi1) (v := ?v1) ?hi1 ?hd1 (by kernel_rfl) (by kernel_rfl) (by kernel_rfl) ?hQ1 ?hy1 hS ?rest1
        case hi1 => simp only [List.getElem?_toArray, List.getElem?_cons_zero, List.getElem?_cons_succ]; rfl
        case hd1 => rfl
        case hQ1 => exact fun _ _ _ h => h
        case hy1 => (refine Or.inl ⟨by rfl, ?_⟩; intro w hSw; (try dsimp only at hSw); go_simp; try with_reducible rfl)
        simp only [List.setIfInBounds_toArray, List.set_cons_zero, List.set_cons_succ]
        refine anyE_tk 1 19 (oi := ?oi2) (v := ?v2) ?hi2 ?hd2 (by kernel_rfl) (by kernel_rfl) (by kernel_rfl) ?hQ2 ?hy2 hS ?rest2
        case hi2 => simp only [List.getElem?_toArray, List.getElem?_cons_zero, List.getElem?_cons_succ]; rfl
        case hd2 => rfl
        case hQ2 => exact fun _ _ _ h => h
        case hy2 => (refine Or.inl ⟨by rfl, ?_⟩; intro w hSw; (try dsimp only at hSw); go_simp; try with_reducible rfl)
        simp only [List.setIfInBounds_toArray, List.set_cons_zero, List.set_cons_succ]
        refine anyE_tk 2 20 (oi := ?oi3) (v := ?v3) ?hi3 ?hd3 (by kernel_rfl) (by kernel_rfl) (by kernel_rfl) ?hQ3 ?hy3 hS ?rest3
        case hi3 => simp only [List.getElem?_toArray, List.getElem?_cons_zero, List.getElem?_cons_succ]; rfl
        case hd3 => rfl
        case hQ3 => exact fun _ _ _ h => h
        case hy3 => (refine Or.inl ⟨by rfl, ?_⟩; intro w hSw; (try dsimp only at hSw); go_simp; try with_reducible rfl)
        simp only [List.setIfInBounds_toArray, List.set_cons_zero, List.set_cons_succ]
        refine anyE_tk 3 21 (oi := ?oi4) (v := ?v4) ?hi4 ?hd4 (by kernel_rfl) (by kernel_rfl) (by kernel_rfl) ?hQ4 ?hy4 hS ?rest4
        case hi4 => simp only [List.getElem?_toArray, List.getElem?_cons_zero, List.getElem?_cons_succ]; rfl
        case hd4 => rfl
        case hQ4 => exact fun _ _ _ h => h
        case hy4 => (refine Or.inl ⟨by rfl, ?_⟩; intro w hSw; (try dsimp only at hSw); go_simp; try with_reducible rfl)
        simp only [List.setIfInBounds_toArray, List.set_cons_zero, List.set_cons_succ]
        refine anyE_tk 4 22 (oi := ?oi5) (v := ?v5) ?hi5 ?hd5 (by kernel_rfl) (by kernel_rfl) (by kernel_rfl) ?hQ5 ?hy5 hS ?rest5
        case hi5 => simp only [List.getElem?_toArray, List.getElem?_cons_zero, List.getElem?_cons_succ]; rfl
        case hd5 => rfl
        case hQ5 => exact fun _ _ _ h => h
        case hy5 => (refine Or.inl ⟨by rfl, ?_⟩; intro w hSw; (try dsimp only at hSw); go_simp; try with_reducible rfl)
        simp only [List.setIfInBounds_toArray, List.set_cons_zero, List.set_cons_succ]
        refine anyE_tk 5 23 (oi := ?oi6) (v := ?v6) ?hi6 ?hd6 (by kernel_rfl) (by kernel_rfl) (by kernel_rfl) ?hQ6 ?hy6 hS ?rest6
        case hi6 => simp only [List.getElem?_toArray, List.getElem?_cons_zero, List.getElem?_cons_succ]; rfl
        case hd6 => rfl
        case hQ6 => exact fun _ _ _ h => h
        case hy6 => (refine Or.inl ⟨by rfl, ?_⟩; intro w hSw; (try dsimp only at hSw); go_simp; try with_reducible rfl)
        simp only [List.setIfInBounds_toArray, List.set_cons_zero, List.set_cons_succ]
        refine anyE_tk 6 24 (oi := ?oi7) (v := undef) ?hi7 ?hd7 (by kernel_rfl) (by kernel_rfl) (by kernel_rfl) ?hQ7 ?hy7 hS ?rest7
        case hi7 => simp only [List.getElem?_toArray, List.getElem?_cons_zero, List.getElem?_cons_succ]; rfl
        case hd7 => rfl
        case hQ7 => exact fun _ _ _ h => h
        case hy7 => exact Or.inr ⟨by rfl, rfl⟩
        simp only [List.setIfInBounds_toArray, List.set_cons_zero, List.set_cons_succ]
        refine anyE_tk 7 25 (oi := ?oi8) (v := undef) ?hi8 ?hd8 (by kernel_rfl) (by kernel_rfl) (by kernel_rfl) ?hQ8 ?hy8 hS ?rest8
        case hi8 => simp only [List.getElem?_toArray, List.getElem?_cons_zero, List.getElem?_cons_succ]; rfl
        case hd8 => rfl
        case hQ8 => exact fun _ _ _ h => h
        case hy8 => exact Or.inr ⟨by rfl, rfl⟩
        simp only [List.setIfInBounds_toArray, List.set_cons_zero, List.set_cons_succ]
        refine anyE_tk 8 26 (oi := ?oi9) (v := undef) ?hi9 ?hd9 (by kernel_rfl) (by kernel_rfl) (by kernel_rfl) ?hQ9 ?hy9 hS ?rest9
        case hi9 => simp only [List.getElem?_toArray, List.getElem?_cons_zero, List.getElem?_cons_succ]; rfl
        case hd9 => rfl
        case hQ9 => exact fun _ _ _ h => h
        case hy9 => exact Or.inr ⟨by rfl, rfl⟩
        simp only [List.setIfInBounds_toArray, List.set_cons_zero, List.set_cons_succ]
        refine anyE_tk 9 27 (oi := ?oi10) (v := undef) ?hi10 ?hd10 (by kernel_rfl) (by kernel_rfl) (by kernel_rfl) ?hQ10 ?hy10 hS ?rest10
        case hi10 => simp only [List.getElem?_toArray, List.getElem?_cons_zero, List.getElem?_cons_succ]; rfl
        case hd10 => rfl
        case hQ10 => exact fun _ _ _ h => h
        case hy10 => exact Or.inr ⟨by rfl, rfl⟩
        simp only [List.setIfInBounds_toArray, List.set_cons_zero, List.set_cons_succ]
        refine anyE_tk 10 28 (oi := ?oi11) (v := undef) ?hi11 ?hd11 (by kernel_rfl) (by kernel_rfl) (by kernel_rfl) ?hQ11 ?hy11 hS ?rest11
        case hi11 => simp only [List.getElem?_toArray, List.getElem?_cons_zero, List.getElem?_cons_succ]; rfl
        case hd11 => rfl
        case hQ11 => exact fun _ _ _ h => h
        case hy11 => exact Or.inr ⟨by rfl, rfl⟩
        simp only [List.setIfInBounds_toArray, List.set_cons_zero, List.set_cons_succ]
        refine anyE_tk 11 29 (oi := ?oi12) (v := undef) ?hi12 ?hd12 (by kernel_rfl) (by kernel_rfl) (by kernel_rfl) ?hQ12 ?hy12 hS ?rest12
        case hi12 => simp only [List.getElem?_toArray, List.getElem?_cons_zero, List.getElem?_cons_succ]; rfl
        case hd12 => rfl
        case hQ12 => exact fun _ _ _ h => h
        case hy12 => exact Or.inr ⟨by rfl, rfl⟩
        simp only [List.setIfInBounds_toArray, List.set_cons_zero, List.set_cons_succ]
        refine anyE_tk 12 30 (oi := ?oi13) (v := undef) ?hi13 ?hd13 (by kernel_rfl) (by kernel_rfl) (by kernel_rfl) ?hQ13 ?hy13 hS ?rest13
        case hi13 => simp only [List.getElem?_toArray, List.getElem?_cons_zero, List.getElem?_cons_succ]; rfl
        case hd13 => rfl
        case hQ13 => exact fun _ _ _ h => h
        case hy13 => exact Or.inr ⟨by rfl, rfl⟩
        simp only [List.setIfInBounds_toArray, List.set_cons_zero, List.set_cons_succ]
        refine anyE_tk 13 31 (oi := ?oi14) (v := undef) ?hi14 ?hd14 (by kernel_rfl) (by kernel_rfl) (by kernel_rfl) ?hQ14 ?hy14 hS ?rest14
        case hi14 => simp only [List.getElem?_toArray, List.getElem?_cons_zero, List.getElem?_cons_succ]; rfl
        case hd14 => rfl
        case hQ14 => exact fun _ _ _ h => h
        case hy14 => exact Or.inr ⟨by rfl, rfl⟩
        simp only [List.setIfInBounds_toArray, List.set_cons_zero, List.set_cons_succ]
        refine anyE_tk 14 32 (oi := ?oi15) (v := undef) ?hi15 ?hd15 (by kernel_rfl) (by kernel_rfl) (by kernel_rfl) ?hQ15 ?hy15 hS ?rest15
        case hi15 => simp only [List.getElem?_toArray, List.getElem?_cons_zero, List.getElem?_cons_succ]; rfl
        case hd15 => rfl
        case hQ15 => exact fun _ _ _ h => h
        case hy15 => exact Or.inr ⟨by rfl, rfl⟩
        simp only [List.setIfInBounds_toArray, List.set_cons_zero, List.set_cons_succ]
        refine anyE_tk 15 33 (oi := ?oi16) (v := undef) ?hi16 ?hd16 (by kernel_rfl) (by kernel_rfl) (by kernel_rfl) ?hQ16 ?hy16 hS ?rest16
        case hi16 => simp only [List.getElem?_toArray, List.getElem?_cons_zero, List.getElem?_cons_succ]; rfl
        case hd16 => rfl
        case hQ16 => exact fun _ _ _ h => h
        case hy16 => exact Or.inr ⟨by rfl, rfl⟩
        simp only [List.setIfInBounds_toArray, List.set_cons_zero, List.set_cons_succ]
        refine anyE_tk 16 34 (oi := ?oi17) (v := ?v17) ?hi17 ?hd17 (by kernel_rfl) (by kernel_rfl) (by kernel_rfl) ?hQ17 ?hy17 hS ?rest17
        case hi17 => simp only [List.getElem?_toArray, List.getElem?_cons_zero, List.getElem?_cons_succ]; rfl
        case hd17 => rfl
        case hQ17 => exact fun _ _ _ h => h
        case hy17 => (refine Or.inl ⟨by rfl, ?_⟩; intro w hSw; (try dsimp only at hSw); go_simp; try with_reducible rfl)
        simp only [List.setIfInBounds_toArray, List.set_cons_zero, List.set_cons_succ]
        clear hS
        refine anyE_done (by kernel_rfl) ?_ _
        go_wp2_with fail
        go_roundw
        case rel => exact ⟨i + 1, ps, by omega, by go_num, by rw [← HSk.out]; exact HIt2.out, HRu2.out, HBl2.out, HBr2.out, HOk2.out⟩
        case measure => simp [intOf]; omega
      · have hd : ((x : Int) == (y : Int)) = false := by rw [beq_eq_false_iff_ne]; omega
        go_wp2_with fail
        have hbi : Below wr.heap.size wr wr.drew := (Below.refl _ _).drew
        have Keep := Lib.hid (show wr.drew.cell? ⟨w.heap.size + 1, 0, none⟩ = some (.int .i64 (x : Int)) ∧ wr.drew.cell? ⟨w.heap.size + 1, 1, none⟩ = some (.int .i64 (y : Int)) ∧ wr.drew.cell? ⟨G, 1, none⟩ = some (.slice (some ⟨g, 0, none⟩) b.its.length cI') ∧ wr.drew.cell? ⟨g, i * 2, none⟩ = some (.slice A1 np c1) from ⟨s0, s1, y1', e0⟩)
        have HIt2 := Lib.hid (HIt.out.below hbi)
        have HRu2 := Lib.hid (HRu.out.below hbi)
        have HBl2 := Lib.hid (HBl.out.below hbi hGr)
        have HBr2 := Lib.hid (HBr.out.trans (hbi.mono HBr.out.size))
        have HI2 := Lib.hid (HI.out.below hbi hbi.size)
        have HFz2 := Lib.hid (show wr.drew.frozen? ⟨g, i * 2, none⟩ = false from HFz.out)
        have hg2 : g < wr.drew.heap.size := Nat.lt_of_lt_of_le hg hbi.size
        have hG2 : G < wr.drew.heap.size := Nat.lt_of_lt_of_le hGr hbi.size
        have ch0 := Has_ref A1 c1 wr.drew.heap.size (b.its[i]'hlti).1 (x : Int) wr.drew HI2.out (by have := Hnp.out; omega)
        rw [← Hnp.out] at ch0
        refine wp_region_E (S := fun W => W.cell? ⟨w.heap.size + 1, 0, none⟩ = some (.int .i64 (x : Int)) ∧ W.cell? ⟨w.heap.size + 1, 1, none⟩ = some (.int .i64 (y : Int)) ∧ W.cell? ⟨G, 1, none⟩ = some (.slice (some ⟨g, 0, none⟩) b.its.length cI') ∧ W.cell? ⟨g, i * 2, none⟩ = some (.slice A1 np c1)) (E := fun _ => false) (by kernel_rfl) ?_
        generalize wr.drew = wi0 at *
        have hS := Keep.out
        clear hbi s0 s1 y0' y1' y2' b0 b1 b2 e0 hg hGr
        by_cases hxP : (x : Int) ∈ (b.its[i]'hlti).1
        · have hc : (b.its[i]'hlti).1.contains (x : Int) = true := List.contains_iff_mem.2 hxP
          rw [hc] at ch0
          have ch := Lib.hid ch0
          clear ch0
          refine anyE_tk 0 18 (oi := ?oi18) (v := ?v18) ?hi18 ?hd18 (by kernel_rfl) (by kernel_rfl) (by kernel_rfl) ?hQ18 ?hy18 hS ?rest18
          case hi18 => simp only [List.getElem?_toArray, List.getElem?_cons_zero, List.getElem?_cons_succ]; rfl
          case hd18 => rfl
          case hQ18 => exact fun _ _ _ h => h
          case hy18 => (refine Or.inl ⟨by rfl, ?_⟩; intro w hSw; (try dsimp only at hSw); go_simp; try with_reducible rfl)
          simp only [List.setIfInBounds_toArray, List.set_cons_zero, List.set_cons_succ]
          refine anyE_tk 1 19 (oi := ?oi19) (v := ?v19) ?hi19 ?hd19 (by kernel_rfl) (by kernel_rfl) (by kernel_rfl) ?hQ19 ?hy19 hS ?rest19
          case hi19 => simp only [List.getElem?_toArray, List.getElem?_cons_zero, List.getElem?_cons_succ]; rfl
          case hd19 => rfl
          case hQ19 => exact fun _ _ _ h => h
          case hy19 => (refine Or.inl ⟨by rfl, ?_⟩; intro w hSw; (try dsimp only at hSw); go_simp; try with_reducible rfl)
          simp only [List.setIfInBounds_toArray, List.set_cons_zero, List.set_cons_succ]
          refine anyE_tk 2 20 (oi := ?oi20) (v := ?v20) ?hi20 ?hd20 (by kernel_rfl) (by kernel_rfl) (by kernel_rfl) ?hQ20 ?hy20 hS ?rest20
          case hi20 => simp only [List.getElem?_toArray, List.getElem?_cons_zero, List.getElem?_cons_succ]; rfl
          case hd20 => rfl
          case hQ20 => exact fun _ _ _ h => h
          case hy20 => (refine Or.inl ⟨by rfl, ?_⟩; intro w hSw; (try dsimp only at hSw); go_simp; try with_reducible rfl)
          simp only [List.setIfInBounds_toArray, List.set_cons_zero, List.set_cons_succ]
          refine anyE_tk 3 21 (oi := ?oi21) (v := ?v21) ?hi21 ?hd21 (by kernel_rfl) (by kernel_rfl) (by kernel_rfl) ?hQ21 ?hy21 hS ?rest21
          case hi21 => simp only [List.getElem?_toArray, List.getElem?_cons_zero, List.getElem?_cons_succ]; rfl
          case hd21 => rfl
          case hQ21 => exact fun _ _ _ h => h
          case hy21 => (refine Or.inl ⟨by rfl, ?_⟩; intro w hSw; (try dsimp only at hSw); go_simp; try with_reducible rfl)
          simp only [List.setIfInBounds_toArray, List.set_cons_zero, List.set_cons_succ]
          refine anyE_tk 4 22 (oi := ?oi22) (v := ?v22) ?hi22 ?hd22 (by kernel_rfl) (by kernel_rfl) (by kernel_rfl) ?hQ22 ?hy22 hS ?rest22
          case hi22 => simp only [List.getElem?_toArray, List.getElem?_cons_zero, List.getElem?_cons_succ]; rfl
          case hd22 => rfl
          case hQ22 => exact fun _ _ _ h => h
          case hy22 => (refine Or.inl ⟨by rfl, ?_⟩; intro w hSw; (try dsimp only at hSw); go_simp; try with_reducible rfl)
          simp only [List.setIfInBounds_toArray, List.set_cons_zero, List.set_cons_succ]
          refine anyE_tk 5 23 (oi := ?oi23) (v := ?v23) ?hi23 ?hd23 (by kernel_rfl) (by kernel_rfl) (by kernel_rfl) ?hQ23 ?hy23 hS ?rest23
          case hi23 => simp only [List.getElem?_toArray, List.getElem?_cons_zero, List.getElem?_cons_succ]; rfl
          case hd23 => rfl
          case hQ23 => exact fun _ _ _ h => h
          case hy23 => (refine Or.inl ⟨by rfl, ?_⟩; intro w hSw; (try dsimp only at hSw); go_simp; try with_reducible rfl)
          simp only [List.setIfInBounds_toArray, List.set_cons_zero, List.set_cons_succ]
          refine anyE_tk 6 24 (oi := ?oi24) (v := ?v24) ?hi24 ?hd24 (by kernel_rfl) (by kernel_rfl) (by kernel_rfl) ?hQ24 ?hy24 hS ?rest24
          case hi24 => simp only [List.getElem?_toArray, List.getElem?_cons_zero, List.getElem?_cons_succ]; rfl
          case hd24 => rfl
          case hQ24 => exact fun _ _ _ h => h
          case hy24 => (refine Or.inl ⟨by rfl, ?_⟩; intro w hSw; (try dsimp only at hSw); go_simp; try with_reducible rfl)
          simp only [List.setIfInBounds_toArray, List.set_cons_zero, List.set_cons_succ]
          refine anyE_tk 7 25 (oi := ?oi25) (v := ?v25) ?hi25 ?hd25 (by kernel_rfl) (by kernel_rfl) (by kernel_rfl) ?hQ25 ?hy25 hS ?rest25
          case hi25 => simp only [List.getElem?_toArray, List.getElem?_cons_zero, List.getElem?_cons_succ]; rfl
          case hd25 => rfl
          case hQ25 => exact fun _ _ _ h => h
          case hy25 => (refine Or.inl ⟨by rfl, ?_⟩; intro w hSw; (try dsimp only at hSw); go_simp; try with_reducible rfl)
          simp only [List.setIfInBounds_toArray, List.set_cons_zero, List.set_cons_succ]
          refine anyE_tk 8 26 (oi := ?oi26) (v := ?v26) ?hi26 ?hd26 (by kernel_rfl) (by kernel_rfl) (by kernel_rfl) ?hQ26 ?hy26 hS ?rest26
          case hi26 => simp only [List.getElem?_toArray, List.getElem?_cons_zero, List.getElem?_cons_succ]; rfl
          case hd26 => rfl
          case hQ26 => exact fun _ _ _ h => h
          case hy26 => (refine Or.inl ⟨by rfl, ?_⟩; intro w hSw; (try dsimp only at hSw); go_simp; try with_reducible rfl)
          simp only [List.setIfInBounds_toArray, List.set_cons_zero, List.set_cons_succ]
          refine anyE_tk 9 27 (oi := ?oi27) (v := ?v27) ?hi27 ?hd27 (by kernel_rfl) (by kernel_rfl) (by kernel_rfl) ?hQ27 ?hy27 hS ?rest27
          case hi27 => simp only [List.getElem?_toArray, List.getElem?_cons_zero, List.getElem?_cons_succ]; rfl
          case hd27 => rfl
          case hQ27 => exact fun _ _ _ h => h
          case hy27 => (refine Or.inl ⟨by rfl, ?_⟩; intro w hSw; (try dsimp only at hSw); go_simp; try with_reducible rfl)
          simp only [List.setIfInBounds_toArray, List.set_cons_zero, List.set_cons_succ]
          refine anyE_tk 10 28 (oi := ?oi28) (v := ?v28) ?hi28 ?hd28 (by kernel_rfl) (by kernel_rfl) (by kernel_rfl) ?hQ28 ?hy28 hS ?rest28
          case hi28 => simp only [List.getElem?_toArray, List.getElem?_cons_zero, List.getElem?_cons_succ]; rfl
          case hd28 => rfl
          case hQ28 => exact fun _ _ _ h => h
          case hy28 => (refine Or.inl ⟨by rfl, ?_⟩; intro w hSw; (try dsimp only at hSw); go_simp; try with_reducible rfl)
          simp only [List.setIfInBounds_toArray, List.set_cons_zero, List.set_cons_succ]
          refine anyE_tk 11 29 (oi := ?oi29) (v := ?v29) ?hi29 ?hd29 (by kernel_rfl) (by kernel_rfl) (by kernel_rfl) ?hQ29 ?hy29 hS ?rest29
          case hi29 => simp only [List.getElem?_toArray, List.getElem?_cons_zero, List.getElem?_cons_succ]; rfl
          case hd29 => rfl
          case hQ29 => exact fun _ _ _ h => h
          case hy29 => (refine Or.inl ⟨by rfl, ?_⟩; intro w hSw; (try dsimp only at hSw); go_simp; try with_reducible rfl)
          simp only [List.setIfInBounds_toArray, List.set_cons_zero, List.set_cons_succ]
          refine anyE_tk 12 30 (oi := ?oi30) (v := ?v30) ?hi30 ?hd30 (by kernel_rfl) (by kernel_rfl) (by kernel_rfl) ?hQ30 ?hy30 hS ?rest30
          case hi30 => simp only [List.getElem?_toArray, List.getElem?_cons_zero, List.getElem?_cons_succ]; rfl
          case hd30 => rfl
          case hQ30 => exact fun _ _ _ h => h
          case hy30 => (refine Or.inl ⟨by rfl, ?_⟩; intro w hSw; (try dsimp only at hSw); go_simp; try with_reducible rfl)
          simp only [List.setIfInBounds_toArray, List.set_cons_zero, List.set_cons_succ]
          refine anyE_tk 13 31 (oi := ?oi31) (v := ?v31) ?hi31 ?hd31 (by kernel_rfl) (by kernel_rfl) (by kernel_rfl) ?hQ31 ?hy31 hS ?rest31
          case hi31 => simp only [List.getElem?_toArray, List.getElem?_cons_zero, List.getElem?_cons_succ]; rfl
          case hd31 => rfl
          case hQ31 => exact fun _ _ _ h => h
          case hy31 => (refine Or.inl ⟨by rfl, ?_⟩; intro w hSw; (try dsimp only at hSw); go_simp; try with_reducible rfl)
          simp only [List.setIfInBounds_toArray, List.set_cons_zero, List.set_cons_succ]
          clear hS
          refine anyE_one (i := 14) (o := ?oi32) (by kernel_rfl) ?hi32 (fun K hK => ?step32)
          case hi32 => simp only [List.getElem?_toArray, List.getElem?_cons_zero, List.getElem?_cons_succ]; rfl
          go_simp
          refine ch.out.mono ?_
          rintro e w7 ⟨rfl, hw7⟩
          subst w7
          go_wp2_with fail
          refine hK.out _ _ (fun _ => Keep.out) ?_
          clear hK K
          try simp only [Act.put, List.setIfInBounds_toArray, List.set_cons_zero, List.set_cons_succ]
          refine anyE_tk 15 33 (oi := ?oi33) (v := ?v33) ?hi33 ?hd33 (by kernel_rfl) (by kernel_rfl) (by kernel_rfl) ?hQ33 ?hy33 Keep.out ?rest33
          case hi33 => simp only [List.getElem?_toArray, List.getElem?_cons_zero, List.getElem?_cons_succ]; rfl
          case hd33 => rfl
          case hQ33 => exact fun _ _ _ h => h
          case hy33 => (refine Or.inl ⟨by rfl, ?_⟩; intro w hSw; (try dsimp only at hSw); go_simp; try with_reducible rfl)
          simp only [List.setIfInBounds_toArray, List.set_cons_zero, List.set_cons_succ]
          refine anyE_tk 16 34 (oi := ?oi34) (v := ?v34) ?hi34 ?hd34 (by kernel_rfl) (by kernel_rfl) (by kernel_rfl) ?hQ34 ?hy34 Keep.out ?rest34
          case hi34 => simp only [List.getElem?_toArray, List.getElem?_cons_zero, List.getElem?_cons_succ]; rfl
          case hd34 => rfl
          case hQ34 => exact fun _ _ _ h => h
          case hy34 => (refine Or.inl ⟨by rfl, ?_⟩; intro w hSw; (try dsimp only at hSw); go_simp; try with_reducible rfl)
          simp only [List.setIfInBounds_toArray, List.set_cons_zero, List.set_cons_succ]
          refine anyE_done (by kernel_rfl) ?_ _
          obtain ⟨s0, s1, _, _⟩ := Keep.out
          obtain ⟨y0', y1', y2', _, _, _⟩ := blk3 HBl2.out
          obtain ⟨b0, b1, b2, _⟩ := blk3 (HK0.out.below HBr2.out HK0.out.lt)
          by_cases hyi : y < i
          · have HOk2 := Lib.hid (HOkS.out fun _ => hyi)
            have hyiI : (y : Int) < (i : Int) := by omega
            go_wp2_with fail
            have hb1' : Below wi0.heap.size wi0 wi0.drew := (Below.refl _ _).drew
            have KeepB := Lib.hid (show ∀ W, Below wi0.drew.heap.size wi0.drew W → W.cell? ⟨G, 1, none⟩ = some (.slice (some ⟨g, 0, none⟩) b.its.length cI') ∧ W.cell? ⟨g, i * 2, none⟩ = some (.slice A1 np c1) ∧ W.cell? ⟨w.heap.size, 1, none⟩ = some (.slice AI b.its.length cI) from fun W hW => by
              have hbb := hb1'.trans (hW.mono hb1'.size)
              have hw0 : w.heap.size < wi0.heap.size := Nat.lt_of_lt_of_le (by have := HS0.out; omega) HBr2.out.size
              exact ⟨(hbb.cell (p := ⟨G, 1, none⟩) hG2).trans y1', (hbb.cell (p := ⟨g, i * 2, none⟩) hg2).trans Keep.out.2.2.2, (hbb.cell (p := ⟨w.heap.size, 1, none⟩) hw0).trans b1⟩)
            have hint : intL (natL (b.its[i]'hlti).1) = (b.its[i]'hlti).1 := int_nat fun z hz => (HPb.out z hz).1
            have hPn : ∀ z ∈ (b.its[i]'hlti).1, 0 ≤ z ∧ z < ((b.its.length : Nat) : Int) := fun z hz => by
              have := HPb.out z hz
              exact ⟨this.1, by omega⟩
            have cm0 := marks_ref A1 c1 wi0.drew.heap.size (natL (b.its[i]'hlti).1) b.its.length wi0.drew (Nat.le_refl _) (by rw [hint]; exact HI2.out.below hb1' hb1'.size) (by rw [natL_length, ← Hnp.out]; omega) (natL_lt hPn) (by omega)
            rw [natL_length, ← Hnp.out] at cm0
            have cm := Lib.hid cm0
            have HPn := Lib.hid hPn
            have Hb1 := Lib.hid hb1'
            have hwM : wi0.heap.size ≤ wi0.drew.heap.size := hb1'.size
            refine wp_region_E (S := fun W => W.cell? ⟨G, 1, none⟩ = some (.slice (some ⟨g, 0, none⟩) b.its.length cI') ∧ W.cell? ⟨g, i * 2, none⟩ = some (.slice A1 np c1) ∧ W.cell? ⟨w.heap.size, 1, none⟩ = some (.slice AI b.its.length cI)) (E := fun _ => false) (by kernel_rfl) ?_
            have HBi := Lib.hid (Below.refl wi0.drew.heap.size wi0.drew)
            have KeepS0 := Lib.hid Keep.out
            clear cm0 hint hPn hb1' Keep s0 s1 y0' y1' y2' b0 b1 b2
            generalize wi0.drew = wi1 at *
            have hS := KeepB.out _ HBi.out
            refine anyE_tk 0 40 (oi := ?oi35) (v := ?v35) ?hi35 ?hd35 (by kernel_rfl) (by kernel_rfl) (by kernel_rfl) ?hQ35 ?hy35 hS ?rest35
            case hi35 => simp only [List.getElem?_toArray, List.getElem?_cons_zero, List.getElem?_cons_succ]; rfl
            case hd35 => rfl
            case hQ35 => exact fun _ _ _ h => h
            case hy35 => (refine Or.inl ⟨by rfl, ?_⟩; intro w hSw; (try dsimp only at hSw); go_simp; try with_reducible rfl)
            simp only [List.setIfInBounds_toArray, List.set_cons_zero, List.set_cons_succ]
            refine anyE_tk 1 41 (oi := ?oi36) (v := ?v36) ?hi36 ?hd36 (by kernel_rfl) (by kernel_rfl) (by kernel_rfl) ?hQ36 ?hy36 hS ?rest36
            case hi36 => simp only [List.getElem?_toArray, List.getElem?_cons_zero, List.getElem?_cons_succ]; rfl
            case hd36 => rfl
            case hQ36 => exact fun _ _ _ h => h
            case hy36 => (refine Or.inl ⟨by rfl, ?_⟩; intro w hSw; (try dsimp only at hSw); go_simp; try with_reducible rfl)
            simp only [List.setIfInBounds_toArray, List.set_cons_zero, List.set_cons_succ]
            refine anyE_tk 2 42 (oi := ?oi37) (v := ?v37) ?hi37 ?hd37 (by kernel_rfl) (by kernel_rfl) (by kernel_rfl) ?hQ37 ?hy37 hS ?rest37
            case hi37 => simp only [List.getElem?_toArray, List.getElem?_cons_zero, List.getElem?_cons_succ]; rfl
            case hd37 => rfl
            case hQ37 => exact fun _ _ _ h => h
            case hy37 => (refine Or.inl ⟨by rfl, ?_⟩; intro w hSw; (try dsimp only at hSw); go_simp; try with_reducible rfl)
            simp only [List.setIfInBounds_toArray, List.set_cons_zero, List.set_cons_succ]
            refine anyE_tk 3 43 (oi := ?oi38) (v := ?v38) ?hi38 ?hd38 (by kernel_rfl) (by kernel_rfl) (by kernel_rfl) ?hQ38 ?hy38 hS ?rest38
            case hi38 => simp only [List.getElem?_toArray, List.getElem?_cons_zero, List.getElem?_cons_succ]; rfl
            case hd38 => rfl
            case hQ38 => exact fun _ _ _ h => h
            case hy38 => (refine Or.inl ⟨by rfl, ?_⟩; intro w hSw; (try dsimp only at hSw); go_simp; try with_reducible rfl)
            simp only [List.setIfInBounds_toArray, List.set_cons_zero, List.set_cons_succ]
            refine anyE_tk 4 44 (oi := ?oi39) (v := ?v39) ?hi39 ?hd39 (by kernel_rfl) (by kernel_rfl) (by kernel_rfl) ?hQ39 ?hy39 hS ?rest39
            case hi39 => simp only [List.getElem?_toArray, List.getElem?_cons_zero, List.getElem?_cons_succ]; rfl
            case hd39 => rfl
            case hQ39 => exact fun _ _ _ h => h
            case hy39 => (refine Or.inl ⟨by rfl, ?_⟩; intro w hSw; (try dsimp only at hSw); go_simp; try with_reducible rfl)
            simp only [List.setIfInBounds_toArray, List.set_cons_zero, List.set_cons_succ]
            refine anyE_tk 5 45 (oi := ?oi40) (v := ?v40) ?hi40 ?hd40 (by kernel_rfl) (by kernel_rfl) (by kernel_rfl) ?hQ40 ?hy40 hS ?rest40
            case hi40 => simp only [List.getElem?_toArray, List.getElem?_cons_zero, List.getElem?_cons_succ]; rfl
            case hd40 => rfl
            case hQ40 => exact fun _ _ _ h => h
            case hy40 => (refine Or.inl ⟨by rfl, ?_⟩; intro w hSw; (try dsimp only at hSw); go_simp; try with_reducible rfl)
            simp only [List.setIfInBounds_toArray, List.set_cons_zero, List.set_cons_succ]
            refine anyE_tk 6 46 (oi := ?oi41) (v := ?v41) ?hi41 ?hd41 (by kernel_rfl) (by kernel_rfl) (by kernel_rfl) ?hQ41 ?hy41 hS ?rest41
            case hi41 => simp only [List.getElem?_toArray, List.getElem?_cons_zero, List.getElem?_cons_succ]; rfl
            case hd41 => rfl
            case hQ41 => exact fun _ _ _ h => h
            case hy41 => (refine Or.inl ⟨by rfl, ?_⟩; intro w hSw; (try dsimp only at hSw); go_simp; try with_reducible rfl)
            simp only [List.setIfInBounds_toArray, List.set_cons_zero, List.set_cons_succ]
            refine anyE_tk 7 47 (oi := ?oi42) (v := ?v42) ?hi42 ?hd42 (by kernel_rfl) (by kernel_rfl) (by kernel_rfl) ?hQ42 ?hy42 hS ?rest42
            case hi42 => simp only [List.getElem?_toArray, List.getElem?_cons_zero, List.getElem?_cons_succ]; rfl
            case hd42 => rfl
            case hQ42 => exact fun _ _ _ h => h
            case hy42 => (refine Or.inl ⟨by rfl, ?_⟩; intro w hSw; (try dsimp only at hSw); go_simp; try with_reducible rfl)
            simp only [List.setIfInBounds_toArray, List.set_cons_zero, List.set_cons_succ]
            refine anyE_tk 8 48 (oi := ?oi43) (v := ?v43) ?hi43 ?hd43 (by kernel_rfl) (by kernel_rfl) (by kernel_rfl) ?hQ43 ?hy43 hS ?rest43
            case hi43 => simp only [List.getElem?_toArray, List.getElem?_cons_zero, List.getElem?_cons_succ]; rfl
            case hd43 => rfl
            case hQ43 => exact fun _ _ _ h => h
            case hy43 => (refine Or.inl ⟨by rfl, ?_⟩; intro w hSw; (try dsimp only at hSw); go_simp; try with_reducible rfl)
            simp only [List.setIfInBounds_toArray, List.set_cons_zero, List.set_cons_succ]
            clear hS
            refine anyE_one (i := 9) (o := ?oi44) (by kernel_rfl) ?hi44 (fun K hK => ?step44)
            case hi44 => simp only [List.getElem?_toArray, List.getElem?_cons_zero, List.getElem?_cons_succ]; rfl
            go_simp
            refine cm.out.mono ?_
            rintro e w7 ⟨rfl, hbb, hb7⟩
            have HBB := Lib.hid hbb
            have HB7 := Lib.hid hb7
            clear hbb hb7
            go_wp2_with fail
            refine hK.out _ _ (fun _ => KeepB.out _ HB7.out) ?_
            clear hK K
            try simp only [Act.put, List.setIfInBounds_toArray, List.set_cons_zero, List.set_cons_succ]
            refine anyE_one (i := 10) (o := ?oi45) (by kernel_rfl) ?hi45 (fun K hK => ?step45)
            case hi45 => simp only [List.getElem?_toArray, List.getElem?_cons_zero, List.getElem?_cons_succ]; rfl
            go_simp
            go_wp2_with fail
            refine hK.out _ _ (fun _ => KeepB.out _ HB7.out) ?_
            clear hK K
            try simp only [Act.put, List.setIfInBounds_toArray, List.set_cons_zero, List.set_cons_succ]
            refine anyE_done (by kernel_rfl) ?_ _
            have HB7b := Lib.hid (Hb1.out.trans (HB7.out.mono Hb1.out.size))
            obtain ⟨cs, hcs, hcn, hcb⟩ := HBB.out
            have HCs := Lib.hid hcs
            have HCb := Lib.hid hcb
            generalize hMM : wi1.heap.size = M at *
            have HM := Lib.hid (show wi0.heap.size ≤ M from hwM)
            have Hb7 := Lib.hid (show Below wi0.heap.size wi0 w7.drew from HB7b.out.drew)
            have HC2 := Lib.hid (show Blk w7.drew M 4 cs from HCs.out)
            obtain ⟨k0, k1, _, _⟩ := blk2 (HKs.out.below (HBr2.out.trans (Hb7.out.mono HBr2.out.size)) HKs.out.lt)
            clear HBB HCs hcs hcb HB7 HBi cm hwM
            go_wp2_with fail
            refine wp_region_E (S := fun W => W.cell? ⟨w.heap.size + 1, 0, none⟩ = some (.int .i64 (x : Int)) ∧ W.cell? ⟨w.heap.size + 1, 1, none⟩ = some (.int .i64 (y : Int))) (E := fun _ => false) (by kernel_rfl) ?_
            generalize w7.drew = wi2 at *
            have hMl := HC2.out.lt
            have HBA := Lib.hid (below_put' Hb7.out HM.out x (.bool false))
            have HBD := Lib.hid (below_put' HBA.out HM.out y (.bool true))
            have HCA := Lib.hid (HC2.out.put x (.bool false))
            have HCD := Lib.hid (HCA.out.put y (.bool true))
            have q1 : wi2.cell? ⟨M, x, none⟩ = some (.bool ((mk (natL (b.its[i]'hlti).1)).testBit x)) := by rw [HC2.out.cell]; exact HCb.out x hx
            have q2 : wi2.frozen? ⟨M, x, none⟩ = false := HC2.out.frozen x
            have q3 : (wi2.setCell ⟨M, x, none⟩ (.bool false)).cell? ⟨M, y, none⟩ = some (.bool ((mk (natL (b.its[i]'hlti).1)).testBit y)) := by
              rw [HCA.out.cell, Array.getElem?_setIfInBounds_ne hxy]; exact HCb.out y hy
            have q4 : (wi2.setCell ⟨M, x, none⟩ (.bool false)).frozen? ⟨M, y, none⟩ = false := HCA.out.frozen y
            have Keep := Lib.hid (And.intro k0 k1)
            have Keep1 := Lib.hid (show (wi2.setCell ⟨M, x, none⟩ (.bool false)).cell? ⟨w.heap.size + 1, 0, none⟩ = some (.int .i64 (x : Int)) ∧ (wi2.setCell ⟨M, x, none⟩ (.bool false)).cell? ⟨w.heap.size + 1, 1, none⟩ = some (.int .i64 (y : Int)) from by
              obtain ⟨k0, k1, _, _⟩ := blk2 (HKs.out.below (HBr2.out.trans (HBA.out.mono HBr2.out.size)) HKs.out.lt)
              exact ⟨k0, k1⟩)
            have Keep2 := Lib.hid (show ((wi2.setCell ⟨M, x, none⟩ (.bool false)).setCell ⟨M, y, none⟩ (.bool true)).cell? ⟨w.heap.size + 1, 0, none⟩ = some (.int .i64 (x : Int)) ∧ ((wi2.setCell ⟨M, x, none⟩ (.bool false)).setCell ⟨M, y, none⟩ (.bool true)).cell? ⟨w.heap.size + 1, 1, none⟩ = some (.int .i64 (y : Int)) from by
              obtain ⟨k0, k1, _, _⟩ := blk2 (HKs.out.below (HBr2.out.trans (HBD.out.mono HBr2.out.size)) HKs.out.lt)
              exact ⟨k0, k1⟩)
            have hS := Keep.out
            clear k0 k1
            refine anyE_tk 0 50 (oi := ?oi46) (v := ?v46) ?hi46 ?hd46 (by kernel_rfl) (by kernel_rfl) (by kernel_rfl) ?hQ46 ?hy46 hS ?rest46
            case hi46 => simp only [List.getElem?_toArray, List.getElem?_cons_zero, List.getElem?_cons_succ]; rfl
            case hd46 => rfl
            case hQ46 => exact fun _ _ _ h => h
            case hy46 => (refine Or.inl ⟨by rfl, ?_⟩; intro w hSw; (try dsimp only at hSw); go_simp; try with_reducible rfl)
            simp only [List.setIfInBounds_toArray, List.set_cons_zero, List.set_cons_succ]
            refine anyE_tk 1 51 (oi := ?oi47) (v := ?v47) ?hi47 ?hd47 (by kernel_rfl) (by kernel_rfl) (by kernel_rfl) ?hQ47 ?hy47 hS ?rest47
            case hi47 => simp only [List.getElem?_toArray, List.getElem?_cons_zero, List.getElem?_cons_succ]; rfl
            case hd47 => rfl
            case hQ47 => exact fun _ _ _ h => h
            case hy47 => (refine Or.inl ⟨by rfl, ?_⟩; intro w hSw; (try dsimp only at hSw); go_simp; try with_reducible rfl)
            simp only [List.setIfInBounds_toArray, List.set_cons_zero, List.set_cons_succ]
            refine anyE_tk 2 52 (oi := ?oi48) (v := ?v48) ?hi48 ?hd48 (by kernel_rfl) (by kernel_rfl) (by kernel_rfl) ?hQ48 ?hy48 hS ?rest48
            case hi48 => simp only [List.getElem?_toArray, List.getElem?_cons_zero, List.getElem?_cons_succ]; rfl
            case hd48 => rfl
            case hQ48 => exact fun _ _ _ h => h
            case hy48 => (refine Or.inl ⟨by rfl, ?_⟩; intro w hSw; (try dsimp only at hSw); go_simp; try with_reducible rfl)
            simp only [List.setIfInBounds_toArray, List.set_cons_zero, List.set_cons_succ]
            refine anyE_tk 3 53 (oi := ?oi49) (v := ?v49) ?hi49 ?hd49 (by kernel_rfl) (by kernel_rfl) (by kernel_rfl) ?hQ49 ?hy49 hS ?rest49
            case hi49 => simp only [List.getElem?_toArray, List.getElem?_cons_zero, List.getElem?_cons_succ]; rfl
            case hd49 => rfl
            case hQ49 => exact fun _ _ _ h => h
            case hy49 => (refine Or.inl ⟨by rfl, ?_⟩; intro w hSw; (try dsimp only at hSw); go_simp; try with_reducible rfl)
            simp only [List.setIfInBounds_toArray, List.set_cons_zero, List.set_cons_succ]
            refine anyE_tk 4 54 (oi := ?oi50) (v := ?v50) ?hi50 ?hd50 (by kernel_rfl) (by kernel_rfl) (by kernel_rfl) ?hQ50 ?hy50 hS ?rest50
            case hi50 => simp only [List.getElem?_toArray, List.getElem?_cons_zero, List.getElem?_cons_succ]; rfl
            case hd50 => rfl
            case hQ50 => exact fun _ _ _ h => h
            case hy50 => (refine Or.inl ⟨by rfl, ?_⟩; intro w hSw; (try dsimp only at hSw); go_simp; try with_reducible rfl)
            simp only [List.setIfInBounds_toArray, List.set_cons_zero, List.set_cons_succ]
            refine anyE_tk 5 55 (oi := ?oi51) (v := ?v51) ?hi51 ?hd51 (by kernel_rfl) (by kernel_rfl) (by kernel_rfl) ?hQ51 ?hy51 hS ?rest51
            case hi51 => simp only [List.getElem?_toArray, List.getElem?_cons_zero, List.getElem?_cons_succ]; rfl
            case hd51 => rfl
            case hQ51 => exact fun _ _ _ h => h
            case hy51 => (refine Or.inl ⟨by rfl, ?_⟩; intro w hSw; (try dsimp only at hSw); go_simp; try with_reducible rfl)
            simp only [List.setIfInBounds_toArray, List.set_cons_zero, List.set_cons_succ]
            clear hS
            refine anyE_one (i := 6) (o := ?oi52) (by kernel_rfl) ?hi52 (fun K hK => ?step52)
            case hi52 => simp only [List.getElem?_toArray, List.getElem?_cons_zero, List.getElem?_cons_succ]; rfl
            go_simp
            go_wp2_with fail
            refine hK.out _ _ (fun _ => Keep.out) ?_
            clear hK K
            try simp only [Act.put, List.setIfInBounds_toArray, List.set_cons_zero, List.set_cons_succ]
            refine anyE_one (i := 7) (o := ?oi53) (by kernel_rfl) ?hi53 (fun K hK => ?step53)
            case hi53 => simp only [List.getElem?_toArray, List.getElem?_cons_zero, List.getElem?_cons_succ]; rfl
            go_simp
            go_wp2_with fail
            refine hK.out _ _ (fun _ => Keep1.out) ?_
            clear hK K
            try simp only [Act.put, List.setIfInBounds_toArray, List.set_cons_zero, List.set_cons_succ]
            refine anyE_one (i := 8) (o := ?oi54) (by kernel_rfl) ?hi54 (fun K hK => ?step54)
            case hi54 => simp only [List.getElem?_toArray, List.getElem?_cons_zero, List.getElem?_cons_succ]; rfl
            go_simp
            go_wp2_with fail
            refine hK.out _ _ (fun _ => Keep1.out) ?_
            clear hK K
            try simp only [Act.put, List.setIfInBounds_toArray, List.set_cons_zero, List.set_cons_succ]
            refine anyE_one (i := 9) (o := ?oi55) (by kernel_rfl) ?hi55 (fun K hK => ?step55)
            case hi55 => simp only [List.getElem?_toArray, List.getElem?_cons_zero, List.getElem?_cons_succ]; rfl
            go_simp
            go_wp2_with fail
            refine hK.out _ _ (fun _ => Keep2.out) ?_
            clear hK K
            try simp only [Act.put, List.setIfInBounds_toArray, List.set_cons_zero, List.set_cons_succ]
            refine anyE_done (by kernel_rfl) ?_ _
            have hQn : ∀ z ∈ exM (b.its[i]'hlti).1 ((x : Int), (y : Int)), 0 ≤ z ∧ z < ((b.its.length : Nat) : Int) := fun z hz => by
              rcases (mem_exM (s := ((x : Int), (y : Int))) hxP).1 hz with ⟨h1, _⟩ | h1
              · exact HPn.out z h1
              · rw [h1]; exact ⟨hy0, hyI⟩
            have hBR : BR M b.its.length (mk (natL (exM (b.its[i]'hlti).1 ((x : Int), (y : Int))))) ((wi2.setCell ⟨M, x, none⟩ (.bool false)).setCell ⟨M, y, none⟩ (.bool true)) := ⟨HCD.out.lt, fun d hd => by
              rw [HCD.out.cell, marks_bit (n := 0) HAsc.out (fun z hz => (HPb.out z hz).1) hxP hxy]
              by_cases e1 : d = y
              · subst e1
                rw [if_pos rfl]
                simp only [Array.getElem?_setIfInBounds_self, Array.size_setIfInBounds]
                rw [if_pos (by omega)]
              · rw [if_neg e1, Array.getElem?_setIfInBounds_ne (fun e => e1 e.symm)]
                by_cases e2 : d = x
                · subst e2
                  rw [if_pos rfl]
                  simp only [Array.getElem?_setIfInBounds_self]
                  rw [if_pos (by omega)]
                · rw [if_neg e2, Array.getElem?_setIfInBounds_ne (fun e => e2 e.symm)]
                  exact HCb.out d hd⟩
            clear q1 q2 q3 q4
            have hpl := places_marks (exM_asc HAsc.out (s := ((x : Int), (y : Int)))) (show b.its.length ≤ 60 by omega) hQn
            generalize hWD : (wi2.setCell ⟨M, x, none⟩ (.bool false)).setCell ⟨M, y, none⟩ (.bool true) = wd at *
            go_wp2_with fail
            have hbd : Below wd.heap.size wd wd.drew := (Below.refl _ _).drew
            have cp0 := places_ref M b.its.length (mk (natL (exM (b.its[i]'hlti).1 ((x : Int), (y : Int))))) b.its.length wd.drew (hBR.below hbd hBR.1) (by omega) (mk_lt (natL_lt hQn))
            have hnv : natV (bl (mk (natL (exM (b.its[i]'hlti).1 ((x : Int), (y : Int)))))) = (exM (b.its[i]'hlti).1 ((x : Int), (y : Int))).map (Value.int .i64) := by
              conv => rhs; rw [← hpl]
              simp [natV, intL]
            have hbll : (bl (mk (natL (exM (b.its[i]'hlti).1 ((x : Int), (y : Int)))))).length = (exM (b.its[i]'hlti).1 ((x : Int), (y : Int))).length := by
              conv => rhs; rw [← hpl]
              simp [intL]
            rw [hnv, hbll] at cp0
            have cp := Lib.hid cp0
            have HBE := Lib.hid (HBD.out.trans (hbd.mono HBD.out.size))
            clear cp0 hnv hbll hpl hBR hQn hWD hbd Keep Keep1 Keep2 HCA HCD HBA HBD HC2 HCb
            refine wp_region_E (S := fun W => W.cell? ⟨G, 1, none⟩ = some (.slice (some ⟨g, 0, none⟩) b.its.length cI')) (E := fun _ => false) (by kernel_rfl) ?_
            have KeepG := Lib.hid (show ∀ W, Below wd.drew.heap.size wd.drew W → W.cell? ⟨g, i * 2, none⟩ = some (.slice A1 np c1) ∧ W.frozen? ⟨g, i * 2, none⟩ = false ∧ g < W.heap.size from fun W hW => by
              have hbb := HBE.out.trans (hW.mono HBE.out.size)
              exact ⟨(hbb.cell (p := ⟨g, i * 2, none⟩) hg2).trans KeepS0.out.2.2.2, (World.frozen?_of_block (hbb.block g hg2)).trans (HFz2.out), Nat.lt_of_lt_of_le hg2 hbb.size⟩)
            have KeepB := Lib.hid (show ∀ W, Below wd.drew.heap.size wd.drew W → W.cell? ⟨G, 1, none⟩ = some (.slice (some ⟨g, 0, none⟩) b.its.length cI') from fun W hW => ((HBE.out.trans (hW.mono HBE.out.size)).cell (p := ⟨G, 1, none⟩) hG2).trans KeepS0.out.2.2.1)
            have hgG : g ≠ G := HGi.out g rfl
            have KeepS := Lib.hid (show ∀ W, Below wd.drew.heap.size wd.drew W → ∀ u, (W.setCell ⟨g, i * 2, none⟩ u).cell? ⟨G, 1, none⟩ = some (.slice (some ⟨g, 0, none⟩) b.its.length cI') from fun W hW u => by
              have h9 := HBE.out.trans (hW.mono HBE.out.size)
              exact (((Only.refl g W).put (i * 2) u).cell (p := ⟨G, 1, none⟩) (Nat.lt_of_lt_of_le hG2 h9.size) (fun e => hgG e.symm)).trans (KeepB.out W hW))
            have HBi := Lib.hid (Below.refl wd.drew.heap.size wd.drew)
            generalize wd.drew = wi3 at *
            have hS := KeepB.out _ HBi.out
            refine anyE_tk 0 58 (oi := ?oi56) (v := ?v56) ?hi56 ?hd56 (by kernel_rfl) (by kernel_rfl) (by kernel_rfl) ?hQ56 ?hy56 hS ?rest56
            case hi56 => simp only [List.getElem?_toArray, List.getElem?_cons_zero, List.getElem?_cons_succ]; rfl
            case hd56 => rfl
            case hQ56 => exact fun _ _ _ h => h
            case hy56 => (refine Or.inl ⟨by rfl, ?_⟩; intro w hSw; (try dsimp only at hSw); go_simp; try with_reducible rfl)
            simp only [List.setIfInBounds_toArray, List.set_cons_zero, List.set_cons_succ]
            refine anyE_tk 1 59 (oi := ?oi57) (v := ?v57) ?hi57 ?hd57 (by kernel_rfl) (by kernel_rfl) (by kernel_rfl) ?hQ57 ?hy57 hS ?rest57
            case hi57 => simp only [List.getElem?_toArray, List.getElem?_cons_zero, List.getElem?_cons_succ]; rfl
            case hd57 => rfl
            case hQ57 => exact fun _ _ _ h => h
            case hy57 => (refine Or.inl ⟨by rfl, ?_⟩; intro w hSw; (try dsimp only at hSw); go_simp; try with_reducible rfl)
            simp only [List.setIfInBounds_toArray, List.set_cons_zero, List.set_cons_succ]
            refine anyE_tk 2 60 (oi := ?oi58) (v := ?v58) ?hi58 ?hd58 (by kernel_rfl) (by kernel_rfl) (by kernel_rfl) ?hQ58 ?hy58 hS ?rest58
            case hi58 => simp only [List.getElem?_toArray, List.getElem?_cons_zero, List.getElem?_cons_succ]; rfl
            case hd58 => rfl
            case hQ58 => exact fun _ _ _ h => h
            case hy58 => (refine Or.inl ⟨by rfl, ?_⟩; intro w hSw; (try dsimp only at hSw); go_simp; try with_reducible rfl)
            simp only [List.setIfInBounds_toArray, List.set_cons_zero, List.set_cons_succ]
            refine anyE_tk 3 61 (oi := ?oi59) (v := ?v59) ?hi59 ?hd59 (by kernel_rfl) (by kernel_rfl) (by kernel_rfl) ?hQ59 ?hy59 hS ?rest59
            case hi59 => simp only [List.getElem?_toArray, List.getElem?_cons_zero, List.getElem?_cons_succ]; rfl
            case hd59 => rfl
            case hQ59 => exact fun _ _ _ h => h
            case hy59 => (refine Or.inl ⟨by rfl, ?_⟩; intro w hSw; (try dsimp only at hSw); go_simp; try with_reducible rfl)
            simp only [List.setIfInBounds_toArray, List.set_cons_zero, List.set_cons_succ]
            clear hS
            refine anyE_one (i := 4) (o := ?oi60) (by kernel_rfl) ?hi60 (fun K hK => ?step60)
            case hi60 => simp only [List.getElem?_toArray, List.getElem?_cons_zero, List.getElem?_cons_succ]; rfl
            go_simp
            refine cp.out.mono ?_
            rintro e w8 ⟨v8, rfl, hown8, hb8⟩
            obtain ⟨A8, c8, rfl⟩ := own_form hown8
            have HO8 := Lib.hid hown8
            have HB8 := Lib.hid hb8
            clear hown8 hb8
            go_wp2_with fail
            refine hK.out _ _ (fun _ => KeepB.out _ HB8.out) ?_
            clear hK K
            try simp only [Act.put, List.setIfInBounds_toArray, List.set_cons_zero, List.set_cons_succ]
            refine anyE_one (i := 5) (o := ?oi61) (by kernel_rfl) ?hi61 (fun K hK => ?step61)
            case hi61 => simp only [List.getElem?_toArray, List.getElem?_cons_zero, List.getElem?_cons_succ]; rfl
            go_simp
            go_wp2_with fail
            refine hK.out _ _ (fun _ => KeepB.out _ HB8.out) ?_
            clear hK K
            try simp only [Act.put, List.setIfInBounds_toArray, List.set_cons_zero, List.set_cons_succ]
            refine anyE_one (i := 6) (o := ?oi62) (by kernel_rfl) ?hi62 (fun K hK => ?step62)
            case hi62 => simp only [List.getElem?_toArray, List.getElem?_cons_zero, List.getElem?_cons_succ]; rfl
            go_simp
            go_wp2_with fail
            refine hK.out _ _ (fun _ => KeepB.out _ HB8.out) ?_
            clear hK K
            try simp only [Act.put, List.setIfInBounds_toArray, List.set_cons_zero, List.set_cons_succ]
            have q8 := (KeepG.out _ HB8.out).1
            have q9 := (KeepG.out _ HB8.out).2.1
            have q7 := (KeepG.out _ HB8.out).2.2
            refine anyE_one (i := 7) (o := ?oi63) (by kernel_rfl) ?hi63 (fun K hK => ?step63)
            case hi63 => simp only [List.getElem?_toArray, List.getElem?_cons_zero, List.getElem?_cons_succ]; rfl
            go_simp
            go_wp2_with fail
            refine hK.out _ _ (fun _ => KeepS.out _ HB8.out _) ?_
            clear hK K
            try simp only [Act.put, List.setIfInBounds_toArray, List.set_cons_zero, List.set_cons_succ]
            refine anyE_done (by kernel_rfl) ?_ _
            have HBf := Lib.hid (HBE.out.trans (HB8.out.mono HBE.out.size))
            have hni := IntsAt.of_own HO8.out
            have hnN : IntsN (fun q => lo ≤ q ∧ (Value.slice (some ⟨g, 0, none⟩ : Option Addr) b.its.length cI').ownBlock ≠ some q) w8.heap.size w8 A8 (exM (b.its[i]'hlti).1 ((x : Int), (y : Int))) := hni.ne fun a ha _ => by
              have h9 := (own_lt2 HO8.out a ha).1
              have h8 := HBE.out.size
              exact ⟨by omega, fun e => by
                have h7 : g = a.block := by simpa [Value.ownBlock] using e
                omega⟩
            obtain ⟨v9, hrep⟩ := (HIt2.out.below HBf.out).repl (k := i) hil hnN (c' := c8) rfl
            simp only [hgi] at hrep
            rw [HSet.out] at hrep
            have HRep := Lib.hid hrep
            have HP := Lib.hid ((Only.refl g w8).put (i * 2) (.slice A8 (exM (b.its[i]'hlti).1 ((x : Int), (y : Int))).length c8))
            have HRu5 := Lib.hid ((HRu2.out.below HBf.out).keep (fun q hq e => by have := hq.2; omega) HP.out)
            have HBl5 := Lib.hid ((HBl2.out.below HBf.out hG2).far (fun e => hgG e.symm) (p := ⟨g, i * 2, none⟩) (.slice A8 (exM (b.its[i]'hlti).1 ((x : Int), (y : Int))).length c8))
            have hbw := HBr2.out.trans (HBf.out.mono HBr2.out.size)
            have HBr5 := Lib.hid (hbw.trans (HP.out.below (by have := Hlo.out; omega) hbw.size))
            clear hrep hbw hni hnN
            go_wp2_with fail
            go_roundw
            case rel => exact ⟨i + 1, _, by omega, by go_num, HRep.out, HRu5.out, HBl5.out, HBr5.out, HOk2.out⟩
            case measure => simp [intOf]; omega
          · have hyiI : (i : Int) ≤ (y : Int) := by omega
            have HNo := Lib.hid (show ¬ exOk b.its ((x : Int), (y : Int)) from fun hex => by have h9 : (y : Int) < (i : Int) := hex i hlti hxP; omega)
            have HR1 := Lib.hid (HK1.out.below HBr2.out HK1.out.lt)
            obtain ⟨t0, t1, t2, g0, g1, g2⟩ := blk3 HR1.out
            have hlR : w.heap.size + 1 + 1 < wi0.heap.size := HR1.out.lt
            go_wp2_with fail
            have HP := Lib.hid ((((Only.refl (w.heap.size + 1 + 1) wi0).put 0 (.int .i64 b.p)).put 1 (.slice AI b.its.length cI)).put 2 (.slice AR b.rus.length cR))
            have HB2 := Lib.hid (((HR1.out.put 0 (.int .i64 b.p)).put 1 (.slice AI b.its.length cI)).put 2 (.slice AR b.rus.length cR))
            have hlow := HB1.out.trans (HBr2.out.mono HB1.out.size)
            refine bodyPost_ret (results_cell_row2 rfl _ _ (w.heap.size + 1 + 1) 25 _ (0, 0) _ rfl HB2.out Tryd.underlying25 rfl (by kernel_rfl)) rfl ⟨.inr ⟨HNo.out, rfl⟩, hlow.trans (HP.out.below (by omega) hlow.size)⟩
        · have hc : (b.its[i]'hlti).1.contains (x : Int) = false := by rw [Bool.eq_false_iff]; exact fun h => hxP (List.contains_iff_mem.1 h)
          rw [hc] at ch0
          have ch := Lib.hid ch0
          have HSk := Lib.hid (HSkip.out (exM_out hxP))
          have HOk2 := Lib.hid (HOkS.out fun h => absurd h hxP)
          clear ch0
          refine anyE_tk 0 18 (oi := ?oi64) (v := ?v64) ?hi64 ?hd64 (by kernel_rfl) (by kernel_rfl) (by kernel_rfl) ?hQ64 ?hy64 hS ?rest64
          case hi64 => simp only [List.getElem?_toArray, List.getElem?_cons_zero, List.getElem?_cons_succ]; rfl
          case hd64 => rfl
          case hQ64 => exact fun _ _ _ h => h
          case hy64 => (refine Or.inl ⟨by rfl, ?_⟩; intro w hSw; (try dsimp only at hSw); go_simp; try with_reducible rfl)
          simp only [List.setIfInBounds_toArray, List.set_cons_zero, List.set_cons_succ]
          refine anyE_tk 1 19 (oi := ?oi65) (v := ?v65) ?hi65 ?hd65 (by kernel_rfl) (by kernel_rfl) (by kernel_rfl) ?hQ65 ?hy65 hS ?rest65
          case hi65 => simp only [List.getElem?_toArray, List.getElem?_cons_zero, List.getElem?_cons_succ]; rfl
          case hd65 => rfl
          case hQ65 => exact fun _ _ _ h => h
          case hy65 => (refine Or.inl ⟨by rfl, ?_⟩; intro w hSw; (try dsimp only at hSw); go_simp; try with_reducible rfl)
          simp only [List.setIfInBounds_toArray, List.set_cons_zero, List.set_cons_succ]
          refine anyE_tk 2 20 (oi := ?oi66) (v := ?v66) ?hi66 ?hd66 (by kernel_rfl) (by kernel_rfl) (by kernel_rfl) ?hQ66 ?hy66 hS ?rest66
          case hi66 => simp only [List.getElem?_toArray, List.getElem?_cons_zero, List.getElem?_cons_succ]; rfl
          case hd66 => rfl
          case hQ66 => exact fun _ _ _ h => h
          case hy66 => (refine Or.inl ⟨by rfl, ?_⟩; intro w hSw; (try dsimp only at hSw); go_simp; try with_reducible rfl)
          simp only [List.setIfInBounds_toArray, List.set_cons_zero, List.set_cons_succ]
          refine anyE_tk 3 21 (oi := ?oi67) (v := ?v67) ?hi67 ?hd67 (by kernel_rfl) (by kernel_rfl) (by kernel_rfl) ?hQ67 ?hy67 hS ?rest67
          case hi67 => simp only [List.getElem?_toArray, List.getElem?_cons_zero, List.getElem?_cons_succ]; rfl
          case hd67 => rfl
          case hQ67 => exact fun _ _ _ h => h
          case hy67 => (refine Or.inl ⟨by rfl, ?_⟩; intro w hSw; (try dsimp only at hSw); go_simp; try with_reducible rfl)
          simp only [List.setIfInBounds_toArray, List.set_cons_zero, List.set_cons_succ]
          refine anyE_tk 4 22 (oi := ?oi68) (v := ?v68) ?hi68 ?hd68 (by kernel_rfl) (by kernel_rfl) (by kernel_rfl) ?hQ68 ?hy68 hS ?rest68
          case hi68 => simp only [List.getElem?_toArray, List.getElem?_cons_zero, List.getElem?_cons_succ]; rfl
          case hd68 => rfl
          case hQ68 => exact fun _ _ _ h => h
          case hy68 => (refine Or.inl ⟨by rfl, ?_⟩; intro w hSw; (try dsimp only at hSw); go_simp; try with_reducible rfl)
          simp only [List.setIfInBounds_toArray, List.set_cons_zero, List.set_cons_succ]
          refine anyE_tk 5 23 (oi := ?oi69) (v := ?v69) ?hi69 ?hd69 (by kernel_rfl) (by kernel_rfl) (by kernel_rfl) ?hQ69 ?hy69 hS ?rest69
          case hi69 => simp only [List.getElem?_toArray, List.getElem?_cons_zero, List.getElem?_cons_succ]; rfl
          case hd69 => rfl
          case hQ69 => exact fun _ _ _ h => h
          case hy69 => (refine Or.inl ⟨by rfl, ?_⟩; intro w hSw; (try dsimp only at hSw); go_simp; try with_reducible rfl)
          simp only [List.setIfInBounds_toArray, List.set_cons_zero, List.set_cons_succ]
          refine anyE_tk 6 24 (oi := ?oi70) (v := ?v70) ?hi70 ?hd70 (by kernel_rfl) (by kernel_rfl) (by kernel_rfl) ?hQ70 ?hy70 hS ?rest70
          case hi70 => simp only [List.getElem?_toArray, List.getElem?_cons_zero, List.getElem?_cons_succ]; rfl
          case hd70 => rfl
          case hQ70 => exact fun _ _ _ h => h
          case hy70 => (refine Or.inl ⟨by rfl, ?_⟩; intro w hSw; (try dsimp only at hSw); go_simp; try with_reducible rfl)
          simp only [List.setIfInBounds_toArray, List.set_cons_zero, List.set_cons_succ]
          refine anyE_tk 7 25 (oi := ?oi71) (v := ?v71) ?hi71 ?hd71 (by kernel_rfl) (by kernel_rfl) (by kernel_rfl) ?hQ71 ?hy71 hS ?rest71
          case hi71 => simp only [List.getElem?_toArray, List.getElem?_cons_zero, List.getElem?_cons_succ]; rfl
          case hd71 => rfl
          case hQ71 => exact fun _ _ _ h => h
          case hy71 => (refine Or.inl ⟨by rfl, ?_⟩; intro w hSw; (try dsimp only at hSw); go_simp; try with_reducible rfl)
          simp only [List.setIfInBounds_toArray, List.set_cons_zero, List.set_cons_succ]
          refine anyE_tk 8 26 (oi := ?oi72) (v := ?v72) ?hi72 ?hd72 (by kernel_rfl) (by kernel_rfl) (by kernel_rfl) ?hQ72 ?hy72 hS ?rest72
          case hi72 => simp only [List.getElem?_toArray, List.getElem?_cons_zero, List.getElem?_cons_succ]; rfl
          case hd72 => rfl
          case hQ72 => exact fun _ _ _ h => h
          case hy72 => (refine Or.inl ⟨by rfl, ?_⟩; intro w hSw; (try dsimp only at hSw); go_simp; try with_reducible rfl)
          simp only [List.setIfInBounds_toArray, List.set_cons_zero, List.set_cons_succ]
          refine anyE_tk 9 27 (oi := ?oi73) (v := ?v73) ?hi73 ?hd73 (by kernel_rfl) (by kernel_rfl) (by kernel_rfl) ?hQ73 ?hy73 hS ?rest73
          case hi73 => simp only [List.getElem?_toArray, List.getElem?_cons_zero, List.getElem?_cons_succ]; rfl
          case hd73 => rfl
          case hQ73 => exact fun _ _ _ h => h
          case hy73 => (refine Or.inl ⟨by rfl, ?_⟩; intro w hSw; (try dsimp only at hSw); go_simp; try with_reducible rfl)
          simp only [List.setIfInBounds_toArray, List.set_cons_zero, List.set_cons_succ]
          refine anyE_tk 10 28 (oi := ?oi74) (v := ?v74) ?hi74 ?hd74 (by kernel_rfl) (by kernel_rfl) (by kernel_rfl) ?hQ74 ?hy74 hS ?rest74
          case hi74 => simp only [List.getElem?_toArray, List.getElem?_cons_zero, List.getElem?_cons_succ]; rfl
          case hd74 => rfl
          case hQ74 => exact fun _ _ _ h => h
          case hy74 => (refine Or.inl ⟨by rfl, ?_⟩; intro w hSw; (try dsimp only at hSw); go_simp; try with_reducible rfl)
          simp only [List.setIfInBounds_toArray, List.set_cons_zero, List.set_cons_succ]
          refine anyE_tk 11 29 (oi := ?oi75) (v := ?v75) ?hi75 ?hd75 (by kernel_rfl) (by kernel_rfl) (by kernel_rfl) ?hQ75 ?hy75 hS ?rest75
          case hi75 => simp only [List.getElem?_toArray, List.getElem?_cons_zero, List.getElem?_cons_succ]; rfl
          case hd75 => rfl
          case hQ75 => exact fun _ _ _ h => h
          case hy75 => (refine Or.inl ⟨by rfl, ?_⟩; intro w hSw; (try dsimp only at hSw); go_simp; try with_reducible rfl)
          simp only [List.setIfInBounds_toArray, List.set_cons_zero, List.set_cons_succ]
          refine anyE_tk 12 30 (oi := ?oi76) (v := ?v76) ?hi76 ?hd76 (by kernel_rfl) (by kernel_rfl) (by kernel_rfl) ?hQ76 ?hy76 hS ?rest76
          case hi76 => simp only [List.getElem?_toArray, List.getElem?_cons_zero, List.getElem?_cons_succ]; rfl
          case hd76 => rfl
          case hQ76 => exact fun _ _ _ h => h
          case hy76 => (refine Or.inl ⟨by rfl, ?_⟩; intro w hSw; (try dsimp only at hSw); go_simp; try with_reducible rfl)
          simp only [List.setIfInBounds_toArray, List.set_cons_zero, List.set_cons_succ]
          refine anyE_tk 13 31 (oi := ?oi77) (v := ?v77) ?hi77 ?hd77 (by kernel_rfl) (by kernel_rfl) (by kernel_rfl) ?hQ77 ?hy77 hS ?rest77
          case hi77 => simp only [List.getElem?_toArray, List.getElem?_cons_zero, List.getElem?_cons_succ]; rfl
          case hd77 => rfl
          case hQ77 => exact fun _ _ _ h => h
          case hy77 => (refine Or.inl ⟨by rfl, ?_⟩; intro w hSw; (try dsimp only at hSw); go_simp; try with_reducible rfl)
          simp only [List.setIfInBounds_toArray, List.set_cons_zero, List.set_cons_succ]
          clear hS
          refine anyE_one (i := 14) (o := ?oi78) (by kernel_rfl) ?hi78 (fun K hK => ?step78)
          case hi78 => simp only [List.getElem?_toArray, List.getElem?_cons_zero, List.getElem?_cons_succ]; rfl
          go_simp
          refine ch.out.mono ?_
          rintro e w7 ⟨rfl, hw7⟩
          subst w7
          go_wp2_with fail
          refine hK.out _ _ (fun _ => Keep.out) ?_
          clear hK K
          try simp only [Act.put, List.setIfInBounds_toArray, List.set_cons_zero, List.set_cons_succ]
          refine anyE_tk 15 33 (oi := ?oi79) (v := ?v79) ?hi79 ?hd79 (by kernel_rfl) (by kernel_rfl) (by kernel_rfl) ?hQ79 ?hy79 Keep.out ?rest79
          case hi79 => simp only [List.getElem?_toArray, List.getElem?_cons_zero, List.getElem?_cons_succ]; rfl
          case hd79 => rfl
          case hQ79 => exact fun _ _ _ h => h
          case hy79 => (refine Or.inl ⟨by rfl, ?_⟩; intro w hSw; (try dsimp only at hSw); go_simp; try with_reducible rfl)
          simp only [List.setIfInBounds_toArray, List.set_cons_zero, List.set_cons_succ]
          refine anyE_tk 16 34 (oi := ?oi80) (v := ?v80) ?hi80 ?hd80 (by kernel_rfl) (by kernel_rfl) (by kernel_rfl) ?hQ80 ?hy80 Keep.out ?rest80
          case hi80 => simp only [List.getElem?_toArray, List.getElem?_cons_zero, List.getElem?_cons_succ]; rfl
          case hd80 => rfl
          case hQ80 => exact fun _ _ _ h => h
          case hy80 => (refine Or.inl ⟨by rfl, ?_⟩; intro w hSw; (try dsimp only at hSw); go_simp; try with_reducible rfl)
          simp only [List.setIfInBounds_toArray, List.set_cons_zero, List.set_cons_succ]
          refine anyE_done (by kernel_rfl) ?_ _
          go_wp2_with fail
          go_roundw
          case rel => exact ⟨i + 1, ps, by omega, by go_num, by rw [← HSk.out]; exact HIt2.out, HRu2.out, HBl2.out, HBr2.out, HOk2.out⟩
          case measure => simp [intOf]; omega
    · obtain rfl : i = b.its.length := by omega
      have HR1 := Lib.hid (HK1.out.below HBr.out HK1.out.lt)
      obtain ⟨t0, t1, t2, g0, g1, g2⟩ := blk3 HR1.out
      have hlR : w.heap.size + 1 + 1 < wr.heap.size := HR1.out.lt
      have HYes := Lib.hid (show exOk b.its ((x : Int), (y : Int)) from fun k hk hx => by have := HOk.out k hk hk hx; show (y : Int) < (k : Int); omega)
      go_wp2_with fail
      have HP := Lib.hid ((((Only.refl (w.heap.size + 1 + 1) wr).put 0 (.int .i64 b.p)).put 1 (.slice AI' b.its.length cI')).put 2 (.slice AR' b.rus.length cR'))
      have HB2 := Lib.hid (((HR1.out.put 0 (.int .i64 b.p)).put 1 (.slice AI' b.its.length cI')).put 2 (.slice AR' b.rus.length cR'))
      have hlow := HB1.out.trans (HBr.out.mono HB1.out.size)
      refine bodyPost_ret (results_cell_row2 rfl _ _ (w.heap.size + 1 + 1) 25 _ (0, 0) _ rfl HB2.out Tryd.underlying25 rfl (by kernel_rfl)) rfl ⟨.inl ⟨AI', AR', cI', cR', HYes.out, rfl, ?_, ?_⟩, hlow.trans (HP.out.below (by omega) hlow.size)⟩
      · exact (HIt.out.only HP.out (by have := HS0.out; have := Hlo.out; omega)).itsN (by rw [exK_length]) fun q hq => by have := HS0.out; have := Hlo.out; omega
      · exact (HRu.out.keep (fun q hq e => by have := hq.1; have := HS0.out; omega) HP.out).imp fun q hq => by have := hq.1; have := HS0.out; omega
end Go.Proofs.YtgoojcjfhghmgaaDoor


set_option linter.unusedSimpArgs false
set_option linter.unusedVariables false
namespace Go.Proofs.YtgoojcjfhghmgaaDoor
open Go Go.RowKit

theorem exN_len {l m : List It} {ss : List (Int × Int)} (hl : Ord l) (h0 : ∀ s ∈ ss, 0 ≤ s.2) {j : Nat} (hj : j ≤ ss.length) (h : exN l (ss.take j) = some m) (hM : ∀ x ∈ l, x.1.length ≤ 40 ∧ x.2.length ≤ 40) : Ord m ∧ m.length = l.length ∧ ∀ x ∈ m, x.1.length ≤ 40 ∧ x.2.length ≤ 40 := by
  obtain ⟨h1, h2, h3⟩ := exN_facts hl h0 j hj h
  exact ⟨h1, h2, h3 40 hM⟩

theorem ItP.itsN {lo n c : Nat} {A : Option Addr} {w : World} {ps : List (Value × Value)} {l : List It} (h : ItP lo (.slice A n c) w ps l) (hn : n = l.length) {N : Nat → Prop} (hN : ∀ q, lo ≤ q → N q) : ItsN N w A l := by
  subst hn
  intro k hk
  have hkp : k < ps.length := by rw [h.1]; exact hk
  obtain ⟨g, rfl, hg, q0, q1⟩ := own_cell2 h.2.1 h.1 hkp
  obtain ⟨f0, f1⟩ := flatV_get ps k hkp
  obtain ⟨g0, g1⟩ := flI_get l k hk
  have hl := flI_length l
  obtain ⟨A1, c1, e1, o1, _⟩ := h.2.2.2.1 (k * 2) (by omega)
  obtain ⟨A2, c2, e2, o2, _⟩ := h.2.2.2.1 (k * 2 + 1) (by omega)
  have x1 : (flI l)[k * 2]'(by omega) = l[k].1 := by rw [List.getElem?_eq_getElem (by omega)] at g0; injection g0
  have x2 : (flI l)[k * 2 + 1]'(by omega) = l[k].2 := by rw [List.getElem?_eq_getElem (by omega)] at g1; injection g1
  rw [x1] at e1 o1
  rw [x2] at e2 o2
  rw [f0] at e1
  rw [f1] at e2
  injection e1 with e1
  injection e2 with e2
  exact ⟨g, 0, A1, c1, A2, c2, rfl, hN g (h.2.1.lt g rfl).1, hg, by rw [Nat.zero_add, q0, e1], by rw [Nat.zero_add, q1, e2], (IntsAt.of_own o1).ne fun a ha _ => hN _ ((own_caps o1).2.2 a ha).1, (IntsAt.of_own o2).ne fun a ha _ => hN _ ((own_caps o2).2.2 a ha).1⟩

set_option maxRecDepth 100000 in
set_option maxHeartbeats 8000000 in
theorem exchanged_any (AI AR : Option Addr) (cI cR : Nat) (A : Option Addr) (c B : Nat) (b : Bk) (ss : List (Int × Int)) (w : World) (hB : B ≤ w.heap.size) (h : ItsAt B w AI b.its) (h' : RusAt B w AR b.rus) (hs : Short b) (ho : Ord b.its) (hp : PairsAt B w A ss) (h8 : ss.length ≤ 8) (hsw : ∀ s ∈ ss, 0 ≤ s.2) :
    Calls Tryd.prog 95 #[.agg #[.int .i64 b.p, .slice AI b.its.length cI, .slice AR b.rus.length cR], .slice A ss.length c] w fun e w' =>
      ((∃ m AI' AR' cI' cR', exN b.its ss = some m ∧ e = .returned (.tuple #[.agg #[.int .i64 b.p, .slice AI' b.its.length cI', .slice AR' b.rus.length cR'], .bool true]) ∧ ItsN (fun q => w.heap.size ≤ q) w' AI' m ∧ RusN (fun q => w.heap.size ≤ q) w' AR' b.rus) ∨
        (exN b.its ss = none ∧ e = .returned (.tuple #[.agg #[.int .i64 0, .slice none 0 0, .slice none 0 0], .bool false]))) ∧ Below w.heap.size w w' := by
  have hT := h.below (Below.refl _ _) hB
  have hT' := h'.below (Below.refl _ _) hB
  have hP := hp.below (Below.refl _ _) hB
  have cc := Lib.hid (fun W (hW : Below w.heap.size w W) => clone_bk AI AR cI cR w.heap.size b W hW.size (hT.below hW (Nat.le_refl _)) (hT'.below hW (Nat.le_refl _)) hs)
  have HP := Lib.hid hP
  have nI := hs.1
  have nR := hs.2.1
  have HFa := Lib.hid (fun (j : Nat) (m : List It) (hj : j ≤ ss.length) (he : exN b.its (ss.take j) = some m) => exN_len ho hsw hj he hs.2.2.1)
  have HGood := Lib.hid (fun (j : Nat) (m : List It) (hj : j < ss.length) (he : exN b.its (ss.take j) = some m) (hk : exOk m ss[j]) => exN_good hj he hk)
  have HBad := Lib.hid (fun (j : Nat) (m : List It) (hj : j < ss.length) (he : exN b.its (ss.take j) = some m) (hk : ¬ exOk m ss[j]) => exN_bad hj he hk)
  have HAll := Lib.hid (fun (m : List It) (he : exN b.its (ss.take ss.length) = some m) => show exN b.its ss = some m from by rwa [List.take_length] at he)
  have HNil := Lib.hid (show exN b.its (ss.take 0) = some b.its from by rw [List.take_zero]; exact exN_nil _)
  clear h h' hp hs ho hT hT' hP hB hsw
  go_enter Tryd.func95, Tryd.ntmps95
  go_wp2_with fail
  generalize hW1 : (w.alloc (.cells #[.int .i64 b.p, .slice AI b.its.length cI, .slice AR b.rus.length cR] 25)).alloc (.cells #[.int .i64 0, .slice none 0 0, .slice none 0 0] 25) = W1
  have HB1 := Lib.hid (show Below w.heap.size w W1 by rw [← hW1]; exact balloc (balloc (Below.refl _ _) _) _)
  have HK0 := Lib.hid (show Blk W1 w.heap.size 25 #[.int .i64 b.p, .slice AI b.its.length cI, .slice AR b.rus.length cR] by rw [← hW1]; exact (Blk.new _ _ _).alloc _)
  have HK1 := Lib.hid (show Blk W1 (w.heap.size + 1) 25 #[.int .i64 0, .slice none 0 0, .slice none 0 0] by rw [← hW1]; exact blk_new' (by simp))
  have HS0 := Lib.hid (show w.heap.size + 1 < W1.heap.size from HK1.out.lt)
  clear hW1
  obtain ⟨x0, x1, x2, _⟩ := blk3 HK0.out
  go_wp2_with (go_at_call 90; refine (cc.out _ HB1.out).mono ?_; rintro e w2 ⟨AI', AR', cI', cR', ps, qs, mid, rfl, hit, hup, hm1, hm2, hru, hb2⟩)
  clear x0 x1 x2
  generalize hW3 : w2.alloc (.cells #[.int .i64 b.p, .slice AI' b.its.length cI', .slice AR' b.rus.length cR'] 25) = w3
  have hb23 : Below w2.heap.size w2 w3 := by rw [← hW3]; exact balloc (Below.refl _ _) _
  have HKG := Lib.hid (show Blk w3 w2.heap.size 25 #[.int .i64 b.p, .slice AI' b.its.length cI', .slice AR' b.rus.length cR'] by rw [← hW3]; exact Blk.new _ _ _)
  have hsz : w3.heap.size = w2.heap.size + 1 := by rw [← hW3]; simp
  have HIt := Lib.hid (hit.below hb23)
  have HIn := Lib.hid ((InB.of_upTo hup).imp (NB' := fun b => b < mid ∨ w2.heap.size + 1 ≤ b) fun b hb => .inl hb)
  have HRu := Lib.hid (((hru.toN rfl (N := fun b => mid ≤ b ∧ b < w2.heap.size + 1) fun b h1 h2 => ⟨h1, by omega⟩).below hb23))
  have HB3 := Lib.hid (hb2.trans (hb23.mono hb2.size))
  have Hmid := Lib.hid (And.intro hm1 hm2)
  have Hsz := Lib.hid (show w2.heap.size + 1 ≤ w3.heap.size from Nat.le_of_eq hsz.symm)
  clear hW3 hit hup hru hb23 hb2 hm1 hm2 hsz cc
  generalize w2.heap.size = G at *
  go_loopw [16] (fun vi wr => ∃ (j : Nat) (m : List It) (ps : List (Value × Value)), j ≤ ss.length ∧ vi = .int .i64 j ∧ Aside (exN b.its (ss.take j) = some m) ∧ Aside (ItP W1.heap.size (.slice AI' b.its.length cI') wr ps m) ∧ Aside (InB (fun b => b < mid ∨ G + 1 ≤ b) (.slice AI' b.its.length cI') ps) ∧ Aside (RusN (fun b => mid ≤ b ∧ b < G + 1) wr AR' b.rus) ∧ Aside (Blk wr G 25 #[.int .i64 b.p, .slice AI' b.its.length cI', .slice AR' b.rus.length cR']) ∧ Aside (Below W1.heap.size W1 wr) ∧ Aside (G + 1 ≤ wr.heap.size)) (fun vi _ => ss.length - (intOf vi).toNat)
  case atStart => exact ⟨0, b.its, ps, Nat.zero_le _, rfl, HNil.out, HIt.out, HIn.out, HRu.out, HKG.out, HB3.out, Hsz.out⟩
  case round =>
    clear HIt HIn HRu HKG HB3 Hsz
    obtain ⟨j, m, ps, hj, rfl, hex, hit, hin, hru, hbl, hbr, hsz⟩ := hrel
    have HEx := Lib.hid hex.out
    have HIt := Lib.hid hit.out
    have HIn := Lib.hid hin.out
    have HRu := Lib.hid hru.out
    have HBl := Lib.hid hbl.out
    have HBr := Lib.hid hbr.out
    have Hsz := Lib.hid hsz.out
    obtain ⟨hOrd, hml, hm40⟩ := HFa.out j m hj HEx.out
    have HOrd := Lib.hid hOrd
    have HMl := Lib.hid hml
    have HM40 := Lib.hid hm40
    obtain ⟨y0, y1, y2, _, _, _⟩ := blk3 hbl.out
    clear hex hit hin hru hbl hbr hsz hOrd hml hm40
    have hGr : G < wr.heap.size := Hsz.out
    by_cases hltj : j < ss.length
    · have Hpw := HP.out.below (HB1.out.trans (HBr.out.mono HB1.out.size)) (Nat.le_refl _)
      obtain ⟨ga, oa, rfl, hga, p0, p1⟩ := Hpw.at hltj
      have hjI : (j : Int) < (ss.length : Int) := by omega
      have HGo := Lib.hid (HGood.out j m hltj HEx.out)
      have HBa := Lib.hid (HBad.out j m hltj HEx.out)
      clear Hpw
      generalize ss[j] = s at *
      obtain ⟨x, y⟩ := s
      simp only at p0 p1
      have hgaw : ga < wr.heap.size := Nat.lt_of_lt_of_le hga (Nat.le_trans HB1.out.size HBr.out.size)
      have HKs := Lib.hid (Blk.new wr 79 #[.int .i64 x, .int .i64 y])
      have hba : Below wr.heap.size wr (wr.alloc (.cells #[.int .i64 x, .int .i64 y] 79)) := balloc (Below.refl _ _) _
      have HR0 := Lib.hid (show Rst W1 mid (G + 1) G wr.heap.size AR' b.rus #[.int .i64 b.p, .slice AI' b.its.length cI', .slice AR' b.rus.length cR'] #[.int .i64 x, .int .i64 y] (wr.alloc (.cells #[.int .i64 x, .int .i64 y] 79)) from ⟨HRu.out.below hba, HBl.out.below hba hGr, HKs.out, HBr.out.trans (hba.mono HBr.out.size)⟩)
      have HI0 := Lib.hid (HIt.out.below hba)
      have HN0 := Lib.hid (show InB (fun b => (b < mid ∨ G + 1 ≤ b) ∧ b ≠ wr.heap.size) (.slice AI' b.its.length cI') ps from ⟨fun q hq => ⟨HIn.out.1 q hq, fun e => by have := (HIt.out.2.1.lt q hq).2; omega⟩, fun k v1 v2 e => by
        have hk : k < ps.length := (List.getElem?_eq_some_iff.1 e).1
        obtain ⟨f0, f1⟩ := flatV_get ps k hk
        have e' := e
        rw [List.getElem?_eq_getElem hk] at e'
        injection e' with e'
        rw [e'] at f0 f1
        exact ⟨fun q hq => ⟨(HIn.out.2 k v1 v2 e).1 q hq, fun e3 => by have := HIt.out.2.2.lt f0 hq; omega⟩, fun q hq => ⟨(HIn.out.2 k v1 v2 e).2 q hq, fun e3 => by have := HIt.out.2.2.lt f1 hq; omega⟩⟩⟩)
      have Hgs := Lib.hid (show G + 1 ≤ wr.heap.size from Hsz.out)
      go_wp2_with fail
      have hgs : (wr.alloc (.cells #[.int .i64 x, .int .i64 y] 79)).heap.size = wr.heap.size + 1 := by simp
      have HgsA := Lib.hid (show wr.heap.size < (wr.alloc (.cells #[.int .i64 x, .int .i64 y] 79)).heap.size by rw [hgs]; exact Nat.lt_succ_self _)
      clear hgs hba HIt HIn HRu HBl HBr HKs Hsz y0 y1 y2 p0 p1
      generalize hWs : wr.alloc (.cells #[.int .i64 x, .int .i64 y] 79) = ws at *
      clear hWs
      generalize wr.heap.size = Gs at *
      go_loopw [23] (fun vi wx => ∃ (i : Nat) (ps : List (Value × Value)), i ≤ b.its.length ∧ vi = .int .i64 i ∧ Aside (ItP W1.heap.size (.slice AI' b.its.length cI') wx ps (exK m (x, y) i)) ∧ Aside (InB (fun b => (b < mid ∨ G + 1 ≤ b) ∧ b ≠ Gs) (.slice AI' b.its.length cI') ps) ∧ Aside (Rst W1 mid (G + 1) G Gs AR' b.rus #[.int .i64 b.p, .slice AI' b.its.length cI', .slice AR' b.rus.length cR'] #[.int .i64 x, .int .i64 y] wx) ∧ Aside (∀ k (hk : k < m.length), k < i → x ∈ m[k].1 → y < k) ∧ Aside (Gs < wx.heap.size)) (fun vi _ => b.its.length - (intOf vi).toNat)
      case atStart => exact ⟨0, ps, Nat.zero_le _, rfl, by rw [exK_zero]; exact HI0.out, HN0.out, HR0.out, (fun k hk h => absurd h (Nat.not_lt_zero _)), HgsA.out⟩
      case round =>
        clear HI0 HN0 HR0 HgsA
        obtain ⟨i, ps, hi, rfl, hit, hin, hrs, hok, hgs⟩ := hrel
        have HIt := Lib.hid hit.out
        have HIn := Lib.hid hin.out
        have HRs := Lib.hid hrs.out
        have HOk := Lib.hid hok.out
        have hgsw : Gs < wr.heap.size := hgs.out
        have hGr : G < wr.heap.size := by have := Hgs.out; omega
        obtain ⟨y0, y1, y2, _, _, _⟩ := blk3 hrs.out.2.1
        obtain ⟨s0, s1, _, _⟩ := blk2 hrs.out.2.2.1
        clear hit hin hrs hok hgs
        by_cases hlti : i < b.its.length
        · have him : i < m.length := by rw [HMl.out]; exact hlti
          have hil : i < (exK m (x, y) i).length := by rw [exK_length]; exact him
          have hgi : (exK m (x, y) i)[i]'hil = m[i]'him := by rw [exK_get m (x, y) i him, if_neg (Nat.lt_irrefl i)]
          obtain ⟨g, A1, c1, A2, c2, rfl, hps, e0, fz, hlog, hg, hI⟩ := HIt.out.cell hil
          rw [hgi] at hps e0 hI
          have h40 := (HM40.out _ (List.getElem_mem him)).1
          have hiI : (i : Int) < (b.its.length : Int) := by omega
          have hi0 : (0 : Int) ≤ (i : Int) := by omega
          have HPs := Lib.hid hps
          have HI := Lib.hid hI
          have HE0 := Lib.hid (And.intro e0 fz)
          have hAsc := (HOrd.out i him).1
          have HAsc := Lib.hid hAsc
          have HSkip := Lib.hid (fun (hx : x ∉ (m[i]'him).1) => exK_skip m (x, y) him (exM_out (P := (m[i]'him).1) (s := (x, y)) hx))
          have HOkS := Lib.hid (show (x ∈ (m[i]'him).1 → y < i) → ∀ k (hk : k < m.length), k < i + 1 → x ∈ m[k].1 → y < k from fun h k hk hki hx => by
            by_cases e : k = i
            · subst e; exact h hx
            · exact HOk.out k hk (by omega) hx)
          obtain ⟨np, hnp⟩ : ∃ np, np = (m[i]'him).1.length := ⟨_, rfl⟩
          have ci0 := index_any A1 c1 wr.heap.size (m[i]'him).1 x wr (by omega) hI
          rw [← hnp] at e0 ci0 h40
          have Hnp := Lib.hid hnp
          have ciH := Lib.hid ci0
          clear ci0 hI hps fz hAsc hnp
          by_cases hx : x ∈ (m[i]'him).1
          · obtain ⟨r, hr, hix, hPr⟩ := idx_in HAsc.out hx
            rw [hix] at ciH
            have hrI : (r : Int) < (np : Int) := by have := Hnp.out; omega
            have hr0 : (0 : Int) ≤ (r : Int) := by omega
            have ci0 := fun (W : World) (hW : Below wr.heap.size wr W) => index_any A1 c1 W.heap.size (m[i]'him).1 x W (by have := Hnp.out; omega) (HI.out.below hW hW.size)
            rw [hix, ← Hnp.out] at ci0
            have ciW := Lib.hid ci0
            have Hr := Lib.hid (And.intro hr hPr)
            clear ci0 hix
            by_cases hy : y < (i : Int)
            · have HOk2 := Lib.hid (HOkS.out fun _ => hy)
              go_wp2_with fail
              refine wp_region_E (S := fun W => W.cell? ⟨g, i * 2, none⟩ = some (.slice A1 np c1) ∧ W.cell? ⟨Gs, 0, none⟩ = some (.int .i64 x)) (E := fun _ => false) (by kernel_rfl) ?_
              have hbi : Below wr.heap.size wr wr.drew := (Below.refl _ _).drew
              have ci := Lib.hid (ciW.out wr.drew hbi)
              have Keep := Lib.hid (show wr.drew.cell? ⟨g, i * 2, none⟩ = some (.slice A1 np c1) ∧ wr.drew.cell? ⟨Gs, 0, none⟩ = some (.int .i64 x) from ⟨e0, s0⟩)
              have HIt2 := Lib.hid (HIt.out.below hbi)
              have HRs2 := Lib.hid (HRs.out.below hbi)
              have hgs2 : Gs < wr.drew.heap.size := Nat.lt_of_lt_of_le hgsw hbi.size
              generalize wr.drew = wi0 at *
              have hS := Keep.out
              clear hbi ciW ciH
              refine anyE_tk 0 30 (oi := ?oi1) (v := ?v1) ?hi1 ?hd1 (by kernel_rfl) (by kernel_rfl) (by kernel_rfl) ?hQ1 ?hy1 hS ?rest1
              case hi1 => simp only [List.getElem?_toArray, List.getElem?_cons_zero, List.getElem?_cons_succ]; rfl
              case hd1 => rfl
              case hQ1 => exact fun _ _ _ h => h
              case hy1 => (refine Or.inl ⟨by rfl, ?_⟩; intro w hSw; (try dsimp only at hSw); go_simp; try with_reducible rfl)
              simp only [List.setIfInBounds_toArray, List.set_cons_zero, List.set_cons_succ]
              refine anyE_tk 1 31 (oi := ?oi2) (v := ?v2) ?hi2 ?hd2 (by kernel_rfl) (by kernel_rfl) (by kernel_rfl) ?hQ2 ?hy2 hS ?rest2
              case hi2 => simp only [List.getElem?_toArray, List.getElem?_cons_zero, List.getElem?_cons_succ]; rfl
              case hd2 => rfl
              case hQ2 => exact fun _ _ _ h => h
              case hy2 => (refine Or.inl ⟨by rfl, ?_⟩; intro w hSw; (try dsimp only at hSw); go_simp; try with_reducible rfl)
              simp only [List.setIfInBounds_toArray, List.set_cons_zero, List.set_cons_succ]
              refine anyE_tk 2 32 (oi := ?oi3) (v := ?v3) ?hi3 ?hd3 (by kernel_rfl) (by kernel_rfl) (by kernel_rfl) ?hQ3 ?hy3 hS ?rest3
              case hi3 => simp only [List.getElem?_toArray, List.getElem?_cons_zero, List.getElem?_cons_succ]; rfl
              case hd3 => rfl
              case hQ3 => exact fun _ _ _ h => h
              case hy3 => (refine Or.inl ⟨by rfl, ?_⟩; intro w hSw; (try dsimp only at hSw); go_simp; try with_reducible rfl)
              simp only [List.setIfInBounds_toArray, List.set_cons_zero, List.set_cons_succ]
              refine anyE_tk 3 33 (oi := ?oi4) (v := ?v4) ?hi4 ?hd4 (by kernel_rfl) (by kernel_rfl) (by kernel_rfl) ?hQ4 ?hy4 hS ?rest4
              case hi4 => simp only [List.getElem?_toArray, List.getElem?_cons_zero, List.getElem?_cons_succ]; rfl
              case hd4 => rfl
              case hQ4 => exact fun _ _ _ h => h
              case hy4 => (refine Or.inl ⟨by rfl, ?_⟩; intro w hSw; (try dsimp only at hSw); go_simp; try with_reducible rfl)
              simp only [List.setIfInBounds_toArray, List.set_cons_zero, List.set_cons_succ]
              refine anyE_tk 4 34 (oi := ?oi5) (v := ?v5) ?hi5 ?hd5 (by kernel_rfl) (by kernel_rfl) (by kernel_rfl) ?hQ5 ?hy5 hS ?rest5
              case hi5 => simp only [List.getElem?_toArray, List.getElem?_cons_zero, List.getElem?_cons_succ]; rfl
              case hd5 => rfl
              case hQ5 => exact fun _ _ _ h => h
              case hy5 => (refine Or.inl ⟨by rfl, ?_⟩; intro w hSw; (try dsimp only at hSw); go_simp; try with_reducible rfl)
              simp only [List.setIfInBounds_toArray, List.set_cons_zero, List.set_cons_succ]
              refine anyE_tk 5 35 (oi := ?oi6) (v := ?v6) ?hi6 ?hd6 (by kernel_rfl) (by kernel_rfl) (by kernel_rfl) ?hQ6 ?hy6 hS ?rest6
              case hi6 => simp only [List.getElem?_toArray, List.getElem?_cons_zero, List.getElem?_cons_succ]; rfl
              case hd6 => rfl
              case hQ6 => exact fun _ _ _ h => h
              case hy6 => (refine Or.inl ⟨by rfl, ?_⟩; intro w hSw; (try dsimp only at hSw); go_simp; try with_reducible rfl)
              simp only [List.setIfInBounds_toArray, List.set_cons_zero, List.set_cons_succ]
              clear hS
              refine anyE_one (i := 6) (o := ?oi7) (by kernel_rfl) ?hi7 (fun K hK => ?step7)
              case hi7 => simp only [List.getElem?_toArray, List.getElem?_cons_zero, List.getElem?_cons_succ]; rfl
              go_simp
              refine ci.out.mono ?_
              rintro e w7 ⟨rfl, hw7⟩
              subst w7
              go_wp2_with fail
              refine hK.out _ _ (fun _ => Keep.out) ?_
              clear hK K
              try simp only [Act.put, List.setIfInBounds_toArray, List.set_cons_zero, List.set_cons_succ]
              refine anyE_one (i := 7) (o := ?oi8) (by kernel_rfl) ?hi8 (fun K hK => ?step8)
              case hi8 => simp only [List.getElem?_toArray, List.getElem?_cons_zero, List.getElem?_cons_succ]; rfl
              go_simp
              go_wp2_with fail
              refine hK.out _ _ (fun _ => Keep.out) ?_
              clear hK K
              try simp only [Act.put, List.setIfInBounds_toArray, List.set_cons_zero, List.set_cons_succ]
              refine anyE_done (by kernel_rfl) ?_ _
              obtain ⟨_, s1w, _, _⟩ := blk2 HRs2.out.2.2.1
              go_wp2_with fail
              have hbi3 : Below wi0.heap.size wi0 wi0.drew := (Below.refl _ _).drew
              have HIt3 := Lib.hid (HIt2.out.below hbi3)
              have HRs3 := Lib.hid (HRs2.out.below hbi3)
              have hgs3 : Gs < wi0.drew.heap.size := Nat.lt_of_lt_of_le hgs2 hbi3.size
              obtain ⟨q, c1', v2, ep, hlq, hqw, hqg, hqc, hqf, hput⟩ := HIt3.out.put hil (r := r) (by rw [hgi]; exact hr)
              simp only [hgi] at ep hqc hput
              have e9 := HPs.out.symm.trans ep
              injection e9 with e9
              injection e9 with e9 _
              injection e9 with e9 _ e10
              subst e9 e10
              have HPut := Lib.hid (hput y)
              have HQc := Lib.hid hqc
              have HQf := Lib.hid hqf
              obtain ⟨_, w1, _, _⟩ := blk2 HRs3.out.2.2.1
              have Keep3 := Lib.hid (show wi0.drew.cell? ⟨g, i * 2, none⟩ = some (.slice (some ⟨q, 0, none⟩) np c1) ∧ wi0.drew.cell? ⟨Gs, 1, none⟩ = some (.int .i64 y) from ⟨Keep.out.1, w1⟩)
              clear Keep s0 s1 s1w y0 y1 y2 w1 e0 hput ep hqc hqf
              refine wp_region_E (S := fun W => W.cell? ⟨g, i * 2, none⟩ = some (.slice (some ⟨q, 0, none⟩) np c1) ∧ W.cell? ⟨Gs, 1, none⟩ = some (.int .i64 y)) (E := fun j => [8].contains j) (by kernel_rfl) ?_
              have hgw3 : g < wi0.drew.heap.size := (HIt3.out.2.1.lt g rfl).2
              have hlo3 : W1.heap.size ≤ wi0.drew.heap.size := HRs3.out.2.2.2.size
              have Keep := Lib.hid Keep3.out
              clear Keep3 HIt2 HRs2 hgs2 hbi3
              generalize wi0.drew = wi1 at *
              have hS := Keep.out
              have hqb := (HIn.out.2 i _ _ HPs.out).1 q rfl
              have HRs4 := Lib.hid (HRs3.out.put ⟨Hmid.out.2, Nat.lt_succ_self _⟩ hqb hlq r (.int .i64 y))
              obtain ⟨g', A1', c1'', A2', c2', eg, ep', e13, fz13, _, hg13, hI13⟩ := HPut.out.cell (k := i) (by rw [List.length_set]; exact hil)
              simp only [List.getElem_set_self] at ep' e13 hI13
              injection eg with eg
              injection eg with eg _ _
              subst eg
              have e9 := HPs.out.symm.trans ep'
              injection e9 with e9
              injection e9 with e9 _
              injection e9 with e9 _ e10
              subst e9 e10
              have cs0 := sorted_own (some ⟨q, 0, none⟩) c1 _ _ _ (by rw [List.length_set]; have := Hnp.out; omega) hI13
              rw [exM_set (s := (x, y)) HAsc.out Hr.out.1 Hr.out.2] at cs0
              rw [List.length_set] at cs0 e13
              rw [← Hnp.out] at cs0 e13
              have CS := Lib.hid cs0
              have E13 := Lib.hid (And.intro e13 fz13)
              have hgs4 : Gs < (wi1.setCell ⟨q, r, none⟩ (.int .i64 y)).heap.size := by simpa [World.setCell] using hgs3
              have hlo4 : W1.heap.size ≤ (wi1.setCell ⟨q, r, none⟩ (.int .i64 y)).heap.size := by simpa [World.setCell] using hlo3
              clear cs0 e13 fz13 hI13 ep'
              refine anyE_tx 0 44 [8] [8] (oi := ?oi9) (v := ?v9) ?hi9 ?hd9 (by kernel_rfl) (by kernel_rfl) (by kernel_rfl) (by kernel_rfl) ?hQ9 ?hy9 hS ?rest9
              case hi9 => simp only [List.getElem?_toArray, List.getElem?_cons_zero, List.getElem?_cons_succ]; rfl
              case hd9 => rfl
              case hQ9 => exact fun _ _ _ h => h
              case hy9 => (refine Or.inl ⟨by rfl, ?_⟩; intro w hSw; (try dsimp only at hSw); go_simp; try with_reducible rfl)
              simp only [List.setIfInBounds_toArray, List.set_cons_zero, List.set_cons_succ]
              refine anyE_tx 1 45 [8] [8] (oi := ?oi10) (v := ?v10) ?hi10 ?hd10 (by kernel_rfl) (by kernel_rfl) (by kernel_rfl) (by kernel_rfl) ?hQ10 ?hy10 hS ?rest10
              case hi10 => simp only [List.getElem?_toArray, List.getElem?_cons_zero, List.getElem?_cons_succ]; rfl
              case hd10 => rfl
              case hQ10 => exact fun _ _ _ h => h
              case hy10 => (refine Or.inl ⟨by rfl, ?_⟩; intro w hSw; (try dsimp only at hSw); go_simp; try with_reducible rfl)
              simp only [List.setIfInBounds_toArray, List.set_cons_zero, List.set_cons_succ]
              refine anyE_tx 2 46 [8] [8] (oi := ?oi11) (v := ?v11) ?hi11 ?hd11 (by kernel_rfl) (by kernel_rfl) (by kernel_rfl) (by kernel_rfl) ?hQ11 ?hy11 hS ?rest11
              case hi11 => simp only [List.getElem?_toArray, List.getElem?_cons_zero, List.getElem?_cons_succ]; rfl
              case hd11 => rfl
              case hQ11 => exact fun _ _ _ h => h
              case hy11 => (refine Or.inl ⟨by rfl, ?_⟩; intro w hSw; (try dsimp only at hSw); go_simp; try with_reducible rfl)
              simp only [List.setIfInBounds_toArray, List.set_cons_zero, List.set_cons_succ]
              refine anyE_tx 3 47 [8] [8] (oi := ?oi12) (v := ?v12) ?hi12 ?hd12 (by kernel_rfl) (by kernel_rfl) (by kernel_rfl) (by kernel_rfl) ?hQ12 ?hy12 hS ?rest12
              case hi12 => simp only [List.getElem?_toArray, List.getElem?_cons_zero, List.getElem?_cons_succ]; rfl
              case hd12 => rfl
              case hQ12 => exact fun _ _ _ h => h
              case hy12 => (refine Or.inl ⟨by rfl, ?_⟩; intro w hSw; (try dsimp only at hSw); go_simp; try with_reducible rfl)
              simp only [List.setIfInBounds_toArray, List.set_cons_zero, List.set_cons_succ]
              refine anyE_tx 4 48 [8] [8] (oi := ?oi13) (v := ?v13) ?hi13 ?hd13 (by kernel_rfl) (by kernel_rfl) (by kernel_rfl) (by kernel_rfl) ?hQ13 ?hy13 hS ?rest13
              case hi13 => simp only [List.getElem?_toArray, List.getElem?_cons_zero, List.getElem?_cons_succ]; rfl
              case hd13 => rfl
              case hQ13 => exact fun _ _ _ h => h
              case hy13 => (refine Or.inl ⟨by rfl, ?_⟩; intro w hSw; (try dsimp only at hSw); go_simp; try with_reducible rfl)
              simp only [List.setIfInBounds_toArray, List.set_cons_zero, List.set_cons_succ]
              refine anyE_tx 5 49 [8] [8] (oi := ?oi14) (v := ?v14) ?hi14 ?hd14 (by kernel_rfl) (by kernel_rfl) (by kernel_rfl) (by kernel_rfl) ?hQ14 ?hy14 hS ?rest14
              case hi14 => simp only [List.getElem?_toArray, List.getElem?_cons_zero, List.getElem?_cons_succ]; rfl
              case hd14 => rfl
              case hQ14 => exact fun _ _ _ h => h
              case hy14 => (refine Or.inl ⟨by rfl, ?_⟩; intro w hSw; (try dsimp only at hSw); go_simp; try with_reducible rfl)
              simp only [List.setIfInBounds_toArray, List.set_cons_zero, List.set_cons_succ]
              refine anyE_tx 6 50 [8] [8] (oi := ?oi15) (v := ?v15) ?hi15 ?hd15 (by kernel_rfl) (by kernel_rfl) (by kernel_rfl) (by kernel_rfl) ?hQ15 ?hy15 hS ?rest15
              case hi15 => simp only [List.getElem?_toArray, List.getElem?_cons_zero, List.getElem?_cons_succ]; rfl
              case hd15 => rfl
              case hQ15 => exact fun _ _ _ h => h
              case hy15 => (refine Or.inl ⟨by rfl, ?_⟩; intro w hSw; (try dsimp only at hSw); go_simp; try with_reducible rfl)
              simp only [List.setIfInBounds_toArray, List.set_cons_zero, List.set_cons_succ]
              clear hS
              refine anyE_one (i := 7) (o := ?oi16) (by kernel_rfl) ?hi16 (fun K hK => ?step16)
              case hi16 => simp only [List.getElem?_toArray, List.getElem?_cons_zero, List.getElem?_cons_succ]; rfl
              go_simp
              go_wp2_with fail
              refine hK.out _ _ (fun _ => Keep.out) ?_
              clear hK K
              try simp only [Act.put, List.setIfInBounds_toArray, List.set_cons_zero, List.set_cons_succ]
              have q8 := HQc.out
              have q9 := HQf.out
              refine anyE_one (i := 8) (o := ?oi17) (by kernel_rfl) ?hi17 (fun K hK => ?step17)
              case hi17 => simp only [List.getElem?_toArray, List.getElem?_cons_zero, List.getElem?_cons_succ]; rfl
              go_simp
              refine hK.out _ _ (fun h => absurd h (by decide)) ?_
              clear hK K
              try simp only [Act.put, List.setIfInBounds_toArray, List.set_cons_zero, List.set_cons_succ]
              refine anyE_done (by kernel_rfl) ?_ _
              generalize wi1.setCell ⟨q, r, none⟩ (.int .i64 y) = w13 at *
              obtain ⟨e13, fz13⟩ := E13.out
              go_wp2_with (go_at_call 105; refine CS.out.mono ?_; rintro e w14 ⟨A', c', rfl, hown, hb14⟩; have e14 := (hb14.cell (p := ⟨g, i * 2, none⟩) hg13).trans e13; have fz14 : w14.frozen? ⟨g, i * 2, none⟩ = false := (World.frozen?_of_block (hb14.block g hg13)).trans fz13; have hg14 : g < w14.heap.size := Nat.lt_of_lt_of_le hg13 hb14.size)
              obtain ⟨v2', hrep, v1, ev⟩ := HPut.out.repl (k := i) (by rw [List.length_set]; exact hil) hlo4 hb14 hown rfl
              have hset : ((exK m (x, y) i).set i ((m[i]'him).1.set r y, (m[i]'him).2)).set i (exM (m[i]'him).1 (x, y), (((exK m (x, y) i).set i ((m[i]'him).1.set r y, (m[i]'him).2))[i]'(by rw [List.length_set]; exact hil)).2) = exK m (x, y) (i + 1) := by
                rw [List.set_set, ← exK_set m (x, y) him]
                simp
              rw [hset] at hrep
              have HRep := Lib.hid hrep
              have hgb := HIn.out.1 g rfl
              have HRs5 := Lib.hid ((HRs4.out.below hb14).put ⟨Hmid.out.2, Nat.lt_succ_self _⟩ hgb hlog (i * 2) (.slice A' (exM (m[i]'him).1 (x, y)).length c'))
              have HIn5 := Lib.hid (HIn.out.set (v1 := .slice A' (exM (m[i]'him).1 (x, y)).length c') ev fun q2 hq2 => by
                have := (hown.lt q2 hq2).1
                have := Hgs.out
                exact ⟨.inr (by omega), by omega⟩)
              have hgs5 : Gs < (w14.setCell ⟨g, i * 2, none⟩ (.slice A' (exM (m[i]'him).1 (x, y)).length c')).heap.size := by
                have : Gs < w14.heap.size := Nat.lt_of_lt_of_le hgs4 hb14.size
                simpa [World.setCell] using this
              go_roundw
              case rel => exact ⟨i + 1, ps.set i (Value.slice A' (exM (m[i]'him).1 (x, y)).length c', v2'), by omega, by go_num, HRep.out, HIn5.out, HRs5.out, HOk2.out, hgs5⟩
              case measure => simp [intOf]; omega
            · have hyi : (i : Int) ≤ y := by omega
              have HNo := Lib.hid (HBa.out fun hex => hy (hex i him hx))
              go_wp2_with fail
              refine wp_region_E (S := fun W => W.cell? ⟨g, i * 2, none⟩ = some (.slice A1 np c1) ∧ W.cell? ⟨Gs, 0, none⟩ = some (.int .i64 x)) (E := fun _ => false) (by kernel_rfl) ?_
              have hbi : Below wr.heap.size wr wr.drew := (Below.refl _ _).drew
              have ci := Lib.hid (ciW.out wr.drew hbi)
              have Keep := Lib.hid (show wr.drew.cell? ⟨g, i * 2, none⟩ = some (.slice A1 np c1) ∧ wr.drew.cell? ⟨Gs, 0, none⟩ = some (.int .i64 x) from ⟨e0, s0⟩)
              have HRs2 := Lib.hid (HRs.out.below hbi)
              have hgs2 : Gs < wr.drew.heap.size := Nat.lt_of_lt_of_le hgsw hbi.size
              generalize wr.drew = wi0 at *
              have hS := Keep.out
              clear hbi ciW ciH
              refine anyE_tk 0 30 (oi := ?oi18) (v := ?v18) ?hi18 ?hd18 (by kernel_rfl) (by kernel_rfl) (by kernel_rfl) ?hQ18 ?hy18 hS ?rest18
              case hi18 => simp only [List.getElem?_toArray, List.getElem?_cons_zero, List.getElem?_cons_succ]; rfl
              case hd18 => rfl
              case hQ18 => exact fun _ _ _ h => h
              case hy18 => (refine Or.inl ⟨by rfl, ?_⟩; intro w hSw; (try dsimp only at hSw); go_simp; try with_reducible rfl)
              simp only [List.setIfInBounds_toArray, List.set_cons_zero, List.set_cons_succ]
              refine anyE_tk 1 31 (oi := ?oi19) (v := ?v19) ?hi19 ?hd19 (by kernel_rfl) (by kernel_rfl) (by kernel_rfl) ?hQ19 ?hy19 hS ?rest19
              case hi19 => simp only [List.getElem?_toArray, List.getElem?_cons_zero, List.getElem?_cons_succ]; rfl
              case hd19 => rfl
              case hQ19 => exact fun _ _ _ h => h
              case hy19 => (refine Or.inl ⟨by rfl, ?_⟩; intro w hSw; (try dsimp only at hSw); go_simp; try with_reducible rfl)
              simp only [List.setIfInBounds_toArray, List.set_cons_zero, List.set_cons_succ]
              refine anyE_tk 2 32 (oi := ?oi20) (v := ?v20) ?hi20 ?hd20 (by kernel_rfl) (by kernel_rfl) (by kernel_rfl) ?hQ20 ?hy20 hS ?rest20
              case hi20 => simp only [List.getElem?_toArray, List.getElem?_cons_zero, List.getElem?_cons_succ]; rfl
              case hd20 => rfl
              case hQ20 => exact fun _ _ _ h => h
              case hy20 => (refine Or.inl ⟨by rfl, ?_⟩; intro w hSw; (try dsimp only at hSw); go_simp; try with_reducible rfl)
              simp only [List.setIfInBounds_toArray, List.set_cons_zero, List.set_cons_succ]
              refine anyE_tk 3 33 (oi := ?oi21) (v := ?v21) ?hi21 ?hd21 (by kernel_rfl) (by kernel_rfl) (by kernel_rfl) ?hQ21 ?hy21 hS ?rest21
              case hi21 => simp only [List.getElem?_toArray, List.getElem?_cons_zero, List.getElem?_cons_succ]; rfl
              case hd21 => rfl
              case hQ21 => exact fun _ _ _ h => h
              case hy21 => (refine Or.inl ⟨by rfl, ?_⟩; intro w hSw; (try dsimp only at hSw); go_simp; try with_reducible rfl)
              simp only [List.setIfInBounds_toArray, List.set_cons_zero, List.set_cons_succ]
              refine anyE_tk 4 34 (oi := ?oi22) (v := ?v22) ?hi22 ?hd22 (by kernel_rfl) (by kernel_rfl) (by kernel_rfl) ?hQ22 ?hy22 hS ?rest22
              case hi22 => simp only [List.getElem?_toArray, List.getElem?_cons_zero, List.getElem?_cons_succ]; rfl
              case hd22 => rfl
              case hQ22 => exact fun _ _ _ h => h
              case hy22 => (refine Or.inl ⟨by rfl, ?_⟩; intro w hSw; (try dsimp only at hSw); go_simp; try with_reducible rfl)
              simp only [List.setIfInBounds_toArray, List.set_cons_zero, List.set_cons_succ]
              refine anyE_tk 5 35 (oi := ?oi23) (v := ?v23) ?hi23 ?hd23 (by kernel_rfl) (by kernel_rfl) (by kernel_rfl) ?hQ23 ?hy23 hS ?rest23
              case hi23 => simp only [List.getElem?_toArray, List.getElem?_cons_zero, List.getElem?_cons_succ]; rfl
              case hd23 => rfl
              case hQ23 => exact fun _ _ _ h => h
              case hy23 => (refine Or.inl ⟨by rfl, ?_⟩; intro w hSw; (try dsimp only at hSw); go_simp; try with_reducible rfl)
              simp only [List.setIfInBounds_toArray, List.set_cons_zero, List.set_cons_succ]
              clear hS
              refine anyE_one (i := 6) (o := ?oi24) (by kernel_rfl) ?hi24 (fun K hK => ?step24)
              case hi24 => simp only [List.getElem?_toArray, List.getElem?_cons_zero, List.getElem?_cons_succ]; rfl
              go_simp
              refine ci.out.mono ?_
              rintro e w7 ⟨rfl, hw7⟩
              subst w7
              go_wp2_with fail
              refine hK.out _ _ (fun _ => Keep.out) ?_
              clear hK K
              try simp only [Act.put, List.setIfInBounds_toArray, List.set_cons_zero, List.set_cons_succ]
              refine anyE_one (i := 7) (o := ?oi25) (by kernel_rfl) ?hi25 (fun K hK => ?step25)
              case hi25 => simp only [List.getElem?_toArray, List.getElem?_cons_zero, List.getElem?_cons_succ]; rfl
              go_simp
              go_wp2_with fail
              refine hK.out _ _ (fun _ => Keep.out) ?_
              clear hK K
              try simp only [Act.put, List.setIfInBounds_toArray, List.set_cons_zero, List.set_cons_succ]
              refine anyE_done (by kernel_rfl) ?_ _
              have HR1 := Lib.hid (HK1.out.below HRs2.out.2.2.2 HK1.out.lt)
              obtain ⟨t0, t1, t2, g0, g1, g2⟩ := blk3 HR1.out
              have hlR : w.heap.size + 1 < wi0.heap.size := HR1.out.lt
              clear s0 s1 y0 y1 y2
              obtain ⟨_, s1, _, _⟩ := blk2 HRs2.out.2.2.1
              go_wp2_with fail
              have HP := Lib.hid ((((Only.refl (w.heap.size + 1) wi0).put 0 (.int .i64 0)).put 1 (.slice none 0 0)).put 2 (.slice none 0 0))
              have HB2 := Lib.hid (((HR1.out.put 0 (.int .i64 0)).put 1 (.slice none 0 0)).put 2 (.slice none 0 0))
              have hlow := HB1.out.trans (HRs2.out.2.2.2.mono HB1.out.size)
              refine bodyPost_ret (results_cell_row2 rfl _ _ (w.heap.size + 1) 25 _ (0, 0) _ rfl HB2.out Tryd.underlying25 rfl (by kernel_rfl)) rfl ⟨.inr ⟨HNo.out, rfl⟩, hlow.trans (HP.out.below (Nat.le_succ _) hlow.size)⟩
          · have hix := idx_out hx
            rw [hix] at ciH
            have HSk := Lib.hid (HSkip.out hx)
            have HOk2 := Lib.hid (HOkS.out fun h => absurd h hx)
            go_wp2_with fail
            refine wp_region_E (S := fun W => W.cell? ⟨g, i * 2, none⟩ = some (.slice A1 np c1) ∧ W.cell? ⟨Gs, 0, none⟩ = some (.int .i64 x)) (E := fun _ => false) (by kernel_rfl) ?_
            have hbi : Below wr.heap.size wr wr.drew := (Below.refl _ _).drew
            have ci := Lib.hid (show Calls Tryd.prog 111 #[.slice A1 np c1, .int .i64 x] wr.drew fun e w' => e = .returned (.int .i64 (-1)) ∧ w' = wr.drew from by
              have := index_any A1 c1 wr.drew.heap.size (m[i]'him).1 x wr.drew (by have := Hnp.out; omega) (HI.out.below hbi hbi.size)
              rw [hix, ← Hnp.out] at this
              exact this)
            have Keep := Lib.hid (show wr.drew.cell? ⟨g, i * 2, none⟩ = some (.slice A1 np c1) ∧ wr.drew.cell? ⟨Gs, 0, none⟩ = some (.int .i64 x) from ⟨e0, s0⟩)
            have HIt2 := Lib.hid (HIt.out.below hbi)
            have HRs2 := Lib.hid (HRs.out.below hbi)
            have hgs2 : Gs < wr.drew.heap.size := Nat.lt_of_lt_of_le hgsw hbi.size
            generalize wr.drew = wi0 at *
            have hS := Keep.out
            clear hbi
            refine anyE_tk 0 30 (oi := ?oi26) (v := ?v26) ?hi26 ?hd26 (by kernel_rfl) (by kernel_rfl) (by kernel_rfl) ?hQ26 ?hy26 hS ?rest26
            case hi26 => simp only [List.getElem?_toArray, List.getElem?_cons_zero, List.getElem?_cons_succ]; rfl
            case hd26 => rfl
            case hQ26 => exact fun _ _ _ h => h
            case hy26 => (refine Or.inl ⟨by rfl, ?_⟩; intro w hSw; (try dsimp only at hSw); go_simp; try with_reducible rfl)
            simp only [List.setIfInBounds_toArray, List.set_cons_zero, List.set_cons_succ]
            refine anyE_tk 1 31 (oi := ?oi27) (v := ?v27) ?hi27 ?hd27 (by kernel_rfl) (by kernel_rfl) (by kernel_rfl) ?hQ27 ?hy27 hS ?rest27
            case hi27 => simp only [List.getElem?_toArray, List.getElem?_cons_zero, List.getElem?_cons_succ]; rfl
            case hd27 => rfl
            case hQ27 => exact fun _ _ _ h => h
            case hy27 => (refine Or.inl ⟨by rfl, ?_⟩; intro w hSw; (try dsimp only at hSw); go_simp; try with_reducible rfl)
            simp only [List.setIfInBounds_toArray, List.set_cons_zero, List.set_cons_succ]
            refine anyE_tk 2 32 (oi := ?oi28) (v := ?v28) ?hi28 ?hd28 (by kernel_rfl) (by kernel_rfl) (by kernel_rfl) ?hQ28 ?hy28 hS ?rest28
            case hi28 => simp only [List.getElem?_toArray, List.getElem?_cons_zero, List.getElem?_cons_succ]; rfl
            case hd28 => rfl
            case hQ28 => exact fun _ _ _ h => h
            case hy28 => (refine Or.inl ⟨by rfl, ?_⟩; intro w hSw; (try dsimp only at hSw); go_simp; try with_reducible rfl)
            simp only [List.setIfInBounds_toArray, List.set_cons_zero, List.set_cons_succ]
            refine anyE_tk 3 33 (oi := ?oi29) (v := ?v29) ?hi29 ?hd29 (by kernel_rfl) (by kernel_rfl) (by kernel_rfl) ?hQ29 ?hy29 hS ?rest29
            case hi29 => simp only [List.getElem?_toArray, List.getElem?_cons_zero, List.getElem?_cons_succ]; rfl
            case hd29 => rfl
            case hQ29 => exact fun _ _ _ h => h
            case hy29 => (refine Or.inl ⟨by rfl, ?_⟩; intro w hSw; (try dsimp only at hSw); go_simp; try with_reducible rfl)
            simp only [List.setIfInBounds_toArray, List.set_cons_zero, List.set_cons_succ]
            refine anyE_tk 4 34 (oi := ?oi30) (v := ?v30) ?hi30 ?hd30 (by kernel_rfl) (by kernel_rfl) (by kernel_rfl) ?hQ30 ?hy30 hS ?rest30
            case hi30 => simp only [List.getElem?_toArray, List.getElem?_cons_zero, List.getElem?_cons_succ]; rfl
            case hd30 => rfl
            case hQ30 => exact fun _ _ _ h => h
            case hy30 => (refine Or.inl ⟨by rfl, ?_⟩; intro w hSw; (try dsimp only at hSw); go_simp; try with_reducible rfl)
            simp only [List.setIfInBounds_toArray, List.set_cons_zero, List.set_cons_succ]
            refine anyE_tk 5 35 (oi := ?oi31) (v := ?v31) ?hi31 ?hd31 (by kernel_rfl) (by kernel_rfl) (by kernel_rfl) ?hQ31 ?hy31 hS ?rest31
            case hi31 => simp only [List.getElem?_toArray, List.getElem?_cons_zero, List.getElem?_cons_succ]; rfl
            case hd31 => rfl
            case hQ31 => exact fun _ _ _ h => h
            case hy31 => (refine Or.inl ⟨by rfl, ?_⟩; intro w hSw; (try dsimp only at hSw); go_simp; try with_reducible rfl)
            simp only [List.setIfInBounds_toArray, List.set_cons_zero, List.set_cons_succ]
            clear hS
            refine anyE_one (i := 6) (o := ?oi32) (by kernel_rfl) ?hi32 (fun K hK => ?step32)
            case hi32 => simp only [List.getElem?_toArray, List.getElem?_cons_zero, List.getElem?_cons_succ]; rfl
            go_simp
            refine ci.out.mono ?_
            rintro e w7 ⟨rfl, hw7⟩
            subst w7
            go_wp2_with fail
            refine hK.out _ _ (fun _ => Keep.out) ?_
            clear hK K
            try simp only [Act.put, List.setIfInBounds_toArray, List.set_cons_zero, List.set_cons_succ]
            refine anyE_one (i := 7) (o := ?oi33) (by kernel_rfl) ?hi33 (fun K hK => ?step33)
            case hi33 => simp only [List.getElem?_toArray, List.getElem?_cons_zero, List.getElem?_cons_succ]; rfl
            go_simp
            go_wp2_with fail
            refine hK.out _ _ (fun _ => Keep.out) ?_
            clear hK K
            try simp only [Act.put, List.setIfInBounds_toArray, List.set_cons_zero, List.set_cons_succ]
            refine anyE_done (by kernel_rfl) ?_ _
            go_wp2_with fail
            go_roundw
            case rel => exact ⟨i + 1, ps, by omega, by go_num, by rw [← HSk.out]; exact HIt2.out, HIn.out, HRs2.out, HOk2.out, hgs2⟩
            case measure => simp [intOf]; omega
        · obtain rfl : i = b.its.length := by omega
          have hOk := HGo.out (fun k hk hx => HOk.out k hk (by rw [← HMl.out]; exact hk) hx)
          have HEx2 := Lib.hid hOk
          have HIt2 := Lib.hid (show ItP W1.heap.size (.slice AI' b.its.length cI') wr ps (exK m (x, y) m.length) by rw [HMl.out]; exact HIt.out)
          have HIn2 := Lib.hid (HIn.out.imp (NB' := fun b => b < mid ∨ G + 1 ≤ b) fun q hq => hq.1)
          clear hOk
          go_wp2_with fail
          go_roundw
          case rel => exact ⟨j + 1, _, ps, by omega, by go_num, HEx2.out, HIt2.out, HIn2.out, HRs.out.1, HRs.out.2.1, HRs.out.2.2.2, (by have := Hgs.out; omega : G + 1 ≤ wr.heap.size)⟩
          case measure => simp [intOf]; omega
    · obtain rfl : j = ss.length := by omega
      have HR1 := Lib.hid (HK1.out.below HBr.out HK1.out.lt)
      obtain ⟨t0, t1, t2, g0, g1, g2⟩ := blk3 HR1.out
      have hlR : w.heap.size + 1 < wr.heap.size := HR1.out.lt
      have HM := Lib.hid (HAll.out m HEx.out)
      go_wp2_with fail
      have HP := Lib.hid ((((Only.refl (w.heap.size + 1) wr).put 0 (.int .i64 b.p)).put 1 (.slice AI' b.its.length cI')).put 2 (.slice AR' b.rus.length cR'))
      have HB2 := Lib.hid (((HR1.out.put 0 (.int .i64 b.p)).put 1 (.slice AI' b.its.length cI')).put 2 (.slice AR' b.rus.length cR'))
      have hlow := HB1.out.trans (HBr.out.mono HB1.out.size)
      refine bodyPost_ret (results_cell_row2 rfl _ _ (w.heap.size + 1) 25 _ (0, 0) _ rfl HB2.out Tryd.underlying25 rfl (by kernel_rfl)) rfl ⟨.inl ⟨m, AI', AR', cI', cR', HM.out, rfl, ?_, ?_⟩, hlow.trans (HP.out.below (Nat.le_succ _) hlow.size)⟩
      · exact (HIt.out.only HP.out HS0.out).itsN HMl.out.symm fun q hq => Nat.le_trans HB1.out.size hq
      · exact (HRu.out.keep (fun q hq e => by have := hq.1; have := Hmid.out.1; have := HS0.out; omega) HP.out).imp fun q hq => by have := hq.1; have := Hmid.out.1; have := HB1.out.size; omega
end Go.Proofs.YtgoojcjfhghmgaaDoor


set_option linter.unusedSimpArgs false
set_option linter.unusedVariables false
namespace Go.Proofs.YtgoojcjfhghmgaaDoor
open Go Go.RowKit

section
variable {P : Program} {md : Region.Mode} {ops : Array Oper} {Q : Exit → Act → World → Prop} {S : World → Prop} {E : Nat → Bool}
theorem anyE_two {i j : Nat} {oi oj : Oper} {n : Nat} {listed : Array Bool} {a : Act} {w : World} (hr : Region.ready md ops listed = [i, j]) (hi : ops[i]? = some oi) (hj : ops[j]? = some oj)
    (h1 : ∀ K' : Act → World → Prop, Go.Shut (∀ a w, (E i = false → S w) → anyE P md ops Q S E n (listed.setIfInBounds i true) a w → K' a w) → if Region.wanted oi (yielded ops a.tmps) = true then Oper.wp P oi a w K' Q else K' (a.put oi.dst undef) w)
    (h2 : ∀ K' : Act → World → Prop, Go.Shut (∀ a w, (E j = false → S w) → anyE P md ops Q S E n (listed.setIfInBounds j true) a w → K' a w) → if Region.wanted oj (yielded ops a.tmps) = true then Oper.wp P oj a w K' Q else K' (a.put oj.dst undef) w) :
    anyE P md ops Q S E (n + 1) listed a w :=
  anyE_all hr (by simp) fun q hq => by
    rcases List.mem_cons.1 hq with rfl | hq
    · exact wpOp_step hi fun K' hK => h1 K' fun a w hS hW => hK a w ⟨hS, hW⟩
    · rw [List.mem_singleton] at hq
      subst hq
      exact wpOp_step hj fun K' hK => h2 K' fun a w hS hW => hK a w ⟨hS, hW⟩
end

set_option maxRecDepth 100000 in
set_option maxHeartbeats 16000000 in
theorem exchanged_ref (AI AR : Option Addr) (cI cR : Nat) (A : Option Addr) (c B : Nat) (b : Bk) (ss : List (Int × Int)) (w : World) (hB : B ≤ w.heap.size) (h : ItsAt B w AI b.its) (h' : RusAt B w AR b.rus) (hs : Short b) (ho : Ord b.its) (hp : PairsAt B w A ss) (h8 : ss.length ≤ 8) (hsw : ∀ s ∈ ss, 0 ≤ s.1 ∧ s.1 < (b.its.length : Int) ∧ 0 ≤ s.2 ∧ s.2 < (b.its.length : Int)) :
    Calls Tryd.prog 97 #[.agg #[.int .i64 b.p, .slice AI b.its.length cI, .slice AR b.rus.length cR], .slice A ss.length c] w fun e w' =>
      ((∃ m AI' AR' cI' cR', exN b.its ss = some m ∧ e = .returned (.tuple #[.agg #[.int .i64 b.p, .slice AI' b.its.length cI', .slice AR' b.rus.length cR'], .bool true]) ∧ ItsN (fun q => w.heap.size ≤ q) w' AI' m ∧ RusN (fun q => w.heap.size ≤ q) w' AR' b.rus) ∨
        (exN b.its ss = none ∧ e = .returned (.tuple #[.agg #[.int .i64 b.p, .slice AI b.its.length cI, .slice AR b.rus.length cR], .bool false]))) ∧ Below w.heap.size w w' := by
  have hT := h.below (Below.refl _ _) hB
  have hT' := h'.below (Below.refl _ _) hB
  have HP := Lib.hid (hp.below (Below.refl _ _) hB)
  have cc := Lib.hid (fun W (hW : Below w.heap.size w W) => Copy_apart AI AR cI cR w.heap.size b W hW.size (hT.below hW (Nat.le_refl _)) (hT'.below hW (Nat.le_refl _)) hs)
  have nI := hs.1
  have nR := hs.2.1
  have HFa := Lib.hid (fun (j : Nat) (m : List It) (hj : j ≤ ss.length) (he : exN b.its (ss.take j) = some m) => exN_len ho (fun s hs => (hsw s hs).2.2.1) hj he hs.2.2.1)
  have HGood := Lib.hid (fun (j : Nat) (m : List It) (hj : j < ss.length) (he : exN b.its (ss.take j) = some m) (hk : exOk m ss[j]) => exN_good hj he hk)
  have HBad := Lib.hid (fun (j : Nat) (m : List It) (hj : j < ss.length) (he : exN b.its (ss.take j) = some m) (hk : ¬ exOk m ss[j]) => exN_bad hj he hk)
  have HAll := Lib.hid (fun (m : List It) (he : exN b.its (ss.take ss.length) = some m) => show exN b.its ss = some m from by rwa [List.take_length] at he)
  have HNil := Lib.hid (show exN b.its (ss.take 0) = some b.its from by rw [List.take_zero]; exact exN_nil _)
  have HSw := Lib.hid (fun (j : Nat) (hj : j < ss.length) => hsw ss[j] (List.getElem_mem hj))
  have HRs := Lib.hid hs.2.2.2
  clear h h' hp hs ho hT hT' hB hsw
  go_enter Tryd.func97, Tryd.ntmps97
  go_wp2_with fail
  generalize hW1 : (w.alloc (.cells #[.int .i64 b.p, .slice AI b.its.length cI, .slice AR b.rus.length cR] 25)).alloc (.cells #[.int .i64 0, .slice none 0 0, .slice none 0 0] 25) = W1
  have HB1 := Lib.hid (show Below w.heap.size w W1 by rw [← hW1]; exact balloc (balloc (Below.refl _ _) _) _)
  have HK0 := Lib.hid (show Blk W1 w.heap.size 25 #[.int .i64 b.p, .slice AI b.its.length cI, .slice AR b.rus.length cR] by rw [← hW1]; exact (Blk.new _ _ _).alloc _)
  have HK1 := Lib.hid (show Blk W1 (w.heap.size + 1) 25 #[.int .i64 0, .slice none 0 0, .slice none 0 0] by rw [← hW1]; exact blk_new' (by simp))
  have HS0 := Lib.hid (show w.heap.size + 1 < W1.heap.size from HK1.out.lt)
  clear hW1
  obtain ⟨x0, x1, x2, _⟩ := blk3 HK0.out
  go_wp2_with (go_at_call 19; refine (cc.out _ HB1.out).mono ?_; rintro e w2 ⟨AI', AR', cI', cR', ps, lo, rfl, hlo, hit, hru, hb2⟩)
  clear x0 x1 x2
  generalize hW3 : w2.alloc (.cells #[.int .i64 b.p, .slice AI' b.its.length cI', .slice AR' b.rus.length cR'] 25) = w3
  have hb23 : Below w2.heap.size w2 w3 := by rw [← hW3]; exact balloc (Below.refl _ _) _
  have HKG := Lib.hid (show Blk w3 w2.heap.size 25 #[.int .i64 b.p, .slice AI' b.its.length cI', .slice AR' b.rus.length cR'] by rw [← hW3]; exact Blk.new _ _ _)
  have HIt := Lib.hid (((hit.itM.itsN rfl (N := fun q => lo ≤ q) fun q h => h).imp (N' := fun q => q ≠ w2.heap.size ∧ w.heap.size + 1 < q) fun q h1 h2 => ⟨by omega, by have := HS0.out; omega⟩).below hb23)
  have HRu := Lib.hid ((hru.lt.imp (N' := fun q => q ≠ w2.heap.size ∧ w.heap.size + 1 < q) fun q h1 => ⟨by have := h1.2; omega, by have := HS0.out; have := h1.1.1; omega⟩).below hb23)
  have HB3 := Lib.hid (hb2.trans (hb23.mono hb2.size))
  have HGw := Lib.hid (show W1.heap.size ≤ w2.heap.size from hb2.size)
  clear hW3 hit hru hlo hb23 hb2 cc
  generalize w2.heap.size = G at *
  go_loopw [7] (fun vi wr => ∃ (i : Nat) (m : List It) (AIx ARx : Option Addr) (cIx cRx : Nat), i ≤ ss.length ∧ vi = .int .i64 i ∧ Aside (exN b.its (ss.take i) = some m) ∧ Aside (Blk wr G 25 #[.int .i64 b.p, .slice AIx b.its.length cIx, .slice ARx b.rus.length cRx]) ∧ Aside (ItsN (fun q => q ≠ G ∧ w.heap.size + 1 < q) wr AIx m) ∧ Aside (RusN (fun q => q ≠ G ∧ w.heap.size + 1 < q) wr ARx b.rus) ∧ Aside (Below W1.heap.size W1 wr)) (fun vi _ => ss.length - (intOf vi).toNat)
  case atStart => exact ⟨0, b.its, AI', AR', cI', cR', Nat.zero_le _, rfl, HNil.out, HKG.out, HIt.out, HRu.out, HB3.out⟩
  case round =>
    clear HIt HRu HKG HB3
    obtain ⟨i, m, AIx, ARx, cIx, cRx, hi, rfl, hex, hbl, hit, hru, hbr⟩ := hrel
    have HEx0 := Lib.hid hex.out
    have HIt := Lib.hid hit.out
    have HRu := Lib.hid hru.out
    have HBl := Lib.hid hbl.out
    have HBr := Lib.hid hbr.out
    obtain ⟨hOrd, hml, hm40⟩ := HFa.out i m hi HEx0.out
    have HOrd := Lib.hid hOrd
    have HMl := Lib.hid hml
    have HM40 := Lib.hid hm40
    obtain ⟨y0, y1, y2, _, _, _⟩ := blk3 hbl.out
    have hGr : G < wr.heap.size := hbl.out.lt
    clear hex hbl hit hru hbr hOrd hml hm40
    by_cases hlti : i < ss.length
    · have Hpw := HP.out.below (HB1.out.trans (HBr.out.mono HB1.out.size)) (Nat.le_refl _)
      obtain ⟨ga, oa, rfl, hga, p0, p1⟩ := Hpw.at hlti
      have hgaw : ga < wr.heap.size := Nat.lt_of_lt_of_le hga (Nat.le_trans HB1.out.size HBr.out.size)
      have hiI : (i : Int) < (ss.length : Int) := by omega
      have hi0 : (0 : Int) ≤ (i : Int) := by omega
      have HGo0 := Lib.hid (HGood.out i m hlti HEx0.out)
      have HBa0 := Lib.hid (HBad.out i m hlti HEx0.out)
      have hsw := HSw.out i hlti
      clear Hpw
      generalize ss[i] = s at *
      obtain ⟨x', y'⟩ := s
      simp only at p0 p1 hsw
      obtain ⟨x, rfl⟩ := Int.eq_ofNat_of_zero_le hsw.1
      obtain ⟨y, rfl⟩ := Int.eq_ofNat_of_zero_le hsw.2.2.1
      have hxl : x < m.length := by rw [HMl.out]; have := hsw.2.1; omega
      have hyl : y < m.length := by rw [HMl.out]; have := hsw.2.2.2; omega
      have HGo := Lib.hid (show exOk m ((x : Int), (y : Int)) → exN b.its (ss.take (i + 1)) = some (exK m ((x : Int), (y : Int)) m.length) from HGo0.out)
      have HBa := Lib.hid (show ¬ exOk m ((x : Int), (y : Int)) → exN b.its ss = none from HBa0.out)
      have cw0 := Lib.hid (fun (W : World) (hW : Below wr.heap.size wr W) => show Calls Tryd.prog 113 #[.agg #[.int .i64 b.p, .slice AIx b.its.length cIx, .slice ARx b.rus.length cRx], .agg #[.int .i64 (x : Int), .int .i64 (y : Int)]] W fun e w' =>
          ((∃ AI' AR' cI' cR', exOk m ((x : Int), (y : Int)) ∧ e = .returned (.tuple #[.agg #[.int .i64 b.p, .slice AI' b.its.length cI', .slice AR' b.rus.length cR'], .bool true]) ∧ ItsN (fun q => W.heap.size ≤ q) w' AI' (exK m ((x : Int), (y : Int)) m.length) ∧ RusN (fun q => W.heap.size ≤ q) w' AR' b.rus) ∨
            (¬ exOk m ((x : Int), (y : Int)) ∧ e = .returned (.tuple #[.agg #[.int .i64 b.p, .slice AIx b.its.length cIx, .slice ARx b.rus.length cRx], .bool false]))) ∧ Below W.heap.size W w' from by
        have := swapped_ref AIx ARx cIx cRx W.heap.size x y ⟨b.p, m, b.rus⟩ W (Nat.le_refl _) (HIt.out.at.below hW hW.size) (HRu.out.at.below hW hW.size) ⟨by rw [HMl.out]; exact nI, nR, HM40.out, HRs.out⟩ HOrd.out hxl hyl
        simp only [HMl.out] at this ⊢
        exact this)
      clear hsw HGo0 HBa0 HEx0
      go_wp2_with fail
      have hbi : Below wr.heap.size wr wr.drew := (Below.refl _ _).drew
      refine wp_region_E (S := fun W => W.cell? ⟨G, 0, none⟩ = some (.int .i64 b.p) ∧ W.cell? ⟨G, 1, none⟩ = some (.slice AIx b.its.length cIx) ∧ W.cell? ⟨G, 2, none⟩ = some (.slice ARx b.rus.length cRx) ∧ W.cell? ⟨ga, oa + i * 2, none⟩ = some (.int .i64 (x : Int)) ∧ W.cell? ⟨ga, oa + i * 2 + 1, none⟩ = some (.int .i64 (y : Int))) (E := fun _ => false) (by kernel_rfl) ?_
      generalize wr.drew = wi0 at hbi ⊢
      have HBc := Lib.hid (Below.refl wi0.heap.size wi0)
      have Keep := Lib.hid (show ∀ W, Below wi0.heap.size wi0 W → W.cell? ⟨G, 0, none⟩ = some (.int .i64 b.p) ∧ W.cell? ⟨G, 1, none⟩ = some (.slice AIx b.its.length cIx) ∧ W.cell? ⟨G, 2, none⟩ = some (.slice ARx b.rus.length cRx) ∧ W.cell? ⟨ga, oa + i * 2, none⟩ = some (.int .i64 (x : Int)) ∧ W.cell? ⟨ga, oa + i * 2 + 1, none⟩ = some (.int .i64 (y : Int)) from fun W hW => by
        have hbb := hbi.trans (hW.mono hbi.size)
        exact ⟨(hbb.cell (p := ⟨G, 0, none⟩) hGr).trans y0, (hbb.cell (p := ⟨G, 1, none⟩) hGr).trans y1, (hbb.cell (p := ⟨G, 2, none⟩) hGr).trans y2, (hbb.cell (p := ⟨ga, oa + i * 2, none⟩) hgaw).trans p0, (hbb.cell (p := ⟨ga, oa + i * 2 + 1, none⟩) hgaw).trans p1⟩)
      have cw := Lib.hid (fun (W : World) (hW : Below wi0.heap.size wi0 W) => cw0.out W (hbi.trans (hW.mono hbi.size)))
      have hS := Keep.out _ HBc.out
      clear y0 y1 y2 p0 p1 cw0
      refine anyE_tk 0 19 (oi := ?oi1) (v := ?v1) ?hi1 ?hd1 (by kernel_rfl) (by kernel_rfl) (by kernel_rfl) ?hQ1 ?hy1 hS ?rest1
      case hi1 => simp only [List.getElem?_toArray, List.getElem?_cons_zero, List.getElem?_cons_succ]; rfl
      case hd1 => rfl
      case hQ1 => exact fun _ _ _ h => h
      case hy1 => (refine Or.inl ⟨by rfl, ?_⟩; intro w hSw; (try dsimp only at hSw); go_simp; try with_reducible rfl)
      simp only [List.setIfInBounds_toArray, List.set_cons_zero, List.set_cons_succ]
      refine anyE_tk 1 20 (oi := ?oi2) (v := ?v2) ?hi2 ?hd2 (by kernel_rfl) (by kernel_rfl) (by kernel_rfl) ?hQ2 ?hy2 hS ?rest2
      case hi2 => simp only [List.getElem?_toArray, List.getElem?_cons_zero, List.getElem?_cons_succ]; rfl
      case hd2 => rfl
      case hQ2 => exact fun _ _ _ h => h
      case hy2 => (refine Or.inl ⟨by rfl, ?_⟩; intro w hSw; (try dsimp only at hSw); go_simp; try with_reducible rfl)
      simp only [List.setIfInBounds_toArray, List.set_cons_zero, List.set_cons_succ]
      refine anyE_tk 2 21 (oi := ?oi3) (v := ?v3) ?hi3 ?hd3 (by kernel_rfl) (by kernel_rfl) (by kernel_rfl) ?hQ3 ?hy3 hS ?rest3
      case hi3 => simp only [List.getElem?_toArray, List.getElem?_cons_zero, List.getElem?_cons_succ]; rfl
      case hd3 => rfl
      case hQ3 => exact fun _ _ _ h => h
      case hy3 => (refine Or.inl ⟨by rfl, ?_⟩; intro w hSw; (try dsimp only at hSw); go_simp; try with_reducible rfl)
      simp only [List.setIfInBounds_toArray, List.set_cons_zero, List.set_cons_succ]
      refine anyE_tk 3 22 (oi := ?oi4) (v := ?v4) ?hi4 ?hd4 (by kernel_rfl) (by kernel_rfl) (by kernel_rfl) ?hQ4 ?hy4 hS ?rest4
      case hi4 => simp only [List.getElem?_toArray, List.getElem?_cons_zero, List.getElem?_cons_succ]; rfl
      case hd4 => rfl
      case hQ4 => exact fun _ _ _ h => h
      case hy4 => (refine Or.inl ⟨by rfl, ?_⟩; intro w hSw; (try dsimp only at hSw); go_simp; try with_reducible rfl)
      simp only [List.setIfInBounds_toArray, List.set_cons_zero, List.set_cons_succ]
      refine anyE_tk 4 23 (oi := ?oi5) (v := ?v5) ?hi5 ?hd5 (by kernel_rfl) (by kernel_rfl) (by kernel_rfl) ?hQ5 ?hy5 hS ?rest5
      case hi5 => simp only [List.getElem?_toArray, List.getElem?_cons_zero, List.getElem?_cons_succ]; rfl
      case hd5 => rfl
      case hQ5 => exact fun _ _ _ h => h
      case hy5 => (refine Or.inl ⟨by rfl, ?_⟩; intro w hSw; (try dsimp only at hSw); go_simp; try with_reducible rfl)
      simp only [List.setIfInBounds_toArray, List.set_cons_zero, List.set_cons_succ]
      clear hS
      refine anyE_two (i := 5) (j := 9) (oi := ?oi6) (oj := ?oj6) (by kernel_rfl) ?hi6 ?hj6 (fun K hK => ?step6) (fun K hK => ?step7)
      case hi6 => simp only [List.getElem?_toArray, List.getElem?_cons_zero, List.getElem?_cons_succ]; rfl
      case hj6 => simp only [List.getElem?_toArray, List.getElem?_cons_zero, List.getElem?_cons_succ]; rfl
      case step6 =>
        go_simp
        refine (cw.out _ HBc.out).mono ?_
        rintro e w7 ⟨⟨AI2, AR2, cI2, cR2, hex, rfl, hit2, hru2⟩ | ⟨hno, rfl⟩, hd7⟩
        · skip
          have HB7 := Lib.hid (HBc.out.trans (hd7.mono HBc.out.size))
          have HI2 := Lib.hid hit2
          have HR2 := Lib.hid hru2
          have HEx := Lib.hid hex
          clear hit2 hru2 hex
          clear hd7
          go_wp2_with fail
          refine hK.out _ _ (fun _ => Keep.out _ HB7.out) ?_
          clear hK K
          try simp only [Act.put, List.setIfInBounds_toArray, List.set_cons_zero, List.set_cons_succ]
          refine anyE_tk 6 18 (oi := ?oi8) (v := ?v8) ?hi8 ?hd8 (by kernel_rfl) (by kernel_rfl) (by kernel_rfl) ?hQ8 ?hy8 (Keep.out _ HB7.out) ?rest8
          case hi8 => simp only [List.getElem?_toArray, List.getElem?_cons_zero, List.getElem?_cons_succ]; rfl
          case hd8 => rfl
          case hQ8 => exact fun _ _ _ h => h
          case hy8 => (refine Or.inl ⟨by rfl, ?_⟩; intro w hSw; (try dsimp only at hSw); go_simp; try with_reducible rfl)
          simp only [List.setIfInBounds_toArray, List.set_cons_zero, List.set_cons_succ]
          refine anyE_tk 7 25 (oi := ?oi9) (v := ?v9) ?hi9 ?hd9 (by kernel_rfl) (by kernel_rfl) (by kernel_rfl) ?hQ9 ?hy9 (Keep.out _ HB7.out) ?rest9
          case hi9 => simp only [List.getElem?_toArray, List.getElem?_cons_zero, List.getElem?_cons_succ]; rfl
          case hd9 => rfl
          case hQ9 => exact fun _ _ _ h => h
          case hy9 => (refine Or.inl ⟨by rfl, ?_⟩; intro w hSw; (try dsimp only at hSw); go_simp; try with_reducible rfl)
          simp only [List.setIfInBounds_toArray, List.set_cons_zero, List.set_cons_succ]
          refine anyE_tk 8 26 (oi := ?oi10) (v := ?v10) ?hi10 ?hd10 (by kernel_rfl) (by kernel_rfl) (by kernel_rfl) ?hQ10 ?hy10 (Keep.out _ HB7.out) ?rest10
          case hi10 => simp only [List.getElem?_toArray, List.getElem?_cons_zero, List.getElem?_cons_succ]; rfl
          case hd10 => rfl
          case hQ10 => exact fun _ _ _ h => h
          case hy10 => (refine Or.inl ⟨by rfl, ?_⟩; intro w hSw; (try dsimp only at hSw); go_simp; try with_reducible rfl)
          simp only [List.setIfInBounds_toArray, List.set_cons_zero, List.set_cons_succ]
          refine anyE_one (i := 9) (o := ?oi11) (by kernel_rfl) ?hi11 (fun K hK => ?step11)
          case hi11 => simp only [List.getElem?_toArray, List.getElem?_cons_zero, List.getElem?_cons_succ]; rfl
          go_simp
          have HB7z := Lib.hid HB7.out
          have H9 := Lib.hid (Blk.new w7 25 #[.int .i64 0, .slice none 0 0, .slice none 0 0])
          have HB7 := Lib.hid (balloc HB7.out (.cells #[.int .i64 0, .slice none 0 0, .slice none 0 0] 25))
          have HX9 := Lib.hid (show wi0.heap.size ≤ w7.heap.size from HB7z.out.size)
          have HI2 := Lib.hid ((HI2.out.imp (N' := fun q => wi0.heap.size ≤ q ∧ q ≠ w7.heap.size) fun q h1 h2 => ⟨Nat.le_trans HBc.out.size h1, by omega⟩).below (balloc (Below.refl _ _) (.cells #[.int .i64 0, .slice none 0 0, .slice none 0 0] 25)))
          have HR2 := Lib.hid (((HR2.out.lt).imp (N' := fun q => wi0.heap.size ≤ q ∧ q ≠ w7.heap.size) fun q h1 => ⟨Nat.le_trans HBc.out.size h1.1, by have := h1.2; omega⟩).below (balloc (Below.refl _ _) (.cells #[.int .i64 0, .slice none 0 0, .slice none 0 0] 25)))
          generalize hW9 : w7.alloc (.cells #[.int .i64 0, .slice none 0 0, .slice none 0 0] 25) = w9 at *
          clear hW9
          generalize w7.heap.size = x9 at *
          refine hK.out _ _ (fun _ => Keep.out _ HB7.out) ?_
          clear hK K
          try simp only [Act.put, List.setIfInBounds_toArray, List.set_cons_zero, List.set_cons_succ]
          obtain ⟨n0, n1, n2, f0, f1, f2⟩ := blk3 H9.out
          have hx9l := H9.out.lt
          have HP := Lib.hid ((((Only.refl x9 w9).put 0 (.int .i64 b.p)).put 1 (.slice AI2 b.its.length cI2)).put 2 (.slice AR2 b.rus.length cR2))
          have H9p := Lib.hid (show Blk _ x9 25 #[.int .i64 b.p, .slice AI2 b.its.length cI2, .slice AR2 b.rus.length cR2] from ((H9.out.put 0 (.int .i64 b.p)).put 1 (.slice AI2 b.its.length cI2)).put 2 (.slice AR2 b.rus.length cR2))
          have HB8 := Lib.hid (HB7.out.trans (HP.out.below HX9.out HB7.out.size))
          have HI3 := Lib.hid (HI2.out.keep (fun q hq => hq.2) HP.out)
          have HR3 := Lib.hid (HR2.out.keep (fun q hq => hq.2) HP.out)
          refine anyE_one (i := 10) (o := ?oi12) (by kernel_rfl) ?hi12 (fun K hK => ?step12)
          case hi12 => simp only [List.getElem?_toArray, List.getElem?_cons_zero, List.getElem?_cons_succ]; rfl
          go_simp
          go_wp2_with fail
          refine hK.out _ _ (fun _ => Keep.out _ HB8.out) ?_
          clear hK K
          try simp only [Act.put, List.setIfInBounds_toArray, List.set_cons_zero, List.set_cons_succ]
          refine anyE_one (i := 11) (o := ?oi13) (by kernel_rfl) ?hi13 (fun K hK => ?step13)
          case hi13 => simp only [List.getElem?_toArray, List.getElem?_cons_zero, List.getElem?_cons_succ]; rfl
          go_simp
          go_wp2_with fail
          refine hK.out _ _ (fun _ => Keep.out _ HB8.out) ?_
          clear hK K
          try simp only [Act.put, List.setIfInBounds_toArray, List.set_cons_zero, List.set_cons_succ]
          refine anyE_done (by kernel_rfl) ?_ _
          generalize hWD : (((w9.setCell ⟨x9, 0, none⟩ (.int .i64 b.p)).setCell ⟨x9, 1, none⟩ (.slice AI2 b.its.length cI2)).setCell ⟨x9, 2, none⟩ (.slice AR2 b.rus.length cR2)) = wd at *
          clear hWD n0 n1 n2 f0 f1 f2
          have hbd := hbi.trans (HB8.out.mono hbi.size)
          have HBl3 := Lib.hid (HBl.out.below hbd hGr)
          have HBr3 := Lib.hid (HBr.out.trans (hbd.mono HBr.out.size))
          obtain ⟨n0, n1, n2, _, _, _⟩ := blk3 H9p.out
          obtain ⟨y0, y1, y2, f0, f1, f2⟩ := blk3 HBl3.out
          have hGd := HBl3.out.lt
          obtain ⟨b0, b1, b2, _⟩ := blk3 (HK0.out.below HBr3.out HK0.out.lt)
          have HEx2 := Lib.hid (HGo.out HEx.out)
          go_wp2_with fail
          have HQ := Lib.hid ((((Only.refl G wd).put 0 (.int .i64 b.p)).put 1 (.slice AI2 b.its.length cI2)).put 2 (.slice AR2 b.rus.length cR2))
          go_roundw
          case rel => exact ⟨i + 1, _, AI2, AR2, cI2, cR2, by omega, by go_num, HEx2.out, ((HBl3.out.put 0 _).put 1 _).put 2 _, (HI3.out.imp (N' := fun q => q ≠ G ∧ w.heap.size + 1 < q) fun q h1 h2 => ⟨by have := hbi.size; omega, by have := hbi.size; have := HS0.out; have := HBr.out.size; omega⟩).keep (fun q hq => hq.1) HQ.out, (HR3.out.imp (N' := fun q => q ≠ G ∧ w.heap.size + 1 < q) fun q h1 => ⟨by have := hbi.size; omega, by have := hbi.size; have := HS0.out; have := HBr.out.size; omega⟩).keep (fun q hq => hq.1) HQ.out, HBr3.out.trans (HQ.out.below HGw.out HBr3.out.size)⟩
          case measure => simp [intOf]; omega
        · skip
          have HB7 := Lib.hid (HBc.out.trans (hd7.mono HBc.out.size))
          have HNo := Lib.hid hno
          clear hno
          clear hd7
          go_wp2_with fail
          refine hK.out _ _ (fun _ => Keep.out _ HB7.out) ?_
          clear hK K
          try simp only [Act.put, List.setIfInBounds_toArray, List.set_cons_zero, List.set_cons_succ]
          refine anyE_tk 6 18 (oi := ?oi14) (v := ?v14) ?hi14 ?hd14 (by kernel_rfl) (by kernel_rfl) (by kernel_rfl) ?hQ14 ?hy14 (Keep.out _ HB7.out) ?rest14
          case hi14 => simp only [List.getElem?_toArray, List.getElem?_cons_zero, List.getElem?_cons_succ]; rfl
          case hd14 => rfl
          case hQ14 => exact fun _ _ _ h => h
          case hy14 => (refine Or.inl ⟨by rfl, ?_⟩; intro w hSw; (try dsimp only at hSw); go_simp; try with_reducible rfl)
          simp only [List.setIfInBounds_toArray, List.set_cons_zero, List.set_cons_succ]
          refine anyE_tk 7 25 (oi := ?oi15) (v := ?v15) ?hi15 ?hd15 (by kernel_rfl) (by kernel_rfl) (by kernel_rfl) ?hQ15 ?hy15 (Keep.out _ HB7.out) ?rest15
          case hi15 => simp only [List.getElem?_toArray, List.getElem?_cons_zero, List.getElem?_cons_succ]; rfl
          case hd15 => rfl
          case hQ15 => exact fun _ _ _ h => h
          case hy15 => (refine Or.inl ⟨by rfl, ?_⟩; intro w hSw; (try dsimp only at hSw); go_simp; try with_reducible rfl)
          simp only [List.setIfInBounds_toArray, List.set_cons_zero, List.set_cons_succ]
          refine anyE_tk 8 26 (oi := ?oi16) (v := ?v16) ?hi16 ?hd16 (by kernel_rfl) (by kernel_rfl) (by kernel_rfl) ?hQ16 ?hy16 (Keep.out _ HB7.out) ?rest16
          case hi16 => simp only [List.getElem?_toArray, List.getElem?_cons_zero, List.getElem?_cons_succ]; rfl
          case hd16 => rfl
          case hQ16 => exact fun _ _ _ h => h
          case hy16 => (refine Or.inl ⟨by rfl, ?_⟩; intro w hSw; (try dsimp only at hSw); go_simp; try with_reducible rfl)
          simp only [List.setIfInBounds_toArray, List.set_cons_zero, List.set_cons_succ]
          refine anyE_one (i := 9) (o := ?oi17) (by kernel_rfl) ?hi17 (fun K hK => ?step17)
          case hi17 => simp only [List.getElem?_toArray, List.getElem?_cons_zero, List.getElem?_cons_succ]; rfl
          go_simp
          have HB7z := Lib.hid HB7.out
          have H9 := Lib.hid (Blk.new w7 25 #[.int .i64 0, .slice none 0 0, .slice none 0 0])
          have HB7 := Lib.hid (balloc HB7.out (.cells #[.int .i64 0, .slice none 0 0, .slice none 0 0] 25))
          have HX9 := Lib.hid (show wi0.heap.size ≤ w7.heap.size from HB7z.out.size)
          generalize hW9 : w7.alloc (.cells #[.int .i64 0, .slice none 0 0, .slice none 0 0] 25) = w9 at *
          clear hW9
          generalize w7.heap.size = x9 at *
          refine hK.out _ _ (fun _ => Keep.out _ HB7.out) ?_
          clear hK K
          try simp only [Act.put, List.setIfInBounds_toArray, List.set_cons_zero, List.set_cons_succ]
          obtain ⟨n0, n1, n2, f0, f1, f2⟩ := blk3 H9.out
          have hx9l := H9.out.lt
          have HP := Lib.hid ((((Only.refl x9 w9).put 0 (.int .i64 b.p)).put 1 (.slice AIx b.its.length cIx)).put 2 (.slice ARx b.rus.length cRx))
          have H9p := Lib.hid (show Blk _ x9 25 #[.int .i64 b.p, .slice AIx b.its.length cIx, .slice ARx b.rus.length cRx] from ((H9.out.put 0 (.int .i64 b.p)).put 1 (.slice AIx b.its.length cIx)).put 2 (.slice ARx b.rus.length cRx))
          have HB8 := Lib.hid (HB7.out.trans (HP.out.below HX9.out HB7.out.size))
          refine anyE_one (i := 10) (o := ?oi18) (by kernel_rfl) ?hi18 (fun K hK => ?step18)
          case hi18 => simp only [List.getElem?_toArray, List.getElem?_cons_zero, List.getElem?_cons_succ]; rfl
          go_simp
          go_wp2_with fail
          refine hK.out _ _ (fun _ => Keep.out _ HB8.out) ?_
          clear hK K
          try simp only [Act.put, List.setIfInBounds_toArray, List.set_cons_zero, List.set_cons_succ]
          refine anyE_one (i := 11) (o := ?oi19) (by kernel_rfl) ?hi19 (fun K hK => ?step19)
          case hi19 => simp only [List.getElem?_toArray, List.getElem?_cons_zero, List.getElem?_cons_succ]; rfl
          go_simp
          go_wp2_with fail
          refine hK.out _ _ (fun _ => Keep.out _ HB8.out) ?_
          clear hK K
          try simp only [Act.put, List.setIfInBounds_toArray, List.set_cons_zero, List.set_cons_succ]
          refine anyE_done (by kernel_rfl) ?_ _
          generalize hWD : (((w9.setCell ⟨x9, 0, none⟩ (.int .i64 b.p)).setCell ⟨x9, 1, none⟩ (.slice AIx b.its.length cIx)).setCell ⟨x9, 2, none⟩ (.slice ARx b.rus.length cRx)) = wd at *
          clear hWD n0 n1 n2 f0 f1 f2
          have hbd := hbi.trans (HB8.out.mono hbi.size)
          have HBl3 := Lib.hid (HBl.out.below hbd hGr)
          have HBr3 := Lib.hid (HBr.out.trans (hbd.mono HBr.out.size))
          obtain ⟨n0, n1, n2, _, _, _⟩ := blk3 H9p.out
          obtain ⟨y0, y1, y2, f0, f1, f2⟩ := blk3 HBl3.out
          have hGd := HBl3.out.lt
          obtain ⟨b0, b1, b2, _⟩ := blk3 (HK0.out.below HBr3.out HK0.out.lt)
          have HN := Lib.hid (HBa.out HNo.out)
          have HR1 := Lib.hid (HK1.out.below HBr3.out HK1.out.lt)
          obtain ⟨t0, t1, t2, g0, g1, g2⟩ := blk3 HR1.out
          have hlR : w.heap.size + 1 < wd.heap.size := HR1.out.lt
          go_wp2_with fail
          have HP := Lib.hid ((((Only.refl (w.heap.size + 1) wd).put 0 (.int .i64 b.p)).put 1 (.slice AI b.its.length cI)).put 2 (.slice AR b.rus.length cR))
          have HB2 := Lib.hid (((HR1.out.put 0 (.int .i64 b.p)).put 1 (.slice AI b.its.length cI)).put 2 (.slice AR b.rus.length cR))
          have hlow := HB1.out.trans (HBr3.out.mono HB1.out.size)
          refine bodyPost_ret (results_cell_row2 rfl _ _ (w.heap.size + 1) 25 _ (0, 0) _ rfl HB2.out Tryd.underlying25 rfl (by kernel_rfl)) rfl ⟨.inr ⟨HN.out, rfl⟩, hlow.trans (HP.out.below (by omega) hlow.size)⟩
      case step7 =>
        go_simp
        have H9 := Lib.hid (Blk.new wi0 25 #[.int .i64 0, .slice none 0 0, .slice none 0 0])
        have HBc := Lib.hid (balloc HBc.out (.cells #[.int .i64 0, .slice none 0 0, .slice none 0 0] 25))
        have HX9 := Lib.hid (Nat.le_refl wi0.heap.size)
        have HX9b := Lib.hid H9.out.lt
        obtain ⟨x9, hx9⟩ : ∃ x9, x9 = wi0.heap.size := ⟨_, rfl⟩
        obtain ⟨w9, hw9⟩ : ∃ w9, w9 = wi0.alloc (.cells #[.int .i64 0, .slice none 0 0, .slice none 0 0] 25) := ⟨_, rfl⟩
        rw [← hw9] at H9 HBc HX9b ⊢
        have HX9 := Lib.hid (show wi0.heap.size ≤ x9 from Nat.le_of_eq hx9.symm)
        have HX9b := Lib.hid (show x9 < w9.heap.size by rw [hx9]; exact HX9b.out)
        have H9 := Lib.hid (show Blk w9 x9 25 #[.int .i64 0, .slice none 0 0, .slice none 0 0] by rw [hx9]; exact H9.out)
        rw [← hx9]
        clear hw9 hx9
        refine hK.out _ _ (fun _ => Keep.out _ HBc.out) ?_
        clear hK K
        try simp only [Act.put, List.setIfInBounds_toArray, List.set_cons_zero, List.set_cons_succ]
        refine anyE_one (i := 5) (o := ?oi20) (by kernel_rfl) ?hi20 (fun K hK => ?step20)
        case hi20 => simp only [List.getElem?_toArray, List.getElem?_cons_zero, List.getElem?_cons_succ]; rfl
        go_simp
        refine (cw.out _ HBc.out).mono ?_
        rintro e w7 ⟨⟨AI2, AR2, cI2, cR2, hex, rfl, hit2, hru2⟩ | ⟨hno, rfl⟩, hd7⟩
        · skip
          have HB7 := Lib.hid (HBc.out.trans (hd7.mono HBc.out.size))
          have HI2 := Lib.hid hit2
          have HR2 := Lib.hid hru2
          have HEx := Lib.hid hex
          clear hit2 hru2 hex
          have H9 := Lib.hid (H9.out.below hd7 H9.out.lt)
          clear hd7
          go_wp2_with fail
          refine hK.out _ _ (fun _ => Keep.out _ HB7.out) ?_
          clear hK K
          try simp only [Act.put, List.setIfInBounds_toArray, List.set_cons_zero, List.set_cons_succ]
          refine anyE_tk 6 18 (oi := ?oi21) (v := ?v21) ?hi21 ?hd21 (by kernel_rfl) (by kernel_rfl) (by kernel_rfl) ?hQ21 ?hy21 (Keep.out _ HB7.out) ?rest21
          case hi21 => simp only [List.getElem?_toArray, List.getElem?_cons_zero, List.getElem?_cons_succ]; rfl
          case hd21 => rfl
          case hQ21 => exact fun _ _ _ h => h
          case hy21 => (refine Or.inl ⟨by rfl, ?_⟩; intro w hSw; (try dsimp only at hSw); go_simp; try with_reducible rfl)
          simp only [List.setIfInBounds_toArray, List.set_cons_zero, List.set_cons_succ]
          refine anyE_tk 7 25 (oi := ?oi22) (v := ?v22) ?hi22 ?hd22 (by kernel_rfl) (by kernel_rfl) (by kernel_rfl) ?hQ22 ?hy22 (Keep.out _ HB7.out) ?rest22
          case hi22 => simp only [List.getElem?_toArray, List.getElem?_cons_zero, List.getElem?_cons_succ]; rfl
          case hd22 => rfl
          case hQ22 => exact fun _ _ _ h => h
          case hy22 => (refine Or.inl ⟨by rfl, ?_⟩; intro w hSw; (try dsimp only at hSw); go_simp; try with_reducible rfl)
          simp only [List.setIfInBounds_toArray, List.set_cons_zero, List.set_cons_succ]
          refine anyE_tk 8 26 (oi := ?oi23) (v := ?v23) ?hi23 ?hd23 (by kernel_rfl) (by kernel_rfl) (by kernel_rfl) ?hQ23 ?hy23 (Keep.out _ HB7.out) ?rest23
          case hi23 => simp only [List.getElem?_toArray, List.getElem?_cons_zero, List.getElem?_cons_succ]; rfl
          case hd23 => rfl
          case hQ23 => exact fun _ _ _ h => h
          case hy23 => (refine Or.inl ⟨by rfl, ?_⟩; intro w hSw; (try dsimp only at hSw); go_simp; try with_reducible rfl)
          simp only [List.setIfInBounds_toArray, List.set_cons_zero, List.set_cons_succ]
          have HI2 := Lib.hid (HI2.out.imp (N' := fun q => wi0.heap.size ≤ q ∧ q ≠ x9) fun q h1 h2 => ⟨Nat.le_trans HBc.out.size h1, by have := HX9b.out; omega⟩)
          have HR2 := Lib.hid (HR2.out.imp (N' := fun q => wi0.heap.size ≤ q ∧ q ≠ x9) fun q h1 => ⟨Nat.le_trans HBc.out.size h1, by have := HX9b.out; omega⟩)
          obtain ⟨n0, n1, n2, f0, f1, f2⟩ := blk3 H9.out
          have hx9l := H9.out.lt
          have HP := Lib.hid ((((Only.refl x9 w7).put 0 (.int .i64 b.p)).put 1 (.slice AI2 b.its.length cI2)).put 2 (.slice AR2 b.rus.length cR2))
          have H9p := Lib.hid (show Blk _ x9 25 #[.int .i64 b.p, .slice AI2 b.its.length cI2, .slice AR2 b.rus.length cR2] from ((H9.out.put 0 (.int .i64 b.p)).put 1 (.slice AI2 b.its.length cI2)).put 2 (.slice AR2 b.rus.length cR2))
          have HB8 := Lib.hid (HB7.out.trans (HP.out.below HX9.out HB7.out.size))
          have HI3 := Lib.hid (HI2.out.keep (fun q hq => hq.2) HP.out)
          have HR3 := Lib.hid (HR2.out.keep (fun q hq => hq.2) HP.out)
          refine anyE_one (i := 10) (o := ?oi24) (by kernel_rfl) ?hi24 (fun K hK => ?step24)
          case hi24 => simp only [List.getElem?_toArray, List.getElem?_cons_zero, List.getElem?_cons_succ]; rfl
          go_simp
          go_wp2_with fail
          refine hK.out _ _ (fun _ => Keep.out _ HB8.out) ?_
          clear hK K
          try simp only [Act.put, List.setIfInBounds_toArray, List.set_cons_zero, List.set_cons_succ]
          refine anyE_one (i := 11) (o := ?oi25) (by kernel_rfl) ?hi25 (fun K hK => ?step25)
          case hi25 => simp only [List.getElem?_toArray, List.getElem?_cons_zero, List.getElem?_cons_succ]; rfl
          go_simp
          go_wp2_with fail
          refine hK.out _ _ (fun _ => Keep.out _ HB8.out) ?_
          clear hK K
          try simp only [Act.put, List.setIfInBounds_toArray, List.set_cons_zero, List.set_cons_succ]
          refine anyE_done (by kernel_rfl) ?_ _
          generalize hWD : (((w7.setCell ⟨x9, 0, none⟩ (.int .i64 b.p)).setCell ⟨x9, 1, none⟩ (.slice AI2 b.its.length cI2)).setCell ⟨x9, 2, none⟩ (.slice AR2 b.rus.length cR2)) = wd at *
          clear hWD n0 n1 n2 f0 f1 f2
          have hbd := hbi.trans (HB8.out.mono hbi.size)
          have HBl3 := Lib.hid (HBl.out.below hbd hGr)
          have HBr3 := Lib.hid (HBr.out.trans (hbd.mono HBr.out.size))
          obtain ⟨n0, n1, n2, _, _, _⟩ := blk3 H9p.out
          obtain ⟨y0, y1, y2, f0, f1, f2⟩ := blk3 HBl3.out
          have hGd := HBl3.out.lt
          obtain ⟨b0, b1, b2, _⟩ := blk3 (HK0.out.below HBr3.out HK0.out.lt)
          have HEx2 := Lib.hid (HGo.out HEx.out)
          go_wp2_with fail
          have HQ := Lib.hid ((((Only.refl G wd).put 0 (.int .i64 b.p)).put 1 (.slice AI2 b.its.length cI2)).put 2 (.slice AR2 b.rus.length cR2))
          go_roundw
          case rel => exact ⟨i + 1, _, AI2, AR2, cI2, cR2, by omega, by go_num, HEx2.out, ((HBl3.out.put 0 _).put 1 _).put 2 _, (HI3.out.imp (N' := fun q => q ≠ G ∧ w.heap.size + 1 < q) fun q h1 h2 => ⟨by have := hbi.size; omega, by have := hbi.size; have := HS0.out; have := HBr.out.size; omega⟩).keep (fun q hq => hq.1) HQ.out, (HR3.out.imp (N' := fun q => q ≠ G ∧ w.heap.size + 1 < q) fun q h1 => ⟨by have := hbi.size; omega, by have := hbi.size; have := HS0.out; have := HBr.out.size; omega⟩).keep (fun q hq => hq.1) HQ.out, HBr3.out.trans (HQ.out.below HGw.out HBr3.out.size)⟩
          case measure => simp [intOf]; omega
        · skip
          have HB7 := Lib.hid (HBc.out.trans (hd7.mono HBc.out.size))
          have HNo := Lib.hid hno
          clear hno
          have H9 := Lib.hid (H9.out.below hd7 H9.out.lt)
          clear hd7
          go_wp2_with fail
          refine hK.out _ _ (fun _ => Keep.out _ HB7.out) ?_
          clear hK K
          try simp only [Act.put, List.setIfInBounds_toArray, List.set_cons_zero, List.set_cons_succ]
          refine anyE_tk 6 18 (oi := ?oi26) (v := ?v26) ?hi26 ?hd26 (by kernel_rfl) (by kernel_rfl) (by kernel_rfl) ?hQ26 ?hy26 (Keep.out _ HB7.out) ?rest26
          case hi26 => simp only [List.getElem?_toArray, List.getElem?_cons_zero, List.getElem?_cons_succ]; rfl
          case hd26 => rfl
          case hQ26 => exact fun _ _ _ h => h
          case hy26 => (refine Or.inl ⟨by rfl, ?_⟩; intro w hSw; (try dsimp only at hSw); go_simp; try with_reducible rfl)
          simp only [List.setIfInBounds_toArray, List.set_cons_zero, List.set_cons_succ]
          refine anyE_tk 7 25 (oi := ?oi27) (v := ?v27) ?hi27 ?hd27 (by kernel_rfl) (by kernel_rfl) (by kernel_rfl) ?hQ27 ?hy27 (Keep.out _ HB7.out) ?rest27
          case hi27 => simp only [List.getElem?_toArray, List.getElem?_cons_zero, List.getElem?_cons_succ]; rfl
          case hd27 => rfl
          case hQ27 => exact fun _ _ _ h => h
          case hy27 => (refine Or.inl ⟨by rfl, ?_⟩; intro w hSw; (try dsimp only at hSw); go_simp; try with_reducible rfl)
          simp only [List.setIfInBounds_toArray, List.set_cons_zero, List.set_cons_succ]
          refine anyE_tk 8 26 (oi := ?oi28) (v := ?v28) ?hi28 ?hd28 (by kernel_rfl) (by kernel_rfl) (by kernel_rfl) ?hQ28 ?hy28 (Keep.out _ HB7.out) ?rest28
          case hi28 => simp only [List.getElem?_toArray, List.getElem?_cons_zero, List.getElem?_cons_succ]; rfl
          case hd28 => rfl
          case hQ28 => exact fun _ _ _ h => h
          case hy28 => (refine Or.inl ⟨by rfl, ?_⟩; intro w hSw; (try dsimp only at hSw); go_simp; try with_reducible rfl)
          simp only [List.setIfInBounds_toArray, List.set_cons_zero, List.set_cons_succ]
          obtain ⟨n0, n1, n2, f0, f1, f2⟩ := blk3 H9.out
          have hx9l := H9.out.lt
          have HP := Lib.hid ((((Only.refl x9 w7).put 0 (.int .i64 b.p)).put 1 (.slice AIx b.its.length cIx)).put 2 (.slice ARx b.rus.length cRx))
          have H9p := Lib.hid (show Blk _ x9 25 #[.int .i64 b.p, .slice AIx b.its.length cIx, .slice ARx b.rus.length cRx] from ((H9.out.put 0 (.int .i64 b.p)).put 1 (.slice AIx b.its.length cIx)).put 2 (.slice ARx b.rus.length cRx))
          have HB8 := Lib.hid (HB7.out.trans (HP.out.below HX9.out HB7.out.size))
          refine anyE_one (i := 10) (o := ?oi29) (by kernel_rfl) ?hi29 (fun K hK => ?step29)
          case hi29 => simp only [List.getElem?_toArray, List.getElem?_cons_zero, List.getElem?_cons_succ]; rfl
          go_simp
          go_wp2_with fail
          refine hK.out _ _ (fun _ => Keep.out _ HB8.out) ?_
          clear hK K
          try simp only [Act.put, List.setIfInBounds_toArray, List.set_cons_zero, List.set_cons_succ]
          refine anyE_one (i := 11) (o := ?oi30) (by kernel_rfl) ?hi30 (fun K hK => ?step30)
          case hi30 => simp only [List.getElem?_toArray, List.getElem?_cons_zero, List.getElem?_cons_succ]; rfl
          go_simp
          go_wp2_with fail
          refine hK.out _ _ (fun _ => Keep.out _ HB8.out) ?_
          clear hK K
          try simp only [Act.put, List.setIfInBounds_toArray, List.set_cons_zero, List.set_cons_succ]
          refine anyE_done (by kernel_rfl) ?_ _
          generalize hWD : (((w7.setCell ⟨x9, 0, none⟩ (.int .i64 b.p)).setCell ⟨x9, 1, none⟩ (.slice AIx b.its.length cIx)).setCell ⟨x9, 2, none⟩ (.slice ARx b.rus.length cRx)) = wd at *
          clear hWD n0 n1 n2 f0 f1 f2
          have hbd := hbi.trans (HB8.out.mono hbi.size)
          have HBl3 := Lib.hid (HBl.out.below hbd hGr)
          have HBr3 := Lib.hid (HBr.out.trans (hbd.mono HBr.out.size))
          obtain ⟨n0, n1, n2, _, _, _⟩ := blk3 H9p.out
          obtain ⟨y0, y1, y2, f0, f1, f2⟩ := blk3 HBl3.out
          have hGd := HBl3.out.lt
          obtain ⟨b0, b1, b2, _⟩ := blk3 (HK0.out.below HBr3.out HK0.out.lt)
          have HN := Lib.hid (HBa.out HNo.out)
          have HR1 := Lib.hid (HK1.out.below HBr3.out HK1.out.lt)
          obtain ⟨t0, t1, t2, g0, g1, g2⟩ := blk3 HR1.out
          have hlR : w.heap.size + 1 < wd.heap.size := HR1.out.lt
          go_wp2_with fail
          have HP := Lib.hid ((((Only.refl (w.heap.size + 1) wd).put 0 (.int .i64 b.p)).put 1 (.slice AI b.its.length cI)).put 2 (.slice AR b.rus.length cR))
          have HB2 := Lib.hid (((HR1.out.put 0 (.int .i64 b.p)).put 1 (.slice AI b.its.length cI)).put 2 (.slice AR b.rus.length cR))
          have hlow := HB1.out.trans (HBr3.out.mono HB1.out.size)
          refine bodyPost_ret (results_cell_row2 rfl _ _ (w.heap.size + 1) 25 _ (0, 0) _ rfl HB2.out Tryd.underlying25 rfl (by kernel_rfl)) rfl ⟨.inr ⟨HN.out, rfl⟩, hlow.trans (HP.out.below (by omega) hlow.size)⟩
    · obtain rfl : i = ss.length := by omega
      have HR1 := Lib.hid (HK1.out.below HBr.out HK1.out.lt)
      obtain ⟨t0, t1, t2, g0, g1, g2⟩ := blk3 HR1.out
      have hlR : w.heap.size + 1 < wr.heap.size := HR1.out.lt
      have HM := Lib.hid (HAll.out m HEx0.out)
      go_wp2_with fail
      have HP := Lib.hid ((((Only.refl (w.heap.size + 1) wr).put 0 (.int .i64 b.p)).put 1 (.slice AIx b.its.length cIx)).put 2 (.slice ARx b.rus.length cRx))
      have HB2 := Lib.hid (((HR1.out.put 0 (.int .i64 b.p)).put 1 (.slice AIx b.its.length cIx)).put 2 (.slice ARx b.rus.length cRx))
      have hlow := HB1.out.trans (HBr.out.mono HB1.out.size)
      refine bodyPost_ret (results_cell_row2 rfl _ _ (w.heap.size + 1) 25 _ (0, 0) _ rfl HB2.out Tryd.underlying25 rfl (by kernel_rfl)) rfl ⟨.inl ⟨m, AIx, ARx, cIx, cRx, HM.out, rfl, ?_, ?_⟩, hlow.trans (HP.out.below (by omega) hlow.size)⟩
      · exact (HIt.out.keep (fun q hq e => by have := hq.2; omega) HP.out).imp fun q hq _ => by have := hq.2; omega
      · exact (HRu.out.keep (fun q hq e => by have := hq.2; omega) HP.out).imp fun q hq => by have := hq.2; omega
end Go.Proofs.YtgoojcjfhghmgaaDoor


set_option linter.unusedSimpArgs false
set_option linter.unusedVariables false
namespace Go.Proofs.YtgoojcjfhghmgaaDoor
open Go Go.RowKit

/-- The error of exchanges in a book. -/
noncomputable def exE (b : Bk) (ss : List (Int × Int)) : Int := if vlR b ≠ 0 then vlR b else if swE b.its.length ss ≠ 0 then swE b.its.length ss else if exN b.its ss = none then 7 else 0
theorem exE_zero {b : Bk} {ss : List (Int × Int)} (h : exE b ss = 0) : vlR b = 0 ∧ swE b.its.length ss = 0 ∧ ∃ m, exN b.its ss = some m := by
  unfold exE at h
  split at h
  · contradiction
  · split at h
    · contradiction
    · split at h
      · cases h
      · rename_i h1 h2 h3
        exact ⟨by simpa using h1, by simpa using h2, Option.ne_none_iff_exists'.1 h3⟩

set_option maxRecDepth 100000 in
set_option maxHeartbeats 4000000 in
theorem Exchange_any (AI AR : Option Addr) (cI cR : Nat) (A : Option Addr) (c B : Nat) (b : Bk) (ss : List (Int × Int)) (w : World) (hB : B ≤ w.heap.size) (h : ItsAt B w AI b.its) (h' : RusAt B w AR b.rus) (hs : Short b) (hp : PairsAt B w A ss) (hm : ss.length ≤ 1000) :
    Calls Tryd.prog 51 #[.agg #[.int .i64 b.p, .slice AI b.its.length cI, .slice AR b.rus.length cR], .slice A ss.length c] w fun e w' =>
      ((∃ m AI' AR' cI' cR', exE b ss = 0 ∧ exN b.its ss = some m ∧ e = .returned (.tuple #[.agg #[.int .i64 b.p, .slice AI' b.its.length cI', .slice AR' b.rus.length cR'], .int .i64 0]) ∧ ItsAt w'.heap.size w' AI' m ∧ RusAt w'.heap.size w' AR' b.rus) ∨
        (exE b ss ≠ 0 ∧ e = .returned (.tuple #[.agg #[.int .i64 0, .slice none 0 0, .slice none 0 0], .int .i64 (exE b ss)]))) ∧ Below w.heap.size w w' := by
  have hT := h.below (Below.refl _ _) hB
  have hT' := h'.below (Below.refl _ _) hB
  have hP := hp.below (Below.refl _ _) hB
  have cv := Lib.hid (fun W (hW : Below w.heap.size w W) => Validate_any AI AR cI cR w.heap.size b W hW.size (hT.below hW (Nat.le_refl _)) (hT'.below hW (Nat.le_refl _)) hs)
  have cs := Lib.hid (fun W (hW : Below w.heap.size w W) => swappable_any AI AR cI cR A c w.heap.size b ss W hW.size (hP.below hW (Nat.le_refl _)) hs.1 hm)
  have HB0 := Lib.hid (show Below w.heap.size w ((w.alloc (.cells #[.int .i64 b.p, .slice AI b.its.length cI, .slice AR b.rus.length cR] 25)).alloc (.cells #[.int .i64 0, .slice none 0 0, .slice none 0 0] 25)) from balloc (balloc (Below.refl _ _) _) _)
  by_cases h0 : vlR b = 0
  · rw [h0] at cv
    by_cases h1 : swE b.its.length ss = 0
    · rw [h1] at cs
      obtain ⟨h8, hsw⟩ := sw_zero h1
      have ce := Lib.hid (fun W (hW : Below w.heap.size w W) => exchanged_any AI AR cI cR A c w.heap.size b ss W hW.size (hT.below hW (Nat.le_refl _)) (hT'.below hW (Nat.le_refl _)) hs (vl_ord (vl_zero h0)) (hP.below hW (Nat.le_refl _)) h8 (fun s hs => (hsw s hs).2.2.1))
      have HE := Lib.hid (show (∀ m, exN b.its ss = some m → exE b ss = 0) ∧ (exN b.its ss = none → exE b ss = 7) from by
        unfold exE
        rw [if_neg (by simpa using h0), if_neg (by simpa using h1)]
        exact ⟨fun m hm => by rw [if_neg (by rw [hm]; simp)], fun hm => by rw [if_pos hm]⟩)
      clear h h' hs hp hT hT' hP h0 h1 hsw hB
      go_enter Tryd.func51, Tryd.ntmps51
      go_wp2_with fail
      generalize hW0 : (w.alloc (.cells #[.int .i64 b.p, .slice AI b.its.length cI, .slice AR b.rus.length cR] 25)).alloc (.cells #[.int .i64 0, .slice none 0 0, .slice none 0 0] 25) = W0
      rw [hW0] at HB0
      have HK0 := Lib.hid (show Blk W0 w.heap.size 25 #[.int .i64 b.p, .slice AI b.its.length cI, .slice AR b.rus.length cR] by rw [← hW0]; exact (Blk.new _ _ _).alloc _)
      have HK1 := Lib.hid (show Blk W0 (w.heap.size + 1) 25 #[.int .i64 0, .slice none 0 0, .slice none 0 0] by rw [← hW0]; exact blk_new' (by simp))
      clear hW0
      obtain ⟨x0, x1, x2, _⟩ := blk3 HK0.out
      go_wp2_with (first
        | (go_at_call 20; refine (cv.out _ HB0.out).mono ?_; rintro e w1 ⟨rfl, hb1⟩; have hB1 := HB0.out.trans (hb1.mono HB0.out.size); clear x0 x1 x2; obtain ⟨x0, x1, x2, _⟩ := blk3 (HK0.out.below hb1 HK0.out.lt))
        | (go_at_call 94; refine (cs.out _ hB1).mono ?_; rintro e w2 ⟨rfl, hb2⟩; have hB2 := hB1.trans (hb2.mono hB1.size); have hd2 := hb1.trans (hb2.mono hb1.size); clear x0 x1 x2; obtain ⟨x0, x1, x2, _⟩ := blk3 (HK0.out.below hd2 HK0.out.lt)))
      go_at_call 95
      refine (ce.out _ hB2).mono ?_
      rintro e w3 ⟨⟨m, AI', AR', cI', cR', hex, rfl, hit, hru⟩ | ⟨hex, rfl⟩, hb3⟩
      · have hd3 := hd2.trans (hb3.mono hd2.size)
        have HR1 := Lib.hid ((HK1.out.below hd3 HK1.out.lt).alloc (.cells #[.int .i64 b.p, .slice AI' b.its.length cI', .slice AR' b.rus.length cR'] 25))
        have HR0 := Lib.hid ((HK1.out.below hd3 HK1.out.lt))
        have hB3 := hB2.trans (hb3.mono hB2.size)
        have HE0 := Lib.hid (HE.out.1 m hex)
        have HEx := Lib.hid hex
        have HIt := Lib.hid hit
        have HRu := Lib.hid hru
        have HS := Lib.hid (show w.heap.size + 1 < w3.heap.size from HR0.out.lt)
        have hlR : w.heap.size + 1 < (w3.alloc (.cells #[.int .i64 b.p, .slice AI' b.its.length cI', .slice AR' b.rus.length cR'] 25)).heap.size := HR1.out.lt
        obtain ⟨t0, t1, t2, g0, g1, g2⟩ := blk3 HR1.out
        clear hex hit hru x0 x1 x2 HE
        go_wp2_with fail
        have hBa := balloc (Below.refl w3.heap.size w3) (.cells #[.int .i64 b.p, .slice AI' b.its.length cI', .slice AR' b.rus.length cR'] 25)
        have HBa := Lib.hid (hB3.trans (hBa.mono hB3.size))
        have HI4 := Lib.hid ((HIt.out.below hBa))
        have HU4 := Lib.hid ((HRu.out.below hBa))
        have hR0 : w.heap.size + 1 < w2.heap.size := Nat.lt_of_lt_of_le HK1.out.lt hd2.size
        generalize w3.alloc (.cells #[.int .i64 b.p, .slice AI' b.its.length cI', .slice AR' b.rus.length cR'] 25) = w4 at *
        have HP := Lib.hid ((((Only.refl (w.heap.size + 1) w4).put 0 (.int .i64 b.p)).put 1 (.slice AI' b.its.length cI')).put 2 (.slice AR' b.rus.length cR'))
        have HB2 := Lib.hid (((HR1.out.put 0 (.int .i64 b.p)).put 1 (.slice AI' b.its.length cI')).put 2 (.slice AR' b.rus.length cR'))
        refine bodyPost_ret (results_cell_row2 rfl _ _ (w.heap.size + 1) 25 _ (0, 0) _ rfl HB2.out Tryd.underlying25 rfl (by kernel_rfl)) rfl ⟨.inl ⟨m, AI', AR', cI', cR', HE0.out, HEx.out, rfl, ?_, ?_⟩, HBa.out.trans (HP.out.below (Nat.le_succ _) HBa.out.size)⟩
        · exact (HI4.out.keep (fun q hq e => by omega) HP.out).at
        · exact (HU4.out.keep (fun q hq e => by omega) HP.out).at

      · have hd3 := hd2.trans (hb3.mono hd2.size)
        have HR1 := Lib.hid ((HK1.out.below hd3 HK1.out.lt).alloc (.cells #[.int .i64 0, .slice none 0 0, .slice none 0 0] 25))
        have hB3 := hB2.trans (hb3.mono hB2.size)
        have HE0 := Lib.hid (HE.out.2 hex)
        have hlR : w.heap.size + 1 < (w3.alloc (.cells #[.int .i64 0, .slice none 0 0, .slice none 0 0] 25)).heap.size := HR1.out.lt
        obtain ⟨t0, t1, t2, g0, g1, g2⟩ := blk3 HR1.out
        have hBa := balloc (Below.refl w3.heap.size w3) (.cells #[.int .i64 0, .slice none 0 0, .slice none 0 0] 25)
        have HBa := Lib.hid (hB3.trans (hBa.mono hB3.size))
        clear hex x0 x1 x2 HE hBa
        go_wp2_with fail
        generalize w3.alloc (.cells #[.int .i64 0, .slice none 0 0, .slice none 0 0] 25) = w4 at *
        have HP := Lib.hid ((((Only.refl (w.heap.size + 1) w4).put 0 (.int .i64 0)).put 1 (.slice none 0 0)).put 2 (.slice none 0 0))
        have HB2 := Lib.hid (((HR1.out.put 0 (.int .i64 0)).put 1 (.slice none 0 0)).put 2 (.slice none 0 0))
        refine bodyPost_ret (results_cell_row2 rfl _ _ (w.heap.size + 1) 25 _ (0, 0) _ rfl HB2.out Tryd.underlying25 rfl (by kernel_rfl)) rfl ⟨.inr ⟨by rw [HE0.out]; decide, by rw [HE0.out]; rfl⟩, HBa.out.trans (HP.out.below (Nat.le_succ _) HBa.out.size)⟩
    · have HE := Lib.hid (show exE b ss = swE b.its.length ss from by
        unfold exE
        rw [if_neg (by simpa using h0), if_pos h1])
      have HN := Lib.hid h1
      have hne : (swE b.its.length ss != 0) = true := by simpa using h1
      generalize swE b.its.length ss = e0 at *
      clear h h' hs hp hT hT' hP h0 h1 hB
      go_enter Tryd.func51, Tryd.ntmps51
      go_wp2_with fail
      generalize hW0 : (w.alloc (.cells #[.int .i64 b.p, .slice AI b.its.length cI, .slice AR b.rus.length cR] 25)).alloc (.cells #[.int .i64 0, .slice none 0 0, .slice none 0 0] 25) = W0
      rw [hW0] at HB0
      have HK0 := Lib.hid (show Blk W0 w.heap.size 25 #[.int .i64 b.p, .slice AI b.its.length cI, .slice AR b.rus.length cR] by rw [← hW0]; exact (Blk.new _ _ _).alloc _)
      have HK1 := Lib.hid (show Blk W0 (w.heap.size + 1) 25 #[.int .i64 0, .slice none 0 0, .slice none 0 0] by rw [← hW0]; exact blk_new' (by simp))
      clear hW0
      obtain ⟨x0, x1, x2, _⟩ := blk3 HK0.out
      go_wp2_with (first
        | (go_at_call 20; refine (cv.out _ HB0.out).mono ?_; rintro e w1 ⟨rfl, hb1⟩; have hB1 := HB0.out.trans (hb1.mono HB0.out.size); clear x0 x1 x2; obtain ⟨x0, x1, x2, _⟩ := blk3 (HK0.out.below hb1 HK0.out.lt))
        | (go_at_call 94; refine (cs.out _ hB1).mono ?_; rintro e w2 ⟨rfl, hb2⟩; have hB2 := hB1.trans (hb2.mono hB1.size); have hd2 := hb1.trans (hb2.mono hb1.size); obtain ⟨t0, t1, t2, g0, g1, g2⟩ := blk3 (HK1.out.below hd2 HK1.out.lt); have hlR : w.heap.size + 1 < w2.heap.size := (HK1.out.below hd2 HK1.out.lt).lt))
      have HR1 := Lib.hid (HK1.out.below hd2 HK1.out.lt)
      have HP := Lib.hid ((((Only.refl (w.heap.size + 1) w2).put 0 (.int .i64 0)).put 1 (.slice none 0 0)).put 2 (.slice none 0 0))
      have HB2 := Lib.hid (((HR1.out.put 0 (.int .i64 0)).put 1 (.slice none 0 0)).put 2 (.slice none 0 0))
      refine bodyPost_ret (results_cell_row2 rfl _ _ (w.heap.size + 1) 25 _ (0, 0) _ rfl HB2.out Tryd.underlying25 rfl (by kernel_rfl)) rfl ⟨.inr ⟨by rw [HE.out]; exact HN.out, by rw [HE.out]; rfl⟩, hB2.trans (HP.out.below (Nat.le_succ _) hB2.size)⟩
  · have HE := Lib.hid (show exE b ss = vlR b from by
      unfold exE
      rw [if_pos h0])
    have HN := Lib.hid h0
    have hne : (vlR b != 0) = true := by simpa using h0
    generalize vlR b = e0 at *
    clear h h' hs hp hT hT' hP h0 cs hB
    go_enter Tryd.func51, Tryd.ntmps51
    go_wp2_with fail
    generalize hW0 : (w.alloc (.cells #[.int .i64 b.p, .slice AI b.its.length cI, .slice AR b.rus.length cR] 25)).alloc (.cells #[.int .i64 0, .slice none 0 0, .slice none 0 0] 25) = W0
    rw [hW0] at HB0
    have HK0 := Lib.hid (show Blk W0 w.heap.size 25 #[.int .i64 b.p, .slice AI b.its.length cI, .slice AR b.rus.length cR] by rw [← hW0]; exact (Blk.new _ _ _).alloc _)
    have HK1 := Lib.hid (show Blk W0 (w.heap.size + 1) 25 #[.int .i64 0, .slice none 0 0, .slice none 0 0] by rw [← hW0]; exact blk_new' (by simp))
    clear hW0
    obtain ⟨x0, x1, x2, _⟩ := blk3 HK0.out
    go_wp2_with (go_at_call 20; refine (cv.out _ HB0.out).mono ?_; rintro e w2 ⟨rfl, hd2⟩; have hB2 := HB0.out.trans (hd2.mono HB0.out.size); obtain ⟨t0, t1, t2, g0, g1, g2⟩ := blk3 (HK1.out.below hd2 HK1.out.lt); have hlR : w.heap.size + 1 < w2.heap.size := (HK1.out.below hd2 HK1.out.lt).lt)
    have HR1 := Lib.hid (HK1.out.below hd2 HK1.out.lt)
    have HP := Lib.hid ((((Only.refl (w.heap.size + 1) w2).put 0 (.int .i64 0)).put 1 (.slice none 0 0)).put 2 (.slice none 0 0))
    have HB2 := Lib.hid (((HR1.out.put 0 (.int .i64 0)).put 1 (.slice none 0 0)).put 2 (.slice none 0 0))
    refine bodyPost_ret (results_cell_row2 rfl _ _ (w.heap.size + 1) 25 _ (0, 0) _ rfl HB2.out Tryd.underlying25 rfl (by kernel_rfl)) rfl ⟨.inr ⟨by rw [HE.out]; exact HN.out, by rw [HE.out]; rfl⟩, hB2.trans (HP.out.below (Nat.le_succ _) hB2.size)⟩

set_option maxRecDepth 100000 in
set_option maxHeartbeats 4000000 in
theorem Exchange_ref (AI AR : Option Addr) (cI cR : Nat) (A : Option Addr) (c B : Nat) (b : Bk) (ss : List (Int × Int)) (w : World) (hB : B ≤ w.heap.size) (h : ItsAt B w AI b.its) (h' : RusAt B w AR b.rus) (hs : Short b) (hp : PairsAt B w A ss) (hm : ss.length ≤ 1000) :
    Calls Tryd.prog 52 #[.agg #[.int .i64 b.p, .slice AI b.its.length cI, .slice AR b.rus.length cR], .slice A ss.length c] w fun e w' =>
      ((∃ m AI' AR' cI' cR', exE b ss = 0 ∧ exN b.its ss = some m ∧ e = .returned (.tuple #[.agg #[.int .i64 b.p, .slice AI' b.its.length cI', .slice AR' b.rus.length cR'], .int .i64 0]) ∧ ItsAt w'.heap.size w' AI' m ∧ RusAt w'.heap.size w' AR' b.rus) ∨
        (exE b ss ≠ 0 ∧ e = .returned (.tuple #[.agg #[.int .i64 0, .slice none 0 0, .slice none 0 0], .int .i64 (exE b ss)]))) ∧ Below w.heap.size w w' := by
  have hT := h.below (Below.refl _ _) hB
  have hT' := h'.below (Below.refl _ _) hB
  have hP := hp.below (Below.refl _ _) hB
  have cv := Lib.hid (fun W (hW : Below w.heap.size w W) => Validate_ref AI AR cI cR w.heap.size b W hW.size (hT.below hW (Nat.le_refl _)) (hT'.below hW (Nat.le_refl _)) hs)
  have cs := Lib.hid (fun W (hW : Below w.heap.size w W) => swapsOK_ref AI AR cI cR A c w.heap.size b ss W hW.size (hP.below hW (Nat.le_refl _)) hs.1 hm)
  have HB0 := Lib.hid (show Below w.heap.size w ((w.alloc (.cells #[.int .i64 b.p, .slice AI b.its.length cI, .slice AR b.rus.length cR] 25)).alloc (.cells #[.int .i64 0, .slice none 0 0, .slice none 0 0] 25)) from balloc (balloc (Below.refl _ _) _) _)
  by_cases h0 : vlR b = 0
  · rw [h0] at cv
    by_cases h1 : swE b.its.length ss = 0
    · rw [h1] at cs
      obtain ⟨h8, hsw⟩ := sw_zero h1
      have ce := Lib.hid (fun W (hW : Below w.heap.size w W) => exchanged_ref AI AR cI cR A c w.heap.size b ss W hW.size (hT.below hW (Nat.le_refl _)) (hT'.below hW (Nat.le_refl _)) hs (vl_ord (vl_zero h0)) (hP.below hW (Nat.le_refl _)) h8 hsw)
      have HE := Lib.hid (show (∀ m, exN b.its ss = some m → exE b ss = 0) ∧ (exN b.its ss = none → exE b ss = 7) from by
        unfold exE
        rw [if_neg (by simpa using h0), if_neg (by simpa using h1)]
        exact ⟨fun m hm => by rw [if_neg (by rw [hm]; simp)], fun hm => by rw [if_pos hm]⟩)
      clear h h' hs hp hT hT' hP h0 h1 hsw hB
      go_enter Tryd.func52, Tryd.ntmps52
      go_wp2_with fail
      generalize hW0 : (w.alloc (.cells #[.int .i64 b.p, .slice AI b.its.length cI, .slice AR b.rus.length cR] 25)).alloc (.cells #[.int .i64 0, .slice none 0 0, .slice none 0 0] 25) = W0
      rw [hW0] at HB0
      have HK0 := Lib.hid (show Blk W0 w.heap.size 25 #[.int .i64 b.p, .slice AI b.its.length cI, .slice AR b.rus.length cR] by rw [← hW0]; exact (Blk.new _ _ _).alloc _)
      have HK1 := Lib.hid (show Blk W0 (w.heap.size + 1) 25 #[.int .i64 0, .slice none 0 0, .slice none 0 0] by rw [← hW0]; exact blk_new' (by simp))
      clear hW0
      obtain ⟨x0, x1, x2, _⟩ := blk3 HK0.out
      go_wp2_with (first
        | (go_at_call 21; refine (cv.out _ HB0.out).mono ?_; rintro e w1 ⟨rfl, hb1⟩; have hB1 := HB0.out.trans (hb1.mono HB0.out.size); clear x0 x1 x2; obtain ⟨x0, x1, x2, _⟩ := blk3 (HK0.out.below hb1 HK0.out.lt))
        | (go_at_call 96; refine (cs.out _ hB1).mono ?_; rintro e w2 ⟨rfl, hb2⟩; have hB2 := hB1.trans (hb2.mono hB1.size); have hd2 := hb1.trans (hb2.mono hb1.size); clear x0 x1 x2; obtain ⟨x0, x1, x2, _⟩ := blk3 (HK0.out.below hd2 HK0.out.lt)))
      go_at_call 97
      refine (ce.out _ hB2).mono ?_
      rintro e w3 ⟨⟨m, AI', AR', cI', cR', hex, rfl, hit, hru⟩ | ⟨hex, rfl⟩, hb3⟩
      · have hd3 := hd2.trans (hb3.mono hd2.size)
        have HR1 := Lib.hid ((HK1.out.below hd3 HK1.out.lt).alloc (.cells #[.int .i64 b.p, .slice AI' b.its.length cI', .slice AR' b.rus.length cR'] 25))
        have HR0 := Lib.hid ((HK1.out.below hd3 HK1.out.lt))
        have hB3 := hB2.trans (hb3.mono hB2.size)
        have HE0 := Lib.hid (HE.out.1 m hex)
        have HEx := Lib.hid hex
        have HIt := Lib.hid hit
        have HRu := Lib.hid hru
        have HS := Lib.hid (show w.heap.size + 1 < w3.heap.size from HR0.out.lt)
        have hlR : w.heap.size + 1 < (w3.alloc (.cells #[.int .i64 b.p, .slice AI' b.its.length cI', .slice AR' b.rus.length cR'] 25)).heap.size := HR1.out.lt
        obtain ⟨t0, t1, t2, g0, g1, g2⟩ := blk3 HR1.out
        clear hex hit hru x0 x1 x2 HE
        go_wp2_with fail
        have hBa := balloc (Below.refl w3.heap.size w3) (.cells #[.int .i64 b.p, .slice AI' b.its.length cI', .slice AR' b.rus.length cR'] 25)
        have HBa := Lib.hid (hB3.trans (hBa.mono hB3.size))
        have HI4 := Lib.hid ((HIt.out.below hBa))
        have HU4 := Lib.hid ((HRu.out.below hBa))
        have hR0 : w.heap.size + 1 < w2.heap.size := Nat.lt_of_lt_of_le HK1.out.lt hd2.size
        generalize w3.alloc (.cells #[.int .i64 b.p, .slice AI' b.its.length cI', .slice AR' b.rus.length cR'] 25) = w4 at *
        have HP := Lib.hid ((((Only.refl (w.heap.size + 1) w4).put 0 (.int .i64 b.p)).put 1 (.slice AI' b.its.length cI')).put 2 (.slice AR' b.rus.length cR'))
        have HB2 := Lib.hid (((HR1.out.put 0 (.int .i64 b.p)).put 1 (.slice AI' b.its.length cI')).put 2 (.slice AR' b.rus.length cR'))
        refine bodyPost_ret (results_cell_row2 rfl _ _ (w.heap.size + 1) 25 _ (0, 0) _ rfl HB2.out Tryd.underlying25 rfl (by kernel_rfl)) rfl ⟨.inl ⟨m, AI', AR', cI', cR', HE0.out, HEx.out, rfl, ?_, ?_⟩, HBa.out.trans (HP.out.below (Nat.le_succ _) HBa.out.size)⟩
        · exact (HI4.out.keep (fun q hq e => by omega) HP.out).at
        · exact (HU4.out.keep (fun q hq e => by omega) HP.out).at

      · have hd3 := hd2.trans (hb3.mono hd2.size)
        have HR1 := Lib.hid ((HK1.out.below hd3 HK1.out.lt).alloc (.cells #[.int .i64 b.p, .slice AI b.its.length cI, .slice AR b.rus.length cR] 25))
        have hB3 := hB2.trans (hb3.mono hB2.size)
        have HE0 := Lib.hid (HE.out.2 hex)
        have hlR : w.heap.size + 1 < (w3.alloc (.cells #[.int .i64 b.p, .slice AI b.its.length cI, .slice AR b.rus.length cR] 25)).heap.size := HR1.out.lt
        obtain ⟨t0, t1, t2, g0, g1, g2⟩ := blk3 HR1.out
        have hBa := balloc (Below.refl w3.heap.size w3) (.cells #[.int .i64 b.p, .slice AI b.its.length cI, .slice AR b.rus.length cR] 25)
        have HBa := Lib.hid (hB3.trans (hBa.mono hB3.size))
        clear hex x0 x1 x2 HE hBa
        go_wp2_with fail
        generalize w3.alloc (.cells #[.int .i64 b.p, .slice AI b.its.length cI, .slice AR b.rus.length cR] 25) = w4 at *
        have HP := Lib.hid ((((Only.refl (w.heap.size + 1) w4).put 0 (.int .i64 0)).put 1 (.slice none 0 0)).put 2 (.slice none 0 0))
        have HB2 := Lib.hid (((HR1.out.put 0 (.int .i64 0)).put 1 (.slice none 0 0)).put 2 (.slice none 0 0))
        refine bodyPost_ret (results_cell_row2 rfl _ _ (w.heap.size + 1) 25 _ (0, 0) _ rfl HB2.out Tryd.underlying25 rfl (by kernel_rfl)) rfl ⟨.inr ⟨by rw [HE0.out]; decide, by rw [HE0.out]; rfl⟩, HBa.out.trans (HP.out.below (Nat.le_succ _) HBa.out.size)⟩
    · have HE := Lib.hid (show exE b ss = swE b.its.length ss from by
        unfold exE
        rw [if_neg (by simpa using h0), if_pos h1])
      have HN := Lib.hid h1
      have hne : (swE b.its.length ss != 0) = true := by simpa using h1
      generalize swE b.its.length ss = e0 at *
      clear h h' hs hp hT hT' hP h0 h1 hB
      go_enter Tryd.func52, Tryd.ntmps52
      go_wp2_with fail
      generalize hW0 : (w.alloc (.cells #[.int .i64 b.p, .slice AI b.its.length cI, .slice AR b.rus.length cR] 25)).alloc (.cells #[.int .i64 0, .slice none 0 0, .slice none 0 0] 25) = W0
      rw [hW0] at HB0
      have HK0 := Lib.hid (show Blk W0 w.heap.size 25 #[.int .i64 b.p, .slice AI b.its.length cI, .slice AR b.rus.length cR] by rw [← hW0]; exact (Blk.new _ _ _).alloc _)
      have HK1 := Lib.hid (show Blk W0 (w.heap.size + 1) 25 #[.int .i64 0, .slice none 0 0, .slice none 0 0] by rw [← hW0]; exact blk_new' (by simp))
      clear hW0
      obtain ⟨x0, x1, x2, _⟩ := blk3 HK0.out
      go_wp2_with (first
        | (go_at_call 21; refine (cv.out _ HB0.out).mono ?_; rintro e w1 ⟨rfl, hb1⟩; have hB1 := HB0.out.trans (hb1.mono HB0.out.size); clear x0 x1 x2; obtain ⟨x0, x1, x2, _⟩ := blk3 (HK0.out.below hb1 HK0.out.lt))
        | (go_at_call 96; refine (cs.out _ hB1).mono ?_; rintro e w2 ⟨rfl, hb2⟩; have hB2 := hB1.trans (hb2.mono hB1.size); have hd2 := hb1.trans (hb2.mono hb1.size); obtain ⟨t0, t1, t2, g0, g1, g2⟩ := blk3 (HK1.out.below hd2 HK1.out.lt); have hlR : w.heap.size + 1 < w2.heap.size := (HK1.out.below hd2 HK1.out.lt).lt))
      have HR1 := Lib.hid (HK1.out.below hd2 HK1.out.lt)
      have HP := Lib.hid ((((Only.refl (w.heap.size + 1) w2).put 0 (.int .i64 0)).put 1 (.slice none 0 0)).put 2 (.slice none 0 0))
      have HB2 := Lib.hid (((HR1.out.put 0 (.int .i64 0)).put 1 (.slice none 0 0)).put 2 (.slice none 0 0))
      refine bodyPost_ret (results_cell_row2 rfl _ _ (w.heap.size + 1) 25 _ (0, 0) _ rfl HB2.out Tryd.underlying25 rfl (by kernel_rfl)) rfl ⟨.inr ⟨by rw [HE.out]; exact HN.out, by rw [HE.out]; rfl⟩, hB2.trans (HP.out.below (Nat.le_succ _) hB2.size)⟩
  · have HE := Lib.hid (show exE b ss = vlR b from by
      unfold exE
      rw [if_pos h0])
    have HN := Lib.hid h0
    have hne : (vlR b != 0) = true := by simpa using h0
    generalize vlR b = e0 at *
    clear h h' hs hp hT hT' hP h0 cs hB
    go_enter Tryd.func52, Tryd.ntmps52
    go_wp2_with fail
    generalize hW0 : (w.alloc (.cells #[.int .i64 b.p, .slice AI b.its.length cI, .slice AR b.rus.length cR] 25)).alloc (.cells #[.int .i64 0, .slice none 0 0, .slice none 0 0] 25) = W0
    rw [hW0] at HB0
    have HK0 := Lib.hid (show Blk W0 w.heap.size 25 #[.int .i64 b.p, .slice AI b.its.length cI, .slice AR b.rus.length cR] by rw [← hW0]; exact (Blk.new _ _ _).alloc _)
    have HK1 := Lib.hid (show Blk W0 (w.heap.size + 1) 25 #[.int .i64 0, .slice none 0 0, .slice none 0 0] by rw [← hW0]; exact blk_new' (by simp))
    clear hW0
    obtain ⟨x0, x1, x2, _⟩ := blk3 HK0.out
    go_wp2_with (go_at_call 21; refine (cv.out _ HB0.out).mono ?_; rintro e w2 ⟨rfl, hd2⟩; have hB2 := HB0.out.trans (hd2.mono HB0.out.size); obtain ⟨t0, t1, t2, g0, g1, g2⟩ := blk3 (HK1.out.below hd2 HK1.out.lt); have hlR : w.heap.size + 1 < w2.heap.size := (HK1.out.below hd2 HK1.out.lt).lt)
    have HR1 := Lib.hid (HK1.out.below hd2 HK1.out.lt)
    have HP := Lib.hid ((((Only.refl (w.heap.size + 1) w2).put 0 (.int .i64 0)).put 1 (.slice none 0 0)).put 2 (.slice none 0 0))
    have HB2 := Lib.hid (((HR1.out.put 0 (.int .i64 0)).put 1 (.slice none 0 0)).put 2 (.slice none 0 0))
    refine bodyPost_ret (results_cell_row2 rfl _ _ (w.heap.size + 1) 25 _ (0, 0) _ rfl HB2.out Tryd.underlying25 rfl (by kernel_rfl)) rfl ⟨.inr ⟨by rw [HE.out]; exact HN.out, by rw [HE.out]; rfl⟩, hB2.trans (HP.out.below (Nat.le_succ _) hB2.size)⟩
end Go.Proofs.YtgoojcjfhghmgaaDoor


set_option linter.unusedSimpArgs false
set_option linter.unusedVariables false
namespace Go.Proofs.YtgoojcjfhghmgaaDoor
open Go Go.RowKit

/-- A book in which items were exchanged. -/
theorem ex_short {b : Bk} {ss : List (Int × Int)} {m : List It} (hs : Short b) (h0 : exE b ss = 0) (h : exN b.its ss = some m) : Short ⟨b.p, m, b.rus⟩ ∧ m.length = b.its.length := by
  obtain ⟨h1, h2, _⟩ := exE_zero h0
  obtain ⟨_, hsw⟩ := sw_zero h2
  obtain ⟨q1, q2, q3⟩ := exN_len (vl_ord (vl_zero h1)) (fun s hs => (hsw s hs).2.2.1) (Nat.le_refl _) (by rw [List.take_length]; exact h) hs.2.2.1
  exact ⟨⟨by rw [q2]; exact hs.1, hs.2.1, q3, hs.2.2.2⟩, q2⟩

set_option maxRecDepth 100000 in
set_option maxHeartbeats 4000000 in
theorem law_exchanges (AI AR : Option Addr) (cI cR : Nat) (A : Option Addr) (c : Nat) (b : Bk) (ss : List (Int × Int)) (w : World) (h : ItsAt w.heap.size w AI b.its) (h' : RusAt w.heap.size w AR b.rus) (hp : PairsAt w.heap.size w A ss) (hT : Tab w) :
    Calls Tryd.prog 13 #[.agg #[.int .i64 b.p, .slice AI b.its.length cI, .slice AR b.rus.length cR], .slice A ss.length c] w fun e w' => e = .returned (.bool true) ∧ Below w.heap.size w w' := by
  have hb0 := Blk.new w 25 #[.int .i64 b.p, .slice AI b.its.length cI, .slice AR b.rus.length cR]
  have hw0 : Below w.heap.size w (w.alloc (.cells #[.int .i64 b.p, .slice AI b.its.length cI, .slice AR b.rus.length cR] 25)) := (Below.refl _ _).alloc (Nat.le_refl _) _
  obtain ⟨W0, hW0⟩ : ∃ W0, W0 = w.alloc (.cells #[.int .i64 b.p, .slice AI b.its.length cI, .slice AR b.rus.length cR] 25) := ⟨_, rfl⟩
  rw [← hW0] at hb0 hw0
  have hlt : w.heap.size < W0.heap.size := hb0.lt
  have hI := h.below hw0 (Nat.le_of_lt hlt)
  have hR := h'.below hw0 (Nat.le_of_lt hlt)
  have hP := hp.below hw0 (Nat.le_of_lt hlt)
  have hT0 := hT.below hw0 hT.2
  have clg := Lib.hid (Long_any AI AR cI cR _ b W0 (Nat.le_refl _) hI hR)
  have ck := Lib.hid (fun W (hW : Below W0.heap.size W0 W) => known_any W (hT0.below hW hT0.2))
  have Hw := Lib.hid hw0
  have HB0 := Lib.hid hb0
  have HX := Lib.hid (fun W (hW : Below W0.heap.size W0 W) => blk3 (hb0.below hW hlt))
  have tok := Lib.hid (Nat.le_refl 0)
  cases hlg : lgR b with
  | true =>
    rw [hlg] at clg
    clear h h' hp hI hR hP hT hT0 hb0 hw0 hlg
    go_enter Tryd.func13, Tryd.ntmps13
    go_wp2_with (first
      | (have tk := tok; clear tok; go_at_call 17; rw [← hW0]; clear hW0; refine clg.out.mono ?_; rintro e w1 ⟨rfl, hd1⟩; have tok2 := tk; obtain ⟨z0, z1, z2, _⟩ := HX.out _ hd1)
      | (have tk := tok2; clear tok2; go_at_call 18; refine (ck.out _ hd1).mono ?_; rintro e w2 ⟨rfl, hd2⟩; have hb2 := hd1.trans (hd2.mono hd1.size)))
    go_ret
    exact ⟨rfl, Hw.out.trans (hb2.mono Hw.out.size)⟩
  | false =>
    rw [hlg] at clg
    by_cases h60 : 100 < ss.length
    · have hld : decide ((100 : Int) < (ss.length : Int)) = true := by simp; omega
      clear h h' hp hI hR hP hT hT0 hb0 hw0 hlg
      go_enter Tryd.func13, Tryd.ntmps13
      go_wp2_with (first
        | (have tk := tok; clear tok; go_at_call 17; rw [← hW0]; clear hW0; refine clg.out.mono ?_; rintro e w1 ⟨rfl, hd1⟩; have tok2 := tk; obtain ⟨z0, z1, z2, _⟩ := HX.out _ hd1)
        | (have tk := tok2; clear tok2; go_at_call 18; refine (ck.out _ hd1).mono ?_; rintro e w2 ⟨rfl, hd2⟩; have hb2 := hd1.trans (hd2.mono hd1.size)))
      go_ret
      exact ⟨rfl, Hw.out.trans (hb2.mono Hw.out.size)⟩
    · have hld : decide ((100 : Int) < (ss.length : Int)) = false := by simp; omega
      have hs := lg_short hlg
      have hpl : ss.length ≤ 100 := by omega
      have c19 := Lib.hid (fun W (hW : Below W0.heap.size W0 W) => Copy_apart AI AR cI cR W0.heap.size b W hW.size (hI.below hW (Nat.le_refl _)) (hR.below hW (Nat.le_refl _)) hs)
      have c51 := Lib.hid (fun A' R' k1 k2 W (h1 : ItsAt W.heap.size W A' b.its) (h2 : RusAt W.heap.size W R' b.rus) (hW : Below W0.heap.size W0 W) => Exchange_any A' R' k1 k2 A c W.heap.size b ss W (Nat.le_refl _) h1 h2 hs ((hP.below hW (Nat.le_refl _)).below (Below.refl _ _) hW.size) (by omega))
      have c52 := Lib.hid (fun W (hW : Below W0.heap.size W0 W) => Exchange_ref AI AR cI cR A c W0.heap.size b ss W hW.size (hI.below hW (Nat.le_refl _)) (hR.below hW (Nat.le_refl _)) hs (hP.below hW (Nat.le_refl _)) (by omega))
      have c22 := Lib.hid (fun A' R' k1 k2 W (h1 : ItsAt W.heap.size W A' b.its) (h2 : RusAt W.heap.size W R' b.rus) (hW : Below W0.heap.size W0 W) => Same_ref A' R' AI AR k1 k2 cI cR W.heap.size b W (Nat.le_refl _) h1 h2 ((hI.below hW (Nat.le_refl _)).below (Below.refl _ _) hW.size) ((hR.below hW (Nat.le_refl _)).below (Below.refl _ _) hW.size) hs)
      have Hsh := Lib.hid (fun m (h0 : exE b ss = 0) (hm : exN b.its ss = some m) => ex_short hs h0 hm)
      clear h h' hp hI hR hP hT hT0 hb0 hw0 hlg hs
      go_enter Tryd.func13, Tryd.ntmps13
      go_wp2_with (first
        | (have tk := tok; clear tok; go_at_call 17; rw [← hW0]; clear hW0; refine clg.out.mono ?_; rintro e w1 ⟨rfl, hd1⟩; have tok2 := tk; obtain ⟨z0, z1, z2, _⟩ := HX.out _ hd1)
        | (have tk := tok2; clear tok2; go_at_call 19; refine (c19.out _ hd1).mono ?_; rintro e w2 ⟨A', R', k1, k2, qs0, lo0, rfl, _, hi2, hr2, hd2⟩; have hb2 := hd1.trans (hd2.mono hd1.size); have tok3 := tk; clear z0 z1 z2; obtain ⟨z0, z1, z2, _⟩ := HX.out _ hb2))
      clear z0 z1 z2
      obtain ⟨W3, hW3⟩ : ∃ W3, W3 = w2.alloc (.cells #[.int .i64 b.p, .slice A' b.its.length k1, .slice R' b.rus.length k2] 25) := ⟨_, rfl⟩
      have hk3 : Blk W3 w2.heap.size 25 #[.int .i64 b.p, .slice A' b.its.length k1, .slice R' b.rus.length k2] := by rw [hW3]; exact Blk.new w2 25 _
      have hb3 : Below W0.heap.size W0 W3 := by rw [hW3]; exact balloc hb2 _
      have hd23 : Below w2.heap.size w2 W3 := by rw [hW3]; exact balloc (Below.refl _ _) _
      have HI3 := Lib.hid (hi2.at.below hd23 hd23.size)
      have HR3 := Lib.hid (hr2.at.below hd23 hd23.size)
      have hl3 : w2.heap.size < W3.heap.size := hk3.lt
      have HB3 := Lib.hid (fun W (hW : Below W3.heap.size W3 W) => hb3.trans (hW.mono hb3.size))
      have HX3 := Lib.hid (fun W (hW : Below W3.heap.size W3 W) => blk3 (hk3.below hW hl3))
      have HW3 := Lib.hid (Below.refl W3.heap.size W3)
      obtain ⟨z0, z1, z2, _⟩ := HX.out _ hb3
      obtain ⟨y0, y1, y2, _⟩ := HX3.out _ (Below.refl _ _)
      rw [← hW3]
      clear hW3 hk3 hi2 hr2 hd23 hb2 hd1 hd2 hb3
      go_wp2_with fail
      go_at_call 51
      refine (c51.out A' R' k1 k2 W3 HI3.out HR3.out (HB3.out _ HW3.out)).mono ?_
      rintro e w4 ⟨⟨m, A4, R4, k3, k4, he0, hex, rfl, hi4, hr4⟩ | ⟨he0, rfl⟩, hd4⟩
      · obtain ⟨hsh, hml⟩ := Hsh.out m he0 hex
        have HEx := Lib.hid hex
        have HE0 := Lib.hid he0
        have HSh := Lib.hid hsh
        have HMl := Lib.hid hml
        obtain ⟨W5, hW5⟩ : ∃ W5, W5 = w4.alloc (.cells #[.int .i64 b.p, .slice A4 b.its.length k3, .slice R4 b.rus.length k4] 25) := ⟨_, rfl⟩
        have hk5 : Blk W5 w4.heap.size 25 #[.int .i64 b.p, .slice A4 b.its.length k3, .slice R4 b.rus.length k4] := by rw [hW5]; exact Blk.new w4 25 _
        have hb5 : Below W3.heap.size W3 W5 := by rw [hW5]; exact balloc hd4 _
        have hd45 : Below w4.heap.size w4 W5 := by rw [hW5]; exact balloc (Below.refl _ _) _
        have HI5 := Lib.hid (hi4.below hd45 hd45.size)
        have HR5 := Lib.hid (hr4.below hd45 hd45.size)
        have hl5 : w4.heap.size < W5.heap.size := hk5.lt
        have HB5 := Lib.hid (fun W (hW : Below W5.heap.size W5 W) => hb5.trans (hW.mono hb5.size))
        have HX5 := Lib.hid (fun W (hW : Below W5.heap.size W5 W) => blk3 (hk5.below hW hl5))
        have HW5 := Lib.hid (Below.refl W5.heap.size W5)
        clear hk5 hd45 hi4 hr4 hb5 hd4 z0 z1 z2 y0 y1 y2 hex he0 hsh hml
        obtain ⟨z0, z1, z2, _⟩ := HX.out _ (HB3.out _ (HB5.out _ HW5.out))
        rw [hW5] at z0 z1 z2
        go_wp2_with fail
        rw [← hW5]
        go_at_call 52
        refine (c52.out _ (HB3.out _ (HB5.out _ HW5.out))).mono ?_
        rintro e w6 ⟨⟨m2, A6, R6, k5, k6, he2, hex2, rfl, hi6, hr6⟩ | ⟨he2, rfl⟩, hd6⟩
        · have e9 : some m = some m2 := HEx.out.symm.trans hex2
          injection e9 with e9
          subst e9
          have cs := Lib.hid (fun W (h1 : ItsAt W.heap.size W A4 m) (h2 : RusAt W.heap.size W R4 b.rus) (h3 : ItsAt W.heap.size W A6 m) (h4 : RusAt W.heap.size W R6 b.rus) => show Calls Tryd.prog 22 #[.agg #[.int .i64 b.p, .slice A4 b.its.length k3, .slice R4 b.rus.length k4], .agg #[.int .i64 b.p, .slice A6 b.its.length k5, .slice R6 b.rus.length k6]] W fun e w' => e = .returned (.bool true) ∧ Below W.heap.size W w' from by
            have := Same_ref A4 R4 A6 R6 k3 k4 k5 k6 W.heap.size ⟨b.p, m, b.rus⟩ W (Nat.le_refl _) h1 h2 h3 h4 HSh.out
            simp only [HMl.out] at this
            exact this)
          obtain ⟨W7, hW7⟩ : ∃ W7, W7 = w6.alloc (.cells #[.int .i64 b.p, .slice A6 b.its.length k5, .slice R6 b.rus.length k6] 25) := ⟨_, rfl⟩
          have hk7 : Blk W7 w6.heap.size 25 #[.int .i64 b.p, .slice A6 b.its.length k5, .slice R6 b.rus.length k6] := by rw [hW7]; exact Blk.new w6 25 _
          have hb7 : Below W5.heap.size W5 W7 := by rw [hW7]; exact balloc hd6 _
          have hd67 : Below w6.heap.size w6 W7 := by rw [hW7]; exact balloc (Below.refl _ _) _
          have cs7 := Lib.hid (cs.out W7 (HI5.out.below hb7 hb7.size) (HR5.out.below hb7 hb7.size) (hi6.below hd67 hd67.size) (hr6.below hd67 hd67.size))
          have hl7 : w6.heap.size < W7.heap.size := hk7.lt
          have HB7 := Lib.hid (fun W (hW : Below W7.heap.size W7 W) => hb7.trans (hW.mono hb7.size))
          have HX7 := Lib.hid (fun W (hW : Below W7.heap.size W7 W) => blk3 (hk7.below hW hl7))
          have HW7 := Lib.hid (Below.refl W7.heap.size W7)
          clear hk7 hd67 hi6 hr6 hb7 hd6 z0 z1 z2 hex2 he2
          obtain ⟨z0, z1, z2, _⟩ := HX.out _ (HB3.out _ (HB5.out _ (HB7.out _ HW7.out)))
          obtain ⟨y0, y1, y2, _⟩ := HX5.out _ (HB7.out _ HW7.out)
          obtain ⟨t0, t1, t2, _⟩ := HX7.out _ HW7.out
          have c22c := Lib.hid (fun W (hW : Below W7.heap.size W7 W) => c22.out A' R' k1 k2 W (HI3.out.below (HB5.out _ (HB7.out _ hW)) (HB5.out _ (HB7.out _ hW)).size) (HR3.out.below (HB5.out _ (HB7.out _ hW)) (HB5.out _ (HB7.out _ hW)).size) (HB3.out _ (HB5.out _ (HB7.out _ hW))))
          have tok7 := Lib.hid (Nat.le_refl 0)
          rw [hW7] at z0 z1 z2 y0 y1 y2 t0 t1 t2
          go_wp2_with fail
          rw [← hW7]
          clear hW7
          go_at_call 22
          refine cs7.out.mono ?_
          rintro e w8 ⟨rfl, hd8⟩
          clear z0 z1 z2 y0 y1 y2 t0 t1 t2
          obtain ⟨z0, z1, z2, _⟩ := HX.out _ (HB3.out _ (HB5.out _ (HB7.out _ hd8)))
          obtain ⟨y0, y1, y2, _⟩ := HX3.out _ (HB5.out _ (HB7.out _ hd8))
          go_wp2_with (first
            | (have tk := tok7; clear tok7; go_at_call 22; refine (c22c.out _ hd8).mono ?_; rintro e w9 ⟨rfl, hd9⟩; have hd10 := hd8.trans (hd9.mono hd8.size); have tok8 := tk)
            | (have tk := tok8; clear tok8; go_at_call 18; refine (ck.out _ (HB3.out _ (HB5.out _ (HB7.out _ hd10)))).mono ?_; rintro e w11 ⟨rfl, hd11⟩))
          go_ret
          have hz := HB3.out _ (HB5.out _ (HB7.out _ hd10))
          exact ⟨rfl, Hw.out.trans ((hz.trans (hd11.mono hz.size)).mono Hw.out.size)⟩
        · exact absurd HE0.out he2
      · have HE0 := Lib.hid he0
        obtain ⟨W5, hW5⟩ : ∃ W5, W5 = w4.alloc (.cells #[.int .i64 0, .slice none 0 0, .slice none 0 0] 25) := ⟨_, rfl⟩
        have hk5 : Blk W5 w4.heap.size 25 #[.int .i64 0, .slice none 0 0, .slice none 0 0] := by rw [hW5]; exact Blk.new w4 25 _
        have hb5 : Below W3.heap.size W3 W5 := by rw [hW5]; exact balloc hd4 _
        have hl5 : w4.heap.size < W5.heap.size := hk5.lt
        have HB5 := Lib.hid (fun W (hW : Below W5.heap.size W5 W) => hb5.trans (hW.mono hb5.size))
        have HX5 := Lib.hid (fun W (hW : Below W5.heap.size W5 W) => blk3 (hk5.below hW hl5))
        have HW5 := Lib.hid (Below.refl W5.heap.size W5)
        clear hk5 hb5 hd4 z0 z1 z2 y0 y1 y2 he0
        obtain ⟨z0, z1, z2, _⟩ := HX.out _ (HB3.out _ (HB5.out _ HW5.out))
        rw [hW5] at z0 z1 z2
        go_wp2_with fail
        rw [← hW5]
        go_at_call 52
        refine (c52.out _ (HB3.out _ (HB5.out _ HW5.out))).mono ?_
        rintro e w6 ⟨⟨m2, A6, R6, k5, k6, he2, hex2, rfl, hi6, hr6⟩ | ⟨he2, rfl⟩, hd6⟩
        · exact absurd he2 HE0.out
        · have cs := Lib.hid (fun W => Same_ref none none none none 0 0 0 0 W.heap.size ⟨0, [], []⟩ W (Nat.le_refl _) (fun k hk => by simp at hk) (fun k hk => by simp at hk) (fun k hk => by simp at hk) (fun k hk => by simp at hk) ⟨by simp, by simp, by simp, by simp⟩)
          obtain ⟨W7, hW7⟩ : ∃ W7, W7 = w6.alloc (.cells #[.int .i64 0, .slice none 0 0, .slice none 0 0] 25) := ⟨_, rfl⟩
          have hk7 : Blk W7 w6.heap.size 25 #[.int .i64 0, .slice none 0 0, .slice none 0 0] := by rw [hW7]; exact Blk.new w6 25 _
          have hb7 : Below W5.heap.size W5 W7 := by rw [hW7]; exact balloc hd6 _
          have hl7 : w6.heap.size < W7.heap.size := hk7.lt
          have HB7 := Lib.hid (fun W (hW : Below W7.heap.size W7 W) => hb7.trans (hW.mono hb7.size))
          have HX7 := Lib.hid (fun W (hW : Below W7.heap.size W7 W) => blk3 (hk7.below hW hl7))
          have HW7 := Lib.hid (Below.refl W7.heap.size W7)
          clear hk7 hb7 hd6 z0 z1 z2 he2
          obtain ⟨z0, z1, z2, _⟩ := HX.out _ (HB3.out _ (HB5.out _ (HB7.out _ HW7.out)))
          obtain ⟨y0, y1, y2, _⟩ := HX5.out _ (HB7.out _ HW7.out)
          obtain ⟨t0, t1, t2, _⟩ := HX7.out _ HW7.out
          have c22c := Lib.hid (fun W (hW : Below W7.heap.size W7 W) => c22.out A' R' k1 k2 W (HI3.out.below (HB5.out _ (HB7.out _ hW)) (HB5.out _ (HB7.out _ hW)).size) (HR3.out.below (HB5.out _ (HB7.out _ hW)) (HB5.out _ (HB7.out _ hW)).size) (HB3.out _ (HB5.out _ (HB7.out _ hW))))
          have tok7 := Lib.hid (Nat.le_refl 0)
          generalize exE b ss = e0 at *
          rw [hW7] at z0 z1 z2 y0 y1 y2 t0 t1 t2
          go_wp2_with fail
          rw [← hW7]
          clear hW7
          go_at_call 22
          refine (cs.out W7).mono ?_
          rintro e w8 ⟨rfl, hd8⟩
          clear z0 z1 z2 y0 y1 y2 t0 t1 t2
          obtain ⟨z0, z1, z2, _⟩ := HX.out _ (HB3.out _ (HB5.out _ (HB7.out _ hd8)))
          obtain ⟨y0, y1, y2, _⟩ := HX3.out _ (HB5.out _ (HB7.out _ hd8))
          go_wp2_with (first
            | (have tk := tok7; clear tok7; go_at_call 22; refine (c22c.out _ hd8).mono ?_; rintro e w9 ⟨rfl, hd9⟩; have hd10 := hd8.trans (hd9.mono hd8.size); have tok8 := tk)
            | (have tk := tok8; clear tok8; go_at_call 18; refine (ck.out _ (HB3.out _ (HB5.out _ (HB7.out _ hd10)))).mono ?_; rintro e w11 ⟨rfl, hd11⟩))
          go_ret
          have hz := HB3.out _ (HB5.out _ (HB7.out _ hd10))
          exact ⟨rfl, Hw.out.trans ((hz.trans (hd11.mono hz.size)).mono Hw.out.size)⟩
end Go.Proofs.YtgoojcjfhghmgaaDoor


namespace Go.Proofs.YtgoojcjfhghmgaaDoor
open Go.RowKit Go.ChangeShapes Go.WideShapes Go.ChangeAt Go.Deep

/-- It fits an int. -/
def I64 (n : Int) : Prop := (Lit.int .i64 n).wf = true

section
variable {H : Type} {enc : TypeId × Value → H} {P : Program} {W : World} {base : Nat} {sp : Nat → Bool} {held : Bool} {fuel : Nat} {t e : TypeId} {cs : List Value} {x : DataW H × List MemPlace}

theorem spot_none {w : World} {a : Addr} {v : Value} (h : w.cell? a = some v) : a.spot = none := by
  cases hs : a.spot with
  | none => rfl
  | some s =>
    have : w.cell? a = none := by
      unfold World.cell?
      split
      · simp [hs]
      · rfl
    rw [this] at h; cases h
theorem add_spot (a : Addr) (n : Nat) : (a.add n).spot = a.spot ∨ (a.add n).spot = none := by
  unfold Addr.add; split <;> simp_all

theorem ElsAt.of_add {w : World} {a : Addr} {s n : Nat} {f : Nat → Nat → Value} (hs : 0 < s) (h : ∀ k, k < n → ∀ j, j < s → w.cell? (a.add (k * s + j)) = some (f k j)) (ha : 0 < n → a.spot = none) : ElsAt w.heap.size w (some a) s n f := by
  intro k hk
  obtain ⟨b, off, spot⟩ := a
  obtain rfl : spot = none := ha (by omega)
  have h0 := h k hk 0 hs
  rw [Addr.add_lit] at h0
  refine ⟨b, off, rfl, cell_lt h0, fun j hj => ?_⟩
  have := h k hk j hj
  rw [Addr.add_lit] at this
  rw [Nat.add_assoc]; exact this

/-- A slice of ints that came in. -/
theorem open_intsAt (ht : P.underlying t = some (.slice e)) (he : P.underlying e = some (.int .i64)) (hc : P.cellsOf e = 1) (h : DataW.trod enc P W base sp held fuel t cs = some x) :
    ∃ A c zs, cs = [.slice A zs.length c] ∧ IntsAt W.heap.size W A zs ∧ (∀ z ∈ zs, I64 z) ∧ zs.length ≤ maxLen := by
  rcases open_ints ht he hc h with ⟨hcs, _⟩ | ⟨a, len, cap, zs, hcs, _, hl, hm, hz, _, hcell, hwf⟩
  · exact ⟨none, 0, [], hcs, IntsAt.nil _ _ _, by simp, Nat.zero_le _⟩
  · have hlz : len ≤ zs.length := by rw [hz]; split <;> omega
    have hlen : (zs.take len).length = len := by simp; omega
    refine ⟨some a, cap, zs.take len, by rw [hlen]; exact hcs, ?_, fun z hz => hwf z (List.mem_of_mem_take hz), by omega⟩
    refine ElsAt.of_add (by omega) (fun k hk j hj => ?_) (fun h0 => ?_)
    · rw [hlen] at hk
      obtain rfl : j = 0 := by omega
      have := hcell k (by omega)
      simp only [Nat.mul_one, Nat.add_zero]
      rw [this]; simp [hk]
    · rw [hlen] at h0
      have := spot_none (hcell 0 (by omega))
      unfold Addr.add at this
      simpa using this

theorem trod_int_inv {n : Nat} {v : Value} {y : DataW H × List MemPlace} (he : P.underlying e = some (.int .i64)) (h : DataW.trod enc P W base sp held n e [v] = some y) : ∃ z, v = .int .i64 z ∧ I64 z := by
  obtain ⟨z, e0, _, wa⟩ := DataW.trod_int he h
  exact ⟨z, by simpa using e0, wa⟩

/-- The cells of a struct whose fields are all ints. -/
theorem struct_ints {fs : Array Field} {n : Nat} {cs' : List Value} {y : DataW H × List MemPlace} (hs : P.underlying e = some (.struct fs)) (hone : oneCellFields P fs = true) (hC : P.cellsOf e = fs.size)
    (hint : ∀ f ∈ fs.toList, P.underlying f.type = some (.int .i64)) (h : DataW.trod enc P W base sp held n e cs' = some y) :
    cs'.length = fs.size ∧ ∀ j, j < fs.size → ∃ z, cs'[j]? = some (.int .i64 z) ∧ I64 z := by
  obtain ⟨ys, n', _, _, hlen, _, hf⟩ := DataW.trod_struct hs h
  rw [hC] at hlen
  refine ⟨hlen, fun j hj => ?_⟩
  have hfj : fs[j]? = some fs[j] := Array.getElem?_eq_getElem hj
  obtain ⟨ho, hk⟩ := hone_of hone j fs[j] hfj
  have h1 := hf j fs[j] hfj
  rw [ho, hk] at h1
  have hv : cs'[j]? = some (cs'[j]'(by omega)) := List.getElem?_eq_getElem (by omega)
  have hone' : (cs'.drop j).take 1 = [cs'[j]'(by omega)] := by
    rw [List.drop_eq_getElem_cons (by omega)]; rfl
  rw [hone'] at h1
  cases hy : DataW.trod enc P W base sp held n' fs[j].type [cs'[j]'(by omega)] with
  | none => 
    rw [hy] at h1
    have := ‹ys.length = fs.size›
    rw [List.getElem?_eq_getElem (by omega)] at h1; cases h1
  | some y' =>
    obtain ⟨z, hz, wz⟩ := trod_int_inv (hint fs[j] (by simp)) hy
    exact ⟨z, by rw [hv, hz], wz⟩

/-- A slice of structs of ints that came in. -/
theorem open_rowsAt {fs : Array Field} (ht : P.underlying t = some (.slice e)) (hs : P.underlying e = some (.struct fs)) (hone : oneCellFields P fs = true) (hC : P.cellsOf e = fs.size) (h0 : 0 < fs.size)
    (hint : ∀ f ∈ fs.toList, P.underlying f.type = some (.int .i64)) (h : DataW.trod enc P W base sp held fuel t cs = some x) :
    ∃ A c n, ∃ f : Nat → Nat → Int, cs = [.slice A n c] ∧ ElsAt W.heap.size W A fs.size n (fun k j => .int .i64 (f k j)) ∧ (∀ k j, k < n → j < fs.size → I64 (f k j)) ∧ n ≤ maxLen := by
  rcases open_slice ht h with ⟨hcs, _⟩ | ⟨a, len, cap, m, n, D, Pl, hcs, _, hl, hm, hmm, _, hel⟩
  · exact ⟨none, 0, 0, fun _ _ => 0, hcs, ElsAt.nil _ _ _ _ _, fun k j hk => by omega, Nat.zero_le _⟩
  · have hlm : len ≤ m := by rw [hmm]; split <;> omega
    have key : ∀ k, ∃ g : Nat → Int, k < len → ∀ j, j < fs.size → W.cell? (a.add (k * fs.size + j)) = some (.int .i64 (g j)) ∧ I64 (g j) := by
      intro k
      by_cases hk : k < len
      · obtain ⟨cs', hc, htr⟩ := hel k (by omega)
        obtain ⟨hlen, hz⟩ := struct_ints hs hone hC hint htr
        obtain ⟨_, _, hat⟩ := World.cells?_some hc
        rw [hC] at hat
        have : ∀ j, ∃ z, j < fs.size → cs'[j]? = some (.int .i64 z) ∧ I64 z := fun j => by
          by_cases hj : j < fs.size
          · obtain ⟨z, h1, h2⟩ := hz j hj; exact ⟨z, fun _ => ⟨h1, h2⟩⟩
          · exact ⟨0, fun h => absurd h hj⟩
        refine ⟨fun j => Classical.choose (this j), fun _ j hj => ?_⟩
        obtain ⟨h1, h2⟩ := Classical.choose_spec (this j) hj
        refine ⟨?_, h2⟩
        rw [← Go.Deep.add_add, hat j hj]; exact h1
      · exact ⟨fun _ => 0, fun h => absurd h hk⟩
    refine ⟨some a, cap, len, fun k => Classical.choose (key k), hcs, ElsAt.of_add h0 (fun k hk j hj => (Classical.choose_spec (key k) hk j hj).1) (fun h0' => ?_), fun k j hk hj => (Classical.choose_spec (key k) hk j hj).2, by omega⟩
    have := spot_none (Classical.choose_spec (key 0) h0' 0 h0).1
    unfold Addr.add at this
    simpa using this

/-- A struct of ints by value. -/
theorem open_agg_ints {fs : Array Field} {r : Reach} {b0 : Nat} {v : Value} {d : DataW H} {p : List MemPlace} (hs : P.underlying e = some (.struct fs)) (hone : oneCellFields P fs = true) (hC : P.cellsOf e = fs.size)
    (hint : ∀ f ∈ fs.toList, P.underlying f.type = some (.int .i64)) (hv : Value.okWide P W r b0 e v) (h : DataW.Trod enc P W base sp held e v d p) :
    ∃ zs : List Int, zs.length = fs.size ∧ v = .agg (zs.map (Value.int .i64)).toArray ∧ ∀ z ∈ zs, I64 z := by
  obtain ⟨cs, rfl, hsz⟩ := okWide_struct hs hv
  obtain ⟨fuel, hf⟩ := h
  simp only [Value.cells] at hf
  obtain ⟨hlen, hz⟩ := struct_ints hs hone hC hint hf
  have hsz' : cs.size = fs.size := hsz.trans hC
  have key : ∀ j, ∃ z, j < fs.size → cs.toList[j]? = some (.int .i64 z) ∧ I64 z := fun j => by
    by_cases hj : j < fs.size
    · obtain ⟨z, h1, h2⟩ := hz j hj; exact ⟨z, fun _ => ⟨h1, h2⟩⟩
    · exact ⟨0, fun h => absurd h hj⟩
  refine ⟨(List.range fs.size).map fun j => Classical.choose (key j), by simp, ?_, fun z hz' => ?_⟩
  · congr 1
    apply Array.ext'
    apply List.ext_getElem?
    intro j
    by_cases hj : j < fs.size
    · rw [(Classical.choose_spec (key j) hj).1]; simp [hj]
    · rw [List.getElem?_eq_none (by simp; omega), List.getElem?_eq_none (by simp; omega)]
  · simp only [List.mem_map, List.mem_range] at hz'
    obtain ⟨j, hj, rfl⟩ := hz'
    exact (Classical.choose_spec (key j) hj).2
end
theorem list1 {zs : List Int} (h : zs.length = 1) : ∃ x0 : Int, zs = [x0] := by
  match zs, h with
  | [x0], _ => exact ⟨_, rfl⟩
theorem list2 {zs : List Int} (h : zs.length = 2) : ∃ x0 x1 : Int, zs = [x0, x1] := by
  match zs, h with
  | [x0, x1], _ => exact ⟨_, _, rfl⟩
theorem list3 {zs : List Int} (h : zs.length = 3) : ∃ x0 x1 x2 : Int, zs = [x0, x1, x2] := by
  match zs, h with
  | [x0, x1, x2], _ => exact ⟨_, _, _, rfl⟩
theorem list4 {zs : List Int} (h : zs.length = 4) : ∃ x0 x1 x2 x3 : Int, zs = [x0, x1, x2, x3] := by
  match zs, h with
  | [x0, x1, x2, x3], _ => exact ⟨_, _, _, _, rfl⟩
theorem list5 {zs : List Int} (h : zs.length = 5) : ∃ x0 x1 x2 x3 x4 : Int, zs = [x0, x1, x2, x3, x4] := by
  match zs, h with
  | [x0, x1, x2, x3, x4], _ => exact ⟨_, _, _, _, _, rfl⟩
theorem list6 {zs : List Int} (h : zs.length = 6) : ∃ x0 x1 x2 x3 x4 x5 : Int, zs = [x0, x1, x2, x3, x4, x5] := by
  match zs, h with
  | [x0, x1, x2, x3, x4, x5], _ => exact ⟨_, _, _, _, _, _, rfl⟩
end Go.Proofs.YtgoojcjfhghmgaaDoor


namespace Go.Proofs.YtgoojcjfhghmgaaDoor
open Go.ChangeShapes Go.WideShapes Go.ChangeAt Go.RowKit

theorem own : ownKnob Tryd.prog.godebug = none := by kernel_rfl
theorem laidOut : laidOutB Tryd.prog = true := by kernel_rfl
def laidV : List (String × DataW Unit) := [("math/bits.deBruijn32tab", Rows.laid_math_bits_deBruijn32tab), ("math/bits.deBruijn64tab", Rows.laid_math_bits_deBruijn64tab)]
theorem laid64 : (Rows.laid_math_bits_deBruijn64tab : DataW Unit) = .agg (Lib.deBruijn64tab.map fun n : Nat => .lit (.int .u8 (n : Int))) := by kernel_rfl
theorem tab_of_laid {W : World} (h : laidMetH Tryd.prog laidV W) : Tab W := by
  rw [MakeChecks.laidMetH_plain _ _ _ (by kernel_rfl)] at h
  obtain ⟨ps, ⟨g0, t0, cs0, f0, p0, q0, hg0, ht0, hv0, hd0, ⟨g, t, cs, fuel, p, q, hg, ht, hv, hd, _, _⟩, _⟩, _, _⟩ := h
  clear hd0 hv0 ht0 hg0
  obtain rfl := Option.some.inj ((show Tryd.prog.globalNamed "math/bits.deBruijn64tab" = some 1 by kernel_rfl).symm.trans hg)
  obtain ⟨tt, htt⟩ : ∃ tt, (Tryd.prog.globals[1]?).map (·.type) = some tt ∧ Tryd.prog.underlying tt = some (.array 64 5) := ⟨128, by kernel_rfl, Tryd.underlying128⟩
  obtain rfl := Option.some.inj (htt.1.symm.trans ht)
  obtain ⟨xs, m, _, ex, _, hl, hel⟩ := DataW.trod_array htt.2 hd
  have c5 : Tryd.prog.cellsOf 5 = 1 := by kernel_rfl
  have hlen : Lib.deBruijn64tab.length = 64 := by kernel_rfl
  rw [laid64] at ex
  have e3 : (xs.map (·.1)) = Lib.deBruijn64tab.map fun n : Nat => .lit (.int .u8 (n : Int)) := (DataW.agg.inj (Prod.mk.inj ex).1).symm
  have key : ∀ j, j < 64 → W.cell? ⟨1, j, none⟩ = some (.int .u8 (Lib.deBruijn64tab.getD j 0)) := by
    intro r hr
    have hE := hel r hr
    rw [c5, Nat.mul_one, List.getElem?_eq_getElem (by omega)] at hE
    obtain ⟨z, e1, e2, _⟩ := DataW.trod_int Tryd.underlying5 hE
    have e4 : (xs.map (·.1))[r]? = (Lib.deBruijn64tab.map fun n : Nat => (DataW.lit (.int .u8 (n : Int)) : DataW Unit))[r]? := by rw [e3]
    rw [List.getElem?_map, List.getElem?_map, List.getElem?_eq_getElem (by omega : r < xs.length), List.getElem?_eq_getElem (by omega : r < Lib.deBruijn64tab.length), e2] at e4
    have hz : z = ((Lib.deBruijn64tab.getD r 0 : Nat) : Int) := by
      simp only [Option.map_some, Option.some.injEq, DataW.lit.injEq, Lit.int.injEq, true_and] at e4
      rw [e4, List.getD, List.getElem?_eq_getElem (by omega : r < Lib.deBruijn64tab.length)]; rfl
    rw [World.var?_cell hg hv r, ← hz]
    have : cs.toList[r]? = some (.int .u8 z) := by
      have h0 : ((cs.toList.drop r).take 1)[0]? = some (.int .u8 z) := by rw [e1]; rfl
      simpa using h0
    simpa using this
  exact ⟨fun j hj => key j (by omega), cell_lt (key 0 (by decide))⟩
end Go.Proofs.YtgoojcjfhghmgaaDoor


namespace Go.Proofs.YtgoojcjfhghmgaaDoor
theorem mainIs : Tryd.pinned.checked.prog.mainIs = some (true, "8c487879d048aae23dd660c744b71e8b4582616f73d0860a610df5222bf65492".toList) := by kernel_rfl
end Go.Proofs.YtgoojcjfhghmgaaDoor


namespace Go.Proofs.YtgoojcjfhghmgaaDoor
open Go.RowKit

theorem pairs_of_rows {B n : Nat} {w : World} {A : Option Addr} {f : Nat → Nat → Int} (h : ElsAt B w A 2 n (fun k j => .int .i64 (f k j))) : ∃ l : List (Int × Int), n = l.length ∧ PairsAt B w A l := by
  refine ⟨(List.range n).map fun k => (f k 0, f k 1), by simp, ?_⟩
  unfold PairsAt
  simp only [List.length_map, List.length_range]
  refine h.congr fun k j hk hj => ?_
  have : j = 0 ∨ j = 1 := by omega
  rcases this with rfl | rfl <;> simp [hk]
end Go.Proofs.YtgoojcjfhghmgaaDoor


namespace Go.Proofs.YtgoojcjfhghmgaaDoor
open Go.RowKit Go.ChangeShapes Go.WideShapes Go.ChangeAt Go.Deep

theorem exists_list {α : Type} {Q : Nat → α → Prop} : ∀ (n : Nat), (∀ k, k < n → ∃ x, Q k x) → ∃ l : List α, l.length = n ∧ ∀ k (hk : k < l.length), Q k l[k]
  | 0, _ => ⟨[], rfl, fun k hk => absurd hk (Nat.not_lt_zero k)⟩
  | n + 1, h => by
    obtain ⟨l, rfl, hq⟩ := exists_list n fun k hk => h k (by omega)
    obtain ⟨x, hx⟩ := h l.length (by omega)
    refine ⟨l ++ [x], by simp, fun k hk => ?_⟩
    by_cases hkn : k < l.length
    · rw [List.getElem_append_left hkn]; exact hq k hkn
    · have : k = l.length := by simp at hk; omega
      subst this
      have e : (l ++ [x])[l.length] = x := by simp
      rw [e]; exact hx

section
variable {H : Type} {enc : TypeId × Value → H} {P : Program} {W : World} {base : Nat} {sp : Nat → Bool} {held : Bool} {t e : TypeId} {cs : List Value} {x : DataW H × List MemPlace}

/-- The cells of a struct of one-cell fields. -/
theorem struct_fields {fs : Array Field} {n : Nat} {cs' : List Value} {y : DataW H × List MemPlace} (hs : P.underlying e = some (.struct fs)) (hone : oneCellFields P fs = true) (hC : P.cellsOf e = fs.size)
    (h : DataW.trod enc P W base sp held n e cs' = some y) :
    cs'.length = fs.size ∧ ∀ j (hj : j < fs.size), ∃ n' y' v, cs'[j]? = some v ∧ DataW.trod enc P W base sp held n' fs[j].type [v] = some y' := by
  obtain ⟨ys, n', _, _, hlen, _, hf⟩ := DataW.trod_struct hs h
  rw [hC] at hlen
  refine ⟨hlen, fun j hj => ?_⟩
  have hfj : fs[j]? = some fs[j] := Array.getElem?_eq_getElem hj
  obtain ⟨ho, hk⟩ := hone_of hone j fs[j] hfj
  have h1 := hf j fs[j] hfj
  rw [ho, hk] at h1
  have hv : cs'[j]? = some (cs'[j]'(by omega)) := List.getElem?_eq_getElem (by omega)
  have hone' : (cs'.drop j).take 1 = [cs'[j]'(by omega)] := by
    rw [List.drop_eq_getElem_cons (by omega)]; rfl
  rw [hone'] at h1
  cases hy : DataW.trod enc P W base sp held n' fs[j].type [cs'[j]'(by omega)] with
  | none =>
    rw [hy] at h1
    have := ‹ys.length = fs.size›
    rw [List.getElem?_eq_getElem (by omega)] at h1; cases h1
  | some y' => exact ⟨n', y', _, hv, hy⟩
/-- A slice of structs of two one-cell fields. -/
theorem open_twos {fs : Array Field} {fuel : Nat} (ht : P.underlying t = some (.slice e)) (hs : P.underlying e = some (.struct fs)) (hone : oneCellFields P fs = true) (hC : P.cellsOf e = fs.size) (h2 : fs.size = 2)
    (h : DataW.trod enc P W base sp held fuel t cs = some x) :
    ∃ A c n, cs = [.slice A n c] ∧ n ≤ maxLen ∧ ∀ k, k < n → ∃ b off v0 v1 n0 y0 n1 y1, A = some ⟨b, off, none⟩ ∧ b < W.heap.size ∧ W.cell? ⟨b, off + k * 2, none⟩ = some v0 ∧ W.cell? ⟨b, off + k * 2 + 1, none⟩ = some v1 ∧
      DataW.trod enc P W base sp held n0 fs[0].type [v0] = some y0 ∧ DataW.trod enc P W base sp held n1 fs[1].type [v1] = some y1 := by
  rcases open_slice ht h with ⟨hcs, _⟩ | ⟨a, len, cap, m, n, D, Pl, hcs, _, hl, hm, hmm, _, hel⟩
  · exact ⟨none, 0, 0, hcs, Nat.zero_le _, fun k hk => by omega⟩
  · have hlm : len ≤ m := by rw [hmm]; split <;> omega
    refine ⟨some a, cap, len, hcs, by omega, fun k hk => ?_⟩
    obtain ⟨cs', hc, htr⟩ := hel k (by omega)
    obtain ⟨hlen, hz⟩ := struct_fields hs hone hC htr
    obtain ⟨_, _, hat⟩ := World.cells?_some hc
    rw [hC] at hat
    obtain ⟨n0, y0, v0, c0, t0⟩ := hz 0 (by omega)
    obtain ⟨n1, y1, v1, c1, t1⟩ := hz 1 (by omega)
    have q0 := hat 0 (by omega)
    have q1 := hat 1 (by omega)
    rw [c0, Go.Deep.add_add] at q0
    rw [c1, Go.Deep.add_add] at q1
    obtain ⟨cs0, hc0, htr0⟩ := hel 0 (by omega)
    obtain ⟨_, hz0⟩ := struct_fields hs hone hC htr0
    obtain ⟨_, _, hat0⟩ := World.cells?_some hc0
    obtain ⟨_, _, u0, d0, _⟩ := hz0 0 (by omega)
    have p0 := hat0 0 (by rw [hC]; omega)
    rw [d0] at p0
    have hsp := spot_none p0
    obtain ⟨b, off, spot⟩ := a
    obtain rfl : spot = none := by
      unfold Addr.add at hsp
      simpa using hsp
    rw [Addr.add_lit, h2] at q0
    rw [Addr.add_lit, h2] at q1
    refine ⟨b, off, v0, v1, n0, y0, n1, y1, rfl, cell_lt q0, ?_, ?_, t0, t1⟩
    · simpa using q0
    · rw [Nat.add_assoc]; exact q1
end

section
variable {H : Type} {enc : TypeId × Value → H} {W : World} {base b0 : Nat} {sp : Nat → Bool} {held : Bool} {cs : List Value} {x : DataW H × List MemPlace}
theorem its_of {fuel : Nat} (h : DataW.trod enc Tryd.prog W base sp held fuel 22 cs = some x) : ∃ A c l, cs = [.slice A (List.length l) c] ∧ ItsAt W.heap.size W A l ∧ l.length ≤ maxLen := by
  obtain ⟨A, c, n, rfl, hn, hel⟩ := open_twos Tryd.underlying22 Tryd.underlying84 (by kernel_rfl) (by kernel_rfl) rfl h
  obtain ⟨l, rfl, hl⟩ := exists_list (Q := fun k (x : It) => ∃ b off A1 c1 A2 c2, A = some ⟨b, off, none⟩ ∧ b < W.heap.size ∧ W.cell? ⟨b, off + k * 2, none⟩ = some (.slice A1 x.1.length c1) ∧ W.cell? ⟨b, off + k * 2 + 1, none⟩ = some (.slice A2 x.2.length c2) ∧ IntsAt W.heap.size W A1 x.1 ∧ IntsAt W.heap.size W A2 x.2) n fun k hk => by
    obtain ⟨b, off, v0, v1, n0, y0, n1, y1, e, hb, q0, q1, t0, t1⟩ := hel k hk
    obtain ⟨A1, c1, z1, e1, i1, _, _⟩ := open_intsAt Tryd.underlying32 Tryd.underlying3 (by kernel_rfl) t0
    obtain ⟨A2, c2, z2, e2, i2, _, _⟩ := open_intsAt Tryd.underlying32 Tryd.underlying3 (by kernel_rfl) t1
    obtain rfl := List.singleton_inj.1 e1
    obtain rfl := List.singleton_inj.1 e2
    exact ⟨(z1, z2), b, off, A1, c1, A2, c2, e, hb, q0, q1, i1, i2⟩
  exact ⟨A, c, l, rfl, hl, hn⟩
theorem rus_of {fuel : Nat} (h : DataW.trod enc Tryd.prog W base sp held fuel 23 cs = some x) : ∃ A c l, cs = [.slice A (List.length l) c] ∧ RusAt W.heap.size W A l ∧ l.length ≤ maxLen := by
  obtain ⟨A, c, n, rfl, hn, hel⟩ := open_twos Tryd.underlying23 Tryd.underlying42 (by kernel_rfl) (by kernel_rfl) rfl h
  obtain ⟨l, rfl, hl⟩ := exists_list (Q := fun k (x : Ru) => ∃ b off A1 c1, A = some ⟨b, off, none⟩ ∧ b < W.heap.size ∧ W.cell? ⟨b, off + k * 2, none⟩ = some (.slice A1 x.1.length c1) ∧ W.cell? ⟨b, off + k * 2 + 1, none⟩ = some (.int .i64 x.2) ∧ IntsAt W.heap.size W A1 x.1) n fun k hk => by
    obtain ⟨b, off, v0, v1, n0, y0, n1, y1, e, hb, q0, q1, t0, t1⟩ := hel k hk
    obtain ⟨A1, c1, z1, e1, i1, _, _⟩ := open_intsAt Tryd.underlying32 Tryd.underlying3 (by kernel_rfl) t0
    obtain ⟨z2, rfl, _⟩ := trod_int_inv Tryd.underlying3 t1
    obtain rfl := List.singleton_inj.1 e1
    exact ⟨(z1, z2), b, off, A1, c1, e, hb, q0, q1, i1⟩
  exact ⟨A, c, l, rfl, hl, hn⟩
theorem arr3 {cs : Array Value} {v0 v1 v2 : Value} (hl : cs.toList.length = 3) (h0 : cs.toList[0]? = some v0) (h1 : cs.toList[1]? = some v1) (h2 : cs.toList[2]? = some v2) : cs = #[v0, v1, v2] := by
  obtain ⟨l⟩ := cs
  match l, hl with
  | [a, b, c], _ =>
    simp only [List.getElem?_cons_zero, List.getElem?_cons_succ, Option.some.injEq] at h0 h1 h2
    subst h0 h1 h2; rfl
theorem arr2 {cs : Array Value} {v0 v1 : Value} (hl : cs.toList.length = 2) (h0 : cs.toList[0]? = some v0) (h1 : cs.toList[1]? = some v1) : cs = #[v0, v1] := by
  obtain ⟨l⟩ := cs
  match l, hl with
  | [a, b], _ =>
    simp only [List.getElem?_cons_zero, List.getElem?_cons_succ, Option.some.injEq] at h0 h1
    subst h0 h1; rfl
set_option maxRecDepth 100000 in
/-- A book by value. -/
theorem open_book {r : Reach} {v : Value} {d : DataW H} {p : List MemPlace} (hv : Value.okWide Tryd.prog W r b0 25 v) (h : DataW.Trod enc Tryd.prog W base sp held 25 v d p) :
    ∃ AI AR cI cR, ∃ b : Bk, v = .agg #[.int .i64 b.p, .slice AI b.its.length cI, .slice AR b.rus.length cR] ∧ ItsAt W.heap.size W AI b.its ∧ RusAt W.heap.size W AR b.rus ∧ b.its.length ≤ maxLen ∧ b.rus.length ≤ maxLen := by
  obtain ⟨cs, rfl, hsz⟩ := okWide_struct Tryd.underlying25 hv
  obtain ⟨fuel, hf⟩ := h
  simp only [Value.cells] at hf
  obtain ⟨hlen, hz⟩ := struct_fields Tryd.underlying25 (by kernel_rfl) (by kernel_rfl) hf
  obtain ⟨n0, y0, v0, c0, t0⟩ := hz 0 (by decide)
  obtain ⟨n1, y1, v1, c1, t1⟩ := hz 1 (by decide)
  obtain ⟨n2, y2, v2, c2, t2⟩ := hz 2 (by decide)
  obtain rfl := arr3 hlen c0 c1 c2
  obtain ⟨q, rfl, _⟩ := trod_int_inv Tryd.underlying3 t0
  obtain ⟨AI, cI, l1, e1, i1, m1⟩ := its_of t1
  obtain ⟨AR, cR, l2, e2, i2, m2⟩ := rus_of t2
  obtain rfl := List.singleton_inj.1 e1
  obtain rfl := List.singleton_inj.1 e2
  exact ⟨AI, AR, cI, cR, ⟨q, l1, l2⟩, rfl, i1, i2, m1, m2⟩
set_option maxRecDepth 100000 in
/-- A rule by value. -/
theorem open_rule {r : Reach} {v : Value} {d : DataW H} {p : List MemPlace} (hv : Value.okWide Tryd.prog W r b0 42 v) (h : DataW.Trod enc Tryd.prog W base sp held 42 v d p) :
    ∃ A c, ∃ x : Ru, v = .agg #[.slice A x.1.length c, .int .i64 x.2] ∧ IntsAt W.heap.size W A x.1 := by
  obtain ⟨cs, rfl, hsz⟩ := okWide_struct Tryd.underlying42 hv
  obtain ⟨fuel, hf⟩ := h
  simp only [Value.cells] at hf
  obtain ⟨hlen, hz⟩ := struct_fields Tryd.underlying42 (by kernel_rfl) (by kernel_rfl) hf
  obtain ⟨n0, y0, v0, c0, t0⟩ := hz 0 (by decide)
  obtain ⟨n1, y1, v1, c1, t1⟩ := hz 1 (by decide)
  obtain rfl := arr2 hlen c0 c1
  obtain ⟨A1, k1, z1, e1, i1, _, _⟩ := open_intsAt Tryd.underlying32 Tryd.underlying3 (by kernel_rfl) t0
  obtain ⟨z2, rfl, _⟩ := trod_int_inv Tryd.underlying3 t1
  obtain rfl := List.singleton_inj.1 e1
  exact ⟨A1, k1, (z1, z2), rfl, i1⟩
end
end Go.Proofs.YtgoojcjfhghmgaaDoor


namespace Go.Proofs.YtgoojcjfhghmgaaDoor.lawDishExchanges
open Go.ChangeShapes Go.WideShapes Go.ChangeAt Go.RowKit Go.Deep
set_option linter.unusedVariables false

set_option maxRecDepth 100000 in
theorem lifted (os : Os) (started : os.Started) (H : Type) (enc : TypeId × Value → H) :
    ReturnsInHanded {} Tryd.checked os 13 .any (fun w args => (Rows.dishExchangesSpec.pre enc Tryd.prog Tryd.f13 Rows.dishExchangesRow.domain false w args ∧ laidMetH Tryd.prog laidV w) ∧ sizedMet enc Tryd.prog Tryd.f13 (OpenSpec.ofChange Rows.dishExchangesSpec) false w args)
      (Rows.dishExchangesSpec.post enc Tryd.prog Tryd.f13 false true false false) := by
  refine returnsInHanded_of_change_and (C := Tryd.checked) (X := fun w _ => laidMetH Tryd.prog laidV w) (fun _ _ _ hh h => h.of_heap hh) own started (by kernel_rfl) Tryd.func13
    (ChangeSpec.witness_shaped (enc := enc) (C := Tryd.checked) (os := os) (X := fun w _ => laidMetH Tryd.prog laidV w) false (World.laidAll Tryd.prog os laidV) #[.agg #[.int .i64 0, .slice none 0 0, .slice none 0 0], .slice none 0 0] 8 (World.laidAll_os _ _ _)
      (World.shaped_of_ZipB (by kernel_rfl) (by kernel_rfl)) (by kernel_rfl) (by kernel_rfl) (by kernel_rfl)
      (by rw [MakeChecks.laidMetH_plain _ _ _ (by kernel_rfl)]; exact laidMet_laidAll _ (by kernel_rfl) (by kernel_rfl))) ?_
  intro W base args ds gs before hval0 hW hcnd _ hL _
  have hT := tab_of_laid hL
  have hval : ∀ (j : Nat) t v, Tryd.f13.params[j]? = some t → args[j]? = some v → Value.okWide Tryd.prog W .any base t v := hval0
  have hW' := hW
  obtain ⟨p, q, hA0, hV, rfl, hfz, hnd⟩ := hW
  have hA : DataW.TrodAll enc Tryd.prog W 0 (fun _ => true) true Tryd.f13.params.toList args.toList ds p := hA0
  rw [Tryd.params13] at hA hval
  obtain ⟨v0, vs0, d0, ds0, p0, q0, hargs, rfl, rfl, h0, r0⟩ := trodAll_cons hA
  obtain ⟨v1, vs1, d1, ds1, p1, q1, rfl, rfl, rfl, h1, r1⟩ := trodAll_cons r0
  obtain ⟨rfl, rfl, rfl⟩ := trodAll_nil r1
  obtain rfl : args = #[v0, v1] := by cases args; simp_all
  obtain ⟨rfl, rfl⟩ := trodVars_none hV
  have k0 := h0
  have lt0 : ∀ x ∈ p0, x.block < W.heap.size := by obtain ⟨m, hm⟩ := k0; exact DataW.trod_lt m _ _ _ hm
  obtain ⟨AI0, AR0, cI0, cR0, b0, rfl, I0, R0, S0⟩ := open_book (hval 0 25 v0 rfl rfl) h0
  have k1 := h1
  have lt1 : ∀ x ∈ p1, x.block < W.heap.size := by obtain ⟨m, hm⟩ := k1; exact DataW.trod_lt m _ _ _ hm
  obtain ⟨fu1, hf1⟩ := h1
  obtain ⟨A1, c1, n1, f1, e1, i1, b1, m1⟩ := open_rowsAt Tryd.underlying67 Tryd.underlying79 (by kernel_rfl) (by kernel_rfl) (by decide) (by intro f hf; simp only [List.mem_cons, List.not_mem_nil, or_false] at hf; rcases hf with rfl | rfl <;> exact Tryd.underlying3) hf1
  obtain ⟨A1', n1', c1', rfl⟩ := okWide_slice Tryd.underlying67 (hval 1 67 v1 rfl rfl)
  obtain ⟨rfl, rfl, rfl⟩ : A1' = A1 ∧ n1' = n1 ∧ c1' = c1 := by simpa [Value.cells] using e1
  obtain ⟨l1, hl1, P1⟩ := pairs_of_rows i1
  subst hl1
  clear hA0 hval0
  refine (law_exchanges AI0 AR0 cI0 cR0 A1' c1' b0 l1 W I0 R0 P1 hT).mono fun e W' ⟨he, bel⟩ => ?_
  subst he
  exact ⟨_, rfl, _, _, _, [], _, [], hW', trodAll_mk1 (shut_bool Tryd.underlying4 _), (trodAll_cons_mk (Below.trod laidOut (by kernel_rfl) (of_decide_eq_true (by kernel_rfl)) k0 bel lt0) (trodAll_cons_mk (Below.trod laidOut (by kernel_rfl) (of_decide_eq_true (by kernel_rfl)) k1 bel lt1) trodAll_mk0)), rfl, bel.frame _, fun h => by cases h⟩

theorem over : Rows.dishExchangesRow.holds Tryd.pinned (OpenSpec.ofChange Rows.dishExchangesSpec) :=
  OpenClaim.holds_of_wide 13 Tryd.f13 rfl rfl rfl rfl rfl rfl rfl ⟨rfl, rfl, rfl, rfl, rfl⟩ rfl rfl rfl rfl rfl (by kernel_rfl) Tryd.func13 (by kernel_rfl)
    (of_decide_eq_true (by kernel_rfl)) (by unfold Func.isWrapper; first | (rw [if_pos (by decide +kernel)]; kernel_rfl) | (rw [if_neg (by decide +kernel)]; exact ⟨rfl, rfl⟩))
    (fun os started H enc _ => lifted os started H enc)

/-- The statement: the tied card. -/
theorem proved : Rows.DishExchangesCardSaid :=
  Claim7.holds_tied_plain_at .later [] [.data, .data] true (true, "8c487879d048aae23dd660c744b71e8b4582616f73d0860a610df5222bf65492") false
    over (fun _ h => by cases h) (by kernel_rfl) (fun _ h => by cases h) dishExchanges_row_tie rfl ⟨rfl, rfl⟩ mainIs rfl
    (fun f fn hf hfn => by
      obtain rfl : f = 13 := Option.some.inj ((show Tryd.prog.funcNamed "canteen/canteenlaw02.DishExchanges" = some 13 by kernel_rfl).symm.trans hf) |>.symm
      obtain rfl : fn = Tryd.f13 := (Option.some.inj (Tryd.func13.symm.trans hfn)).symm
      exact ⟨by kernel_rfl, fun j t ht => by
        rw [Tryd.params13] at ht
        have hm : t ∈ [25, 67] := by simpa using Array.mem_of_getElem? ht
        have hall : ([25, 67].all fun u => !Tryd.prog.wantsStandIn u) = true := by kernel_rfl
        exact (show Tryd.prog.wantsStandIn t = false by simpa using List.all_eq_true.1 hall t hm)⟩)
    (by kernel_rfl)
end Go.Proofs.YtgoojcjfhghmgaaDoor.lawDishExchanges
