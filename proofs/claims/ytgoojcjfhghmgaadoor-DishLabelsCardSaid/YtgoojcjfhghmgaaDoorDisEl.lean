/- The law of labels. -/
import Derived.Test.YtgoojcjfhghmgaaDoorDisEk
namespace Go.Proofs.YtgoojcjfhghmgaaDoor
open Go.RowKit

set_option maxRecDepth 100000 in
set_option maxHeartbeats 4000000 in
theorem law_labels (AI AR : Option Addr) (cI cR : Nat) (b : Bk) (item : Int) (w : World) (h : ItsAt w.heap.size w AI b.its) (h' : RusAt w.heap.size w AR b.rus) (hT : Tab w) :
    Calls Tryd.prog 5 #[.agg #[.int .i64 b.p, .slice AI b.its.length cI, .slice AR b.rus.length cR], .int .i64 item] w fun e w' => e = .returned (.bool true) ∧ Below w.heap.size w w' := by
  have hb0 := Blk.new w 25 #[.int .i64 b.p, .slice AI b.its.length cI, .slice AR b.rus.length cR]
  have hw0 : Below w.heap.size w (w.alloc (.cells #[.int .i64 b.p, .slice AI b.its.length cI, .slice AR b.rus.length cR] 25)) := (Below.refl _ _).alloc (Nat.le_refl _) _
  obtain ⟨W0, hW0⟩ : ∃ W0, W0 = w.alloc (.cells #[.int .i64 b.p, .slice AI b.its.length cI, .slice AR b.rus.length cR] 25) := ⟨_, rfl⟩
  rw [← hW0] at hb0 hw0
  have hlt : w.heap.size < W0.heap.size := hb0.lt
  have hI := h.below hw0 (Nat.le_of_lt hlt)
  have hR := h'.below hw0 (Nat.le_of_lt hlt)
  have hT0 := hT.below hw0 hT.2
  have clg := Lib.hid (Long_any AI AR cI cR _ b W0 (Nat.le_refl _) hI hR)
  have ck := Lib.hid (fun W (hW : Below W0.heap.size W0 W) => known_any W (hT0.below hW hT0.2))
  have Hw := Lib.hid hw0
  have HX := Lib.hid (fun W (hW : Below W0.heap.size W0 W) => blk3 (hb0.below hW hlt))
  have tok := Lib.hid (Nat.le_refl 0)
  cases hlg : lgR b with
  | true =>
    rw [hlg] at clg
    clear h h' hI hR hT hT0 hb0 hw0 hlg
    go_enter Tryd.func5, Tryd.ntmps5
    go_wp2_with (first
      | (have tk := tok; clear tok; go_at_call 17; rw [← hW0]; clear hW0; refine clg.out.mono ?_; rintro e w1 ⟨rfl, hd1⟩; have tok2 := tk; obtain ⟨z0, z1, z2, _⟩ := HX.out _ hd1)
      | (have tk := tok2; clear tok2; go_at_call 18; refine (ck.out _ hd1).mono ?_; rintro e w2 ⟨rfl, hd2⟩; have hb2 := hd1.trans (hd2.mono hd1.size)))
    go_ret
    exact ⟨rfl, Hw.out.trans (hb2.mono Hw.out.size)⟩
  | false =>
    rw [hlg] at clg
    have hs := lg_short hlg
    have c1 := Lib.hid (fun W (hW : Below W0.heap.size W0 W) => Contains_any AI AR cI cR W0.heap.size b item W hW.size (hI.below hW (Nat.le_refl _)) (hR.below hW (Nat.le_refl _)) hs (hT0.below hW hT0.2))
    have c2 := Lib.hid (fun W (hW : Below W0.heap.size W0 W) => Contains_ref AI AR cI cR W0.heap.size b item W hW.size (hI.below hW (Nat.le_refl _)) (hR.below hW (Nat.le_refl _)) hs)
    have c3 := Lib.hid (fun z W (hW : Below W0.heap.size W0 W) => Label_any AI AR cI cR W0.heap.size b z W hW.size (hI.below hW (Nat.le_refl _)) (hR.below hW (Nat.le_refl _)) hs (hT0.below hW hT0.2))
    have c4 := Lib.hid (fun W (hW : Below W0.heap.size W0 W) => Label_ref AI AR cI cR W0.heap.size b item W hW.size (hI.below hW (Nat.le_refl _)) (hR.below hW (Nat.le_refl _)) hs)
    have Hpart := Lib.hid (fun z (hz : z ∈ cnL b item) L (hL : LbL b item L) => label_part hz hL)
    have HC := Lib.hid (fun base v W (hv : CnR b item base v W) => hv.ints)
    have c3i := Lib.hid (c3.out item)
    generalize cnL b item = CL at Hpart HC
    generalize nmR b item = e0 at c1 c2 c3i c4
    clear h h' hI hR hT hT0 hb0 hw0 hlg hs
    go_enter Tryd.func5, Tryd.ntmps5
    go_wp2_with (first
      | (have tk := tok; clear tok; go_at_call 17; rw [← hW0]; clear hW0; refine clg.out.mono ?_; rintro e w1 ⟨rfl, hd1⟩; have tok2 := tk; obtain ⟨z0, z1, z2, _⟩ := HX.out _ hd1)
      | (have tk := tok2; clear tok2; go_at_call 26; refine (c1.out _ hd1).mono ?_; rintro e w2 ⟨v2, rfl, hv2, hd⟩; have hb2 := hd1.trans (hd.mono hd1.size); obtain ⟨A2, k2, rfl, i2, hl2⟩ := HC.out _ _ _ hv2; have tok3 := tk; clear hd hv2 z0 z1 z2; obtain ⟨z0, z1, z2, _⟩ := HX.out _ hb2)
      | (have tk := tok3; clear tok3; go_at_call 27; refine (c2.out _ hb2).mono ?_; rintro e w3 ⟨v3, rfl, hv3, hd⟩; have hb3 := hb2.trans (hd.mono hb2.size); obtain ⟨A3, k3, rfl, i3, _⟩ := HC.out _ _ _ hv3; have j2 := i2.below hd hd.size; have tok4 := tk; clear i2 hd hv3 z0 z1 z2; obtain ⟨z0, z1, z2, _⟩ := HX.out _ hb3)
      | (have tk := tok4; clear tok4; go_at_call 28; refine (c3i.out _ hb3).mono ?_; rintro e w4 ⟨v4, rfl, hv4, hd⟩; have hb4 := hb3.trans (hd.mono hb3.size); obtain ⟨L4, A4, k4, rfl, i4, hL4, hs4⟩ := hv4.ints; have m2 := j2.below hd hd.size; have m3 := i3.below hd hd.size; have tok5 := tk; clear j2 i3 hd hv4 z0 z1 z2; obtain ⟨z0, z1, z2, _⟩ := HX.out _ hb4)
      | (have tk := tok5; clear tok5; go_at_call 29; refine (c4.out _ hb4).mono ?_; rintro e w5 ⟨v5, rfl, hv5, hd⟩; have hb5 := hb4.trans (hd.mono hb4.size); obtain ⟨L5, A5, k5, rfl, i5, hL5, _⟩ := hv5.ints; have e45 := hL4.unique hL5; subst e45; have n2 := m2.below hd hd.size; have n3 := m3.below hd hd.size; have n4 := i4.below hd hd.size; have tok6 := tk; clear m2 m3 i4 hd hv5 hL5 z0 z1 z2; obtain ⟨z0, z1, z2, _⟩ := HX.out _ hb5)
      | (have tk := tok6; clear tok6; go_at_call_of 25 (Value.slice A2 CL.length k2); refine (sameInts_ref A2 A3 k2 k3 _ CL CL _ n2 n3 (by omega)).mono ?_; rintro e w6 ⟨rfl, hd⟩; have hb6 := hb5.trans (hd.below _); have o2 := n2.below (hd.below w5.heap.size) (hd.below w5.heap.size).size; have o4 := n4.below (hd.below w5.heap.size) (hd.below w5.heap.size).size; have o5 := i5.below (hd.below w5.heap.size) (hd.below w5.heap.size).size; have tok7 := tk; clear n2 n3 n4 i5 hd z0 z1 z2; obtain ⟨z0, z1, z2, _⟩ := HX.out _ hb6)
      | (have tk := tok7; clear tok7; go_at_call_of 25 (Value.slice A4 L4.length k4); refine (sameInts_ref A4 A5 k4 k5 _ L4 L4 _ o4 o5 (by omega)).mono ?_; rintro e w7 ⟨rfl, hd⟩; have hb7 := hb6.trans (hd.below _); have P2 := Lib.hid (o2.below (hd.below w6.heap.size) (hd.below w6.heap.size).size); have P4 := Lib.hid (o4.below (hd.below w6.heap.size) (hd.below w6.heap.size).size); have tok8 := tk; clear o2 o4 o5 hd z0 z1 z2; obtain ⟨z0, z1, z2, _⟩ := HX.out _ hb7))
    clear z0 z1 z2
    have HL4 := Lib.hid hL4
    clear hL4
    go_loopw [13] (fun s wr => ∃ k : Nat, k ≤ CL.length ∧ s = .int .i64 k ∧ Below w7.heap.size w7 wr) (fun s _ => CL.length - (intOf s).toNat)
    case atStart => exact ⟨0, Nat.zero_le _, rfl, Below.refl _ _⟩
    case round =>
      obtain ⟨k, hk, rfl, hb8⟩ := hrel
      have hb08 := hb7.trans (hb8.mono hb7.size)
      by_cases hlt2 : k < CL.length
      · obtain ⟨bb, off, rfl, hbB, q0⟩ := P2.out.at hlt2
        have q1 := (hb8.cell (p := ⟨bb, off + k, none⟩) hbB).trans q0
        obtain ⟨hn0, hpart⟩ := Hpart.out CL[k] (List.getElem_mem hlt2) L4 HL4.out
        have cl0 := fun W (hW : Below w7.heap.size w7 W) => c3.out CL[k] W (hb7.trans (hW.mono hb7.size))
        rw [hn0] at cl0
        have cl := Lib.hid cl0
        have HP := Lib.hid hpart
        have k0 : (0 : Int) ≤ (k : Int) := by omega
        have k1 : (k : Int) < (CL.length : Int) := by omega
        have Keep := Lib.hid (fun W (hW : Below w7.heap.size w7 W) => show W.cell? ⟨w.heap.size, 0, none⟩ = some (.int .i64 b.p) ∧ W.cell? ⟨w.heap.size, 1, none⟩ = some (.slice AI b.its.length cI) ∧ W.cell? ⟨w.heap.size, 2, none⟩ = some (.slice AR b.rus.length cR) ∧ W.cell? ⟨bb, off + k, none⟩ = some (.int .i64 CL[k]) ∧ Below w7.heap.size w7 W from by
          obtain ⟨z0, z1, z2, _⟩ := HX.out W (hb7.trans (hW.mono hb7.size))
          exact ⟨z0, z1, z2, (hW.cell (p := ⟨bb, off + k, none⟩) hbB).trans q0, hW⟩)
        clear q0 cl0 hpart hn0 q1
        generalize CL[k] = y at cl HP Keep
        go_wp2_with fail
        go_region_held3 (fun W => W.cell? ⟨w.heap.size, 0, none⟩ = some (.int .i64 b.p) ∧ W.cell? ⟨w.heap.size, 1, none⟩ = some (.slice AI b.its.length cI) ∧ W.cell? ⟨w.heap.size, 2, none⟩ = some (.slice AR b.rus.length cR) ∧ W.cell? ⟨bb, off + k, none⟩ = some (.int .i64 y) ∧ Below w7.heap.size w7 W)
          ((refine Keep.out _ ?_; repeat (first | exact Below.refl _ _ | assumption | refine Below.drew ?_)))
          (first
            | (go_at_call 28; have tk := tok8; clear tok8; refine (cl.out _ (by repeat (first | exact Below.refl _ _ | assumption | refine Below.drew ?_))).mono ?_; rintro e w9 ⟨v9, rfl, hv9, hd⟩; have hb10 : Below w7.heap.size w7 w9 := Below.trans (by repeat (first | exact Below.refl _ _ | assumption | refine Below.drew ?_)) (hd.mono (Below.size (w := w7) (B := w7.heap.size) (by repeat (first | exact Below.refl _ _ | assumption | refine Below.drew ?_)))); obtain ⟨L9, A9, k9, rfl, i9, hL9, hs9⟩ := hv9.ints; clear hv9 hd))
        all_goals
          have Hin := Lib.hid (HP.out L9 hL9)
          have P9 := Lib.hid (P4.out.below hb10 hb10.size)
          have I9 := Lib.hid i9
          clear hL9 i9 HP cl hb8 hb08 Keep
          go_wp2_with fail
          go_loop [16] (fun s => ∃ j : Nat, j ≤ L9.length ∧ s = .int .i64 j) (fun s => L9.length - (intOf s).toNat)
          case atStart => exact ⟨0, Nat.zero_le _, rfl⟩
          case round =>
            obtain ⟨j, hj, rfl⟩ := hrel
            by_cases hjl : j < L9.length
            · obtain ⟨b3, o3, rfl, hb3, c3'⟩ := I9.out.at hjl
              have hc := Has_ref A4 k4 _ L4 L9[j] w9 P9.out (by omega)
              rw [Hin.out L9[j] (List.getElem_mem hjl)] at hc
              have Hc := Lib.hid hc
              clear hc
              generalize L9[j] = q at c3' Hc
              go_wp2_with (go_at_call 30; refine Hc.out.mono ?_; rintro e w10 ⟨rfl, rfl⟩)
              go_round
              case rel => exact ⟨j + 1, by omega, by go_num⟩
              case measure => simp [intOf]; omega
            · obtain rfl : j = L9.length := by omega
              go_wp2_with fail
              go_roundw
              case rel => exact ⟨k + 1, by omega, by go_num, hb10⟩
              case measure => simp [intOf]; omega
      · obtain rfl : k = CL.length := by omega
        go_wp2_with (go_at_call 18; refine (ck.out _ hb08).mono ?_; rintro e w9 ⟨rfl, hd⟩; have hb9 := hb08.trans (hd.mono hb08.size))
        go_ret
        exact ⟨rfl, Hw.out.trans (hb9.mono Hw.out.size)⟩
end Go.Proofs.YtgoojcjfhghmgaaDoor
