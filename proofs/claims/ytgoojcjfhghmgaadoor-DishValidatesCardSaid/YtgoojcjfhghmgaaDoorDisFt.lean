/- The law of valid books, given the contract of Copy. -/
import Derived.Test.YtgoojcjfhghmgaaDoorDisFs
import Derived.Deep.RegionHeld3
namespace Go.Proofs.YtgoojcjfhghmgaaDoor
open Go.RowKit

/-- The contract of Copy. -/
def CopyOk : Prop := ∀ (AI AR : Option Addr) (cI cR B : Nat) (b : Bk) (w : World) (_ : B ≤ w.heap.size) (_ : ItsAt B w AI b.its) (_ : RusAt B w AR b.rus) (_ : Short b),
    Calls Tryd.prog 19 #[.agg #[.int .i64 b.p, .slice AI b.its.length cI, .slice AR b.rus.length cR]] w fun e w' => ∃ AI' AR' cI' cR', e = .returned (.agg #[.int .i64 b.p, .slice AI' b.its.length cI', .slice AR' b.rus.length cR']) ∧ ItsAt w'.heap.size w' AI' b.its ∧ RusAt w'.heap.size w' AR' b.rus ∧ Below w.heap.size w w'
theorem keep6 {w0 W : World} {n n' : Nat} {c0 c1 c2 e0 e1 e2 : Value} (hlt : n < w0.heap.size) (hlt' : n' < w0.heap.size) (h : w0.cell? ⟨n, 0, none⟩ = some c0 ∧ w0.cell? ⟨n, 1, none⟩ = some c1 ∧ w0.cell? ⟨n, 2, none⟩ = some c2) (h' : w0.cell? ⟨n', 0, none⟩ = some e0 ∧ w0.cell? ⟨n', 1, none⟩ = some e1 ∧ w0.cell? ⟨n', 2, none⟩ = some e2) (hb : Below w0.heap.size w0 W) :
    W.cell? ⟨n, 0, none⟩ = some c0 ∧ W.cell? ⟨n, 1, none⟩ = some c1 ∧ W.cell? ⟨n, 2, none⟩ = some c2 ∧ W.cell? ⟨n', 0, none⟩ = some e0 ∧ W.cell? ⟨n', 1, none⟩ = some e1 ∧ W.cell? ⟨n', 2, none⟩ = some e2 ∧ Below w0.heap.size w0 W :=
  ⟨(hb.cell (p := ⟨n, 0, none⟩) hlt).trans h.1, (hb.cell (p := ⟨n, 1, none⟩) hlt).trans h.2.1, (hb.cell (p := ⟨n, 2, none⟩) hlt).trans h.2.2, (hb.cell (p := ⟨n', 0, none⟩) hlt').trans h'.1, (hb.cell (p := ⟨n', 1, none⟩) hlt').trans h'.2.1, (hb.cell (p := ⟨n', 2, none⟩) hlt').trans h'.2.2, hb⟩

set_option maxRecDepth 100000 in
set_option maxHeartbeats 4000000 in
theorem law_validates (hC : CopyOk) (AI AR : Option Addr) (cI cR : Nat) (b : Bk) (w : World) (h : ItsAt w.heap.size w AI b.its) (h' : RusAt w.heap.size w AR b.rus) (hT : Tab w) :
    Calls Tryd.prog 3 #[.agg #[.int .i64 b.p, .slice AI b.its.length cI, .slice AR b.rus.length cR]] w fun e w' => e = .returned (.bool true) ∧ Below w.heap.size w w' := by
  have hb0 := Blk.new w 25 #[.int .i64 b.p, .slice AI b.its.length cI, .slice AR b.rus.length cR]
  have hw0 : Below w.heap.size w (w.alloc (.cells #[.int .i64 b.p, .slice AI b.its.length cI, .slice AR b.rus.length cR] 25)) := (Below.refl _ _).alloc (Nat.le_refl _) _
  obtain ⟨W0, hW0⟩ : ∃ W0, W0 = w.alloc (.cells #[.int .i64 b.p, .slice AI b.its.length cI, .slice AR b.rus.length cR] 25) := ⟨_, rfl⟩
  rw [← hW0] at hb0 hw0
  have hlt : w.heap.size < W0.heap.size := hb0.lt
  have hI := h.below hw0 (Nat.le_of_lt hlt)
  have hR := h'.below hw0 (Nat.le_of_lt hlt)
  have hT0 := hT.below hw0 hT.2
  have clg := Lib.hid (Long_any AI AR cI cR _ b W0 (Nat.le_refl _) hI hR)
  have ck := Lib.hid (fun W (hW : Below W0.heap.size W0 W) => known_any W (hT0.below hW hT0.2))
  have Hw := Lib.hid hw0
  have HB0 := Lib.hid hb0
  have HX := Lib.hid (fun W (hW : Below W0.heap.size W0 W) => blk3 (hb0.below hW hlt))
  have tok := Lib.hid (Nat.le_refl 0)
  cases hlg : lgR b with
  | true =>
    rw [hlg] at clg
    clear h h' hI hR hT hT0 hb0 hw0 hlg
    go_enter Tryd.func3, Tryd.ntmps3
    go_wp2_with (first
      | (have tk := tok; clear tok; go_at_call 17; rw [← hW0]; clear hW0; refine clg.out.mono ?_; rintro e w1 ⟨rfl, hd1⟩; have tok2 := tk; obtain ⟨z0, z1, z2, _⟩ := HX.out _ hd1)
      | (have tk := tok2; clear tok2; go_at_call 18; refine (ck.out _ hd1).mono ?_; rintro e w2 ⟨rfl, hd2⟩; have hb2 := hd1.trans (hd2.mono hd1.size)))
    go_ret
    exact ⟨rfl, Hw.out.trans (hb2.mono Hw.out.size)⟩
  | false =>
    rw [hlg] at clg
    have hs := lg_short hlg
    have c19 := Lib.hid (fun W (hW : Below W0.heap.size W0 W) => hC AI AR cI cR W0.heap.size b W hW.size (hI.below hW (Nat.le_refl _)) (hR.below hW (Nat.le_refl _)) hs)
    have c20 := Lib.hid (fun A' R' k1 k2 B' W1 W (h1 : ItsAt B' W1 A' b.its) (h2 : RusAt B' W1 R' b.rus) (hb : Below B' W1 W) (hB : B' ≤ W.heap.size) => Validate_any A' R' k1 k2 B' b W hB (h1.below hb (Nat.le_refl _)) (h2.below hb (Nat.le_refl _)) hs)
    have c21 := Lib.hid (fun W (hW : Below W0.heap.size W0 W) => Validate_ref AI AR cI cR W0.heap.size b W hW.size (hI.below hW (Nat.le_refl _)) (hR.below hW (Nat.le_refl _)) hs)
    have c22 := Lib.hid (fun A' R' k1 k2 B' W1 W (h1 : ItsAt B' W1 A' b.its) (h2 : RusAt B' W1 R' b.rus) (hb : Below B' W1 W) (hB : B' ≤ W.heap.size) (hW : Below W0.heap.size W0 W) (hB0 : W0.heap.size ≤ B') => Same_ref A' R' AI AR k1 k2 cI cR B' b W hB (h1.below hb (Nat.le_refl _)) (h2.below hb (Nat.le_refl _)) (hI.below hW hB0) (hR.below hW hB0) hs)
    generalize vlR b = e0 at c20 c21
    clear h h' hI hR hT hT0 hb0 hw0 hlg hs
    go_enter Tryd.func3, Tryd.ntmps3
    go_wp2_with (first
      | (have tk := tok; clear tok; go_at_call 17; rw [← hW0]; clear hW0; refine clg.out.mono ?_; rintro e w1 ⟨rfl, hd1⟩; have tok2 := tk; obtain ⟨z0, z1, z2, _⟩ := HX.out _ hd1)
      | (have tk := tok2; clear tok2; go_at_call 19; refine (c19.out _ hd1).mono ?_; rintro e w2 ⟨A', R', k1, k2, rfl, hi2, hr2, hd2⟩; have hb2 := hd1.trans (hd2.mono hd1.size); have tok3 := tk; clear z0 z1 z2; obtain ⟨z0, z1, z2, _⟩ := HX.out _ hb2))
    clear z0 z1 z2
    obtain ⟨W3, hW3⟩ : ∃ W3, W3 = w2.alloc (.cells #[.int .i64 b.p, .slice A' b.its.length k1, .slice R' b.rus.length k2] 25) := ⟨_, rfl⟩
    have hk3 : Blk W3 w2.heap.size 25 #[.int .i64 b.p, .slice A' b.its.length k1, .slice R' b.rus.length k2] := by rw [hW3]; exact Blk.new w2 25 _
    have hb3 : Below W0.heap.size W0 W3 := by rw [hW3]; exact balloc hb2 _
    have hd23 : Below w2.heap.size w2 W3 := by rw [hW3]; exact balloc (Below.refl _ _) _
    have HK3 := Lib.hid hk3
    have HI2 := Lib.hid (hi2.below hd23 hd23.size)
    have HR2 := Lib.hid (hr2.below hd23 hd23.size)
    have hl3 : w.heap.size < W3.heap.size := Nat.lt_of_lt_of_le hlt hb3.size
    have hl3' : w2.heap.size < W3.heap.size := hk3.lt
    have HX3 := Lib.hid (HB0.out.below hb3 hlt)
    rw [← hW3]
    clear hW3 hk3 hi2 hr2 hd23 hb2 hd1 hd2
    go_region_held3 (fun W => W.cell? ⟨w.heap.size, 0, none⟩ = some (.int .i64 b.p) ∧ W.cell? ⟨w.heap.size, 1, none⟩ = some (.slice AI b.its.length cI) ∧ W.cell? ⟨w.heap.size, 2, none⟩ = some (.slice AR b.rus.length cR) ∧ W.cell? ⟨w2.heap.size, 0, none⟩ = some (.int .i64 b.p) ∧ W.cell? ⟨w2.heap.size, 1, none⟩ = some (.slice A' b.its.length k1) ∧ W.cell? ⟨w2.heap.size, 2, none⟩ = some (.slice R' b.rus.length k2) ∧ Below W3.heap.size W3 W)
      ((refine keep6 hl3 hl3' ⟨HX3.out.cell 0, HX3.out.cell 1, HX3.out.cell 2⟩ ⟨HK3.out.cell 0, HK3.out.cell 1, HK3.out.cell 2⟩ ?_; repeat (first | exact Below.refl _ _ | assumption | refine Below.drew ?_)))
      (first
        | (go_at_call 20; have tk := tok3; clear tok3; refine (c20.out A' R' k1 k2 _ W3 _ HI2.out HR2.out (by repeat (first | exact Below.refl _ _ | assumption | refine Below.drew ?_ | refine balloc ?_ _)) (Below.size (w := W3) (B := W3.heap.size) (by repeat (first | exact Below.refl _ _ | assumption | refine Below.drew ?_ | refine balloc ?_ _)))).mono ?_; rintro e w5 ⟨rfl, hd5⟩; have tok4 := tk; have hb5 : Below W3.heap.size W3 w5 := Below.trans (by repeat (first | exact Below.refl _ _ | assumption | refine Below.drew ?_ | refine balloc ?_ _)) (hd5.mono (Below.size (w := W3) (B := W3.heap.size) (by repeat (first | exact Below.refl _ _ | assumption | refine Below.drew ?_ | refine balloc ?_ _)))))
        | (go_at_call 21; have tk := tok4; clear tok4; refine (c21.out _ (hb3.trans (Below.mono (by repeat (first | exact Below.refl _ _ | assumption | refine Below.drew ?_ | refine balloc ?_ _)) hb3.size))).mono ?_; rintro e w6 ⟨rfl, hd6⟩; have tok5 := tk; have hb6 : Below W3.heap.size W3 w6 := Below.trans (by repeat (first | exact Below.refl _ _ | assumption | refine Below.drew ?_ | refine balloc ?_ _)) (hd6.mono (Below.size (w := W3) (B := W3.heap.size) (by repeat (first | exact Below.refl _ _ | assumption | refine Below.drew ?_ | refine balloc ?_ _)))))
        | (go_at_call 22; have tk := tok5; clear tok5; refine (c22.out A' R' k1 k2 _ W3 _ HI2.out HR2.out (by repeat (first | exact Below.refl _ _ | assumption | refine Below.drew ?_ | refine balloc ?_ _)) (Below.size (w := W3) (B := W3.heap.size) (by repeat (first | exact Below.refl _ _ | assumption | refine Below.drew ?_ | refine balloc ?_ _))) (hb3.trans (Below.mono (by repeat (first | exact Below.refl _ _ | assumption | refine Below.drew ?_ | refine balloc ?_ _)) hb3.size)) hb3.size).mono ?_; rintro e w7 ⟨rfl, hd7⟩; have tok6 := tk; have hb7 : Below W3.heap.size W3 w7 := Below.trans (by repeat (first | exact Below.refl _ _ | assumption | refine Below.drew ?_ | refine balloc ?_ _)) (hd7.mono (Below.size (w := W3) (B := W3.heap.size) (by repeat (first | exact Below.refl _ _ | assumption | refine Below.drew ?_ | refine balloc ?_ _)))))
        | (go_at_call 18; have tk := tok6; clear tok6; refine (ck.out _ (hb3.trans (Below.mono (by repeat (first | exact Below.refl _ _ | assumption | refine Below.drew ?_ | refine balloc ?_ _)) hb3.size))).mono ?_; rintro e w8 ⟨rfl, hd8⟩; have hb8 : Below W3.heap.size W3 w8 := Below.trans (by repeat (first | exact Below.refl _ _ | assumption | refine Below.drew ?_ | refine balloc ?_ _)) (hd8.mono (Below.size (w := W3) (B := W3.heap.size) (by repeat (first | exact Below.refl _ _ | assumption | refine Below.drew ?_ | refine balloc ?_ _))))))
    all_goals
      have HB8 := Lib.hid (Hw.out.trans ((hb3.trans (hb8.mono hb3.size)).mono Hw.out.size))
      clear hb5 hb6 hb7 hb8
      go_wp2_with fail
      go_ret
      exact ⟨rfl, HB8.out⟩
end Go.Proofs.YtgoojcjfhghmgaaDoor
