/- KitchenMore: the call returns true. -/
import Derived.Test.YtoegemlpboeodaaLawE
import Derived.Test.YtoegemlpboeodaaApp2
import Derived.Test.YtoegemlpboeodaaPlain8
import Derived.Deep.RegionHeld3
namespace Go.Proofs.Ytoegemlpboeodaa
open Go.RowKit

theorem info30 : (Try.prog.info? 30).map (fun i => (i.zero, i.size, i.bytes)) = some (some (.agg #[.int .i64 0, .int .i64 0]), 2, 16) := by kernel_rfl

theorem least_bd {l : List Bt} (hv : valB l = 0) : 0 ≤ leastR l ∧ leastR l ≤ 14000 := by
  obtain ⟨p1, t1, h0, _⟩ := best_spec hv
  have h7 := (valB_zero hv).1
  have hl := ord_length p1
  rw [leastR, if_pos hv]
  refine ⟨h0, ?_⟩
  have := (stAt_bd (o := (bestS l).2) hv (Nat.le_refl _)).2.2.2
  rw [stAt_all, t1] at this
  omega
theorem more_case (l : List Bt) (a b : Int) : (valB l = 0 ∧ valB (l ++ [(a, b)]) = 0 ∧ leastR l ≤ leastR (l ++ [(a, b)]) ∧ leastR (l ++ [(a, b)]) ≤ leastR l + a + b ∧ 0 ≤ leastR l ∧ leastR l ≤ 14000 ∧ 0 ≤ a ∧ a ≤ 1000 ∧ 0 ≤ b ∧ b ≤ 1000) ∨ ¬ valB l = 0 ∨ (valB l = 0 ∧ ¬ valB (l ++ [(a, b)]) = 0) := by
  by_cases h1 : valB l = 0
  · by_cases h2 : valB (l ++ [(a, b)]) = 0
    · have h3 := more_least h1 h2
      have h4 := least_bd h1
      have h5 := (valB_zero h2).2 (a, b) (by simp)
      simp only at h3 h5
      have e1 : leastR l = (bestS l).1 := if_pos h1
      have e2 : leastR (l ++ [(a, b)]) = (bestS (l ++ [(a, b)])).1 := if_pos h2
      exact .inl ⟨h1, h2, by omega, by omega, h4.1, h4.2, h5.1, h5.2.1, h5.2.2.1, h5.2.2.2⟩
    · exact .inr (.inr ⟨h1, h2⟩)
  · exact .inr (.inl h1)

theorem keepM {w1 : World} {s : Nat} {a b : Int} (z0 : w1.cell? ⟨s, 0, none⟩ = some (.int .i64 a)) (z1 : w1.cell? ⟨s, 1, none⟩ = some (.int .i64 b)) {W : World} (h : Below w1.heap.size w1 W) :
    W.cell? ⟨s, 0, none⟩ = some (.int .i64 a) ∧ W.cell? ⟨s, 1, none⟩ = some (.int .i64 b) ∧ Below w1.heap.size w1 W :=
  ⟨(h.cell (p := ⟨s, 0, none⟩) (cell_lt z0)).trans z0, (h.cell (p := ⟨s, 1, none⟩) (cell_lt z1)).trans z1, h⟩
set_option maxRecDepth 100000 in
set_option maxHeartbeats 1000000 in
theorem more_law (A : Option Addr) (c : Nat) (l : List Bt) (a b : Int) (w : World) (h : PairsAt w.heap.size w A l) (hm : l.length ≤ maxLen) :
    Calls Try.prog 12 #[.slice A l.length c, .agg #[.int .i64 a, .int .i64 b]] w fun e w' => e = .returned (.bool true) ∧ Below w.heap.size w w' := by
  have cl := Lib.hid (fun W => long_any A none c 0 l.length 0 W hm (by decide))
  unfold maxLen at hm
  by_cases hlong : longB l.length 0 = true
  · rw [hlong] at cl
    clear h hlong
    go_enter Try.func12, Try.ntmps12
    go_wp2_with (first | (go_at_call 24; refine (cl.out _).mono ?_; rintro e w1 ⟨rfl, rfl⟩) | (go_at_call 18; refine (known_any _).mono ?_; rintro e w5 ⟨rfl, hb5⟩))
    go_ret
    exact ⟨rfl, ((Below.refl _ _).alloc (Nat.le_refl _) _).trans (hb5.mono (by simp))⟩
  · have hl1 : longB l.length 0 = false := by simpa using hlong
    rw [hl1] at cl
    have hs : l.length ≤ 100 := by simp [longB] at hl1; omega
    clear hm
    have c44 := Lib.hid (fun W (hW : Below w.heap.size w W) => Least_any A c w.heap.size l W hW.size (h.below (B' := w.heap.size) hW (Nat.le_refl _)) (by omega))
    have hcase := more_case l a b
    have c44b : ∀ (A5 : Option Addr) (c5 : Nat) (W : World), PairsAt W.heap.size W A5 (l ++ [(a, b)]) → Calls Try.prog 44 #[.slice A5 (l.length + 1) c5] W fun e w' => e = .returned (.tuple #[.int .i64 (leastR (l ++ [(a, b)])), .int .i64 (valB (l ++ [(a, b)]))]) ∧ Below W.heap.size W w' := fun A5 c5 W hI => by
      have e : (l ++ [(a, b)]).length = l.length + 1 := by simp
      have := Least_any A5 c5 W.heap.size (l ++ [(a, b)]) W (Nat.le_refl _) hI (by omega)
      rw [e] at this
      exact this
    have C44b := Lib.hid c44b
    clear c44b
    generalize leastR l = L1 at c44 hcase
    generalize leastR (l ++ [(a, b)]) = L2 at C44b hcase
    generalize valB l = v1 at c44 hcase
    generalize valB (l ++ [(a, b)]) = v2 at C44b hcase
    have HC := Lib.hid hcase
    clear hcase
    have hw0 : Below w.heap.size w (w.alloc (.cells #[.int .i64 a, .int .i64 b] 30)) := (Below.refl _ _).alloc (Nat.le_refl _) _
    have hbk := Blk.new w 30 #[.int .i64 a, .int .i64 b]
    have HB := Lib.hid hbk
    have H := Lib.hid h
    clear hlong hl1 h hbk
    obtain ⟨i0, hi, hz0, hz1, hz2⟩ := info_parts info30
    go_enter Try.func12, Try.ntmps12
    go_wp2_with (first
      | (go_at_call 24; refine (cl.out _).mono ?_; rintro e w1 ⟨rfl, rfl⟩)
      | (go_at_call 44; refine (c44.out _ hw0).mono ?_; rintro e w1 ⟨rfl, hb1⟩; have hb1w := hw0.trans (hb1.mono hw0.size); have HB1 := Lib.hid (HB.out.below hb1 (by simp)); obtain ⟨z0, z1, _⟩ := blk2 HB1.out))
    have HZ := Lib.hid (And.intro z0 z1)
    go_region_held3 (fun W => W.cell? ⟨w.heap.size, 0, none⟩ = some (.int .i64 a) ∧ W.cell? ⟨w.heap.size, 1, none⟩ = some (.int .i64 b) ∧ Below w1.heap.size w1 W)
      ((refine keepM HZ.out.1 HZ.out.2 ?_; repeat (first | exact Below.refl _ _ | assumption | refine Below.drew ?_ | refine balloc ?_ _)))
      (first
        | (refine step_app' _ (by rfl) (.tmp 18) (.tmp 19) 33 (by rfl) w1.heap.size 30 i0 _ 2 16 Try.underlying33 hi hz0 hz1 hz2 (by rfl) (by decide) (.slice (some ⟨_, 0, none⟩) 0 0) 0 [] (by rfl)
            (by first | exact own_new' 2 rfl (Nat.le_refl _) | exact World.ownsRow.alloc (World.ownsRow.drew (own_new' 2 rfl (Nat.le_refl _))) _ | exact own_new' 2 (by simp) (by omega))
            A l.length c (flat2 l) (by rfl) (flat2_length l) H.out.none_nil
            (PairsAt.news (PairsAt.below H.out (Below.trans hb1w (Below.mono (by repeat (first | exact Below.refl _ _ | assumption | refine Below.drew ?_ | refine balloc ?_ _)) hb1w.size)) (Nat.le_refl _)))
            (flat2_one l) (by omega) (by decide) (Below.size (w := w1) (B := w1.heap.size) (by repeat (first | exact Below.refl _ _ | assumption | refine Below.drew ?_ | refine balloc ?_ _))) l.length (by omega) (flat2 l) (by rfl) ?_; intro A4 c4 w4 hown4 hg4 hlow4; have hb4 : Below w1.heap.size w1 w4 := bgrown (by repeat (first | exact Below.refl _ _ | assumption | refine Below.drew ?_ | refine balloc ?_ _)) hg4 hlow4)
        | (refine step_app' _ (by rfl) (.tmp 20) (.tmp 22) 33 (by rfl) w1.heap.size 30 i0 _ 2 16 Try.underlying33 hi hz0 hz1 hz2 (by rfl) (by decide) _ l.length (flat2 l) (by rfl)
            (by repeat (first | assumption | refine World.ownsRow.drew ?_ | refine World.ownsRow.alloc ?_ _))
            _ 1 1 [.int .i64 a, .int .i64 b] (by rfl) (by rfl) (by simp)
            (news_blk (t := 30) (cs := #[.int .i64 a, .int .i64 b]) (by repeat (first | with_reducible exact blk_new' (by simp) | with_reducible refine Blk.drew ?_ | with_reducible refine Blk.alloc ?_ _ | with_reducible refine Blk.grown ?_ hg4 (by simp [Value.ownBlock]))))
            (by simp [Value.oneCell']) (by omega) (by decide) (Below.size (w := w1) (B := w1.heap.size) (by repeat (first | exact Below.refl _ _ | assumption | refine Below.drew ?_ | refine balloc ?_ _))) (l.length + 1) (by omega) (flat2 (l ++ [(a, b)])) (by rw [flat2_append]; rfl) ?_; intro A5 c5 w5 hown5 hg5 hlow5; have hb5 : Below w1.heap.size w1 w5 := bgrown (by repeat (first | exact Below.refl _ _ | assumption | refine Below.drew ?_ | refine balloc ?_ _)) hg5 hlow5))
    all_goals
      have hI : PairsAt _ _ A5 (l ++ [(a, b)]) := PairsAt.of_own (l := l ++ [(a, b)]) (by rw [List.length_append]; exact hown5)
      have hbw := hb1w.trans (hb5.mono hb1w.size)
      have Hb5 := Lib.hid hb5
      have HI := Lib.hid hI
      clear hI
      have HX := Lib.hid (keepM HZ.out.1 HZ.out.2 Hb5.out)
      rcases HC.out with ⟨q1, q2, q3, q4, q5, q6, q7, q8, q9, q10⟩ | q1 | ⟨q1, q2⟩
      · subst q1 q2
        have d1 : decide (L1 ≤ L2) = true := by simpa using q3
        have d2 : decide (L2 ≤ L1 + a + b) = true := by simpa using q4
        go_wp2_with (first
          | (go_at_call 44; refine (C44b.out _ _ _ HI.out).mono ?_; rintro e w6 ⟨rfl, hb6⟩; have y0 := (hb6.cell (p := ⟨w.heap.size, 0, none⟩) (cell_lt HX.out.1)).trans HX.out.1; have y1 := (hb6.cell (p := ⟨w.heap.size, 1, none⟩) (cell_lt HX.out.2.1)).trans HX.out.2.1)
          | (go_at_call 18; refine (known_any _).mono ?_; rintro e w7 ⟨rfl, hb7⟩))
        go_ret
        exact ⟨rfl, (hbw.trans (hb6.mono hbw.size)).trans (hb7.mono (Nat.le_trans hbw.size hb6.size))⟩
      · have e1 : (v1 == 0) = false := by simpa using q1
        have e2 : (v1 != 0) = true := by simpa using q1
        go_wp2_with (first
          | (go_at_call 44; refine (C44b.out _ _ _ HI.out).mono ?_; rintro e w6 ⟨rfl, hb6⟩; have y0 := (hb6.cell (p := ⟨w.heap.size, 0, none⟩) (cell_lt HX.out.1)).trans HX.out.1; have y1 := (hb6.cell (p := ⟨w.heap.size, 1, none⟩) (cell_lt HX.out.2.1)).trans HX.out.2.1)
          | (go_at_call 18; refine (known_any _).mono ?_; rintro e w7 ⟨rfl, hb7⟩))
        go_ret
        exact ⟨rfl, (hbw.trans (hb6.mono hbw.size)).trans (hb7.mono (Nat.le_trans hbw.size hb6.size))⟩
      · subst q1
        have e1 : (v2 == 0) = false := by simpa using q2
        have e2 : (v2 != 0) = true := by simpa using q2
        go_wp2_with (first
          | (go_at_call 44; refine (C44b.out _ _ _ HI.out).mono ?_; rintro e w6 ⟨rfl, hb6⟩; have y0 := (hb6.cell (p := ⟨w.heap.size, 0, none⟩) (cell_lt HX.out.1)).trans HX.out.1; have y1 := (hb6.cell (p := ⟨w.heap.size, 1, none⟩) (cell_lt HX.out.2.1)).trans HX.out.2.1)
          | (go_at_call 18; refine (known_any _).mono ?_; rintro e w7 ⟨rfl, hb7⟩))
        go_ret
        exact ⟨rfl, (hbw.trans (hb6.mono hbw.size)).trans (hb7.mono (Nat.le_trans hbw.size hb6.size))⟩
end Go.Proofs.Ytoegemlpboeodaa
