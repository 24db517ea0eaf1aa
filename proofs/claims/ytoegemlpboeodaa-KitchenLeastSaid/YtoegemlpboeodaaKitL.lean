/- best, Least, Best. -/
import Derived.Test.YtoegemlpboeodaaKitK
import Derived.Deep.OwnRows
import Derived.Laws.EntriesVeiled
namespace Go.Proofs.Ytoegemlpboeodaa
open Go.RowKit

/-- make([]int, 0, n). -/
theorem make0 (n : Nat) (hn : n ≤ 1000000) : ∃ cs : Array Value, cs.size = n ∧ ∀ w : World, (Instr.makeSlice 34 (.int .i64 0) (.int .i64 (n : Int))).run Try.prog w = .ok (.slice (some ⟨w.heap.size, 0, none⟩) 0 n) (w.alloc (.cells cs 3)) := by
  obtain ⟨i0, hi, hz0, hz1, hz2⟩ := info_parts info3
  refine ⟨madeCells (Value.int .i64 0).cells (n * i0.size), ?_, fun w => ?_⟩
  rotate_left
  · have hr := run_make (P := Try.prog) w 34 3 i0 _ Try.underlying34 hi hz0 .i64 .i64 0 n (Int.le_refl _) (by omega) (by rw [hz2]; omega) (by omega)
    simp only [Int.toNat_zero, Int.toNat_natCast] at hr
    exact hr
  · rw [size_madeCells, hz1, Nat.mul_one]

/-- The state when the search begins. -/
theorem Srch.start (w : World) (lv : Value) {n : Nat} {cs : Array Value} (hcs : cs.size = n) (hn : n ≤ 1000000) :
    Srch w lv n [] (-1) [] ((((((w.alloc (.cells #[lv] 33)).alloc (.cells #[.slice none 0 0] 34)).alloc (.cells #[.int .i64 (-1)] 3)).alloc (.cells cs 3)).alloc (.cells #[.slice (some ⟨w.heap.size + 3, 0, none⟩) 0 n] 34)).alloc (.cells #[srchF w.heap.size] 93)) := by
  have e1 : (w.alloc (.cells #[lv] 33)).heap.size = w.heap.size + 1 := by simp
  have e2 : ((w.alloc (.cells #[lv] 33)).alloc (.cells #[.slice none 0 0] 34)).heap.size = w.heap.size + 2 := by simp
  have e3 : (((w.alloc (.cells #[lv] 33)).alloc (.cells #[.slice none 0 0] 34)).alloc (.cells #[.int .i64 (-1)] 3)).heap.size = w.heap.size + 3 := by simp
  have e4 : ((((w.alloc (.cells #[lv] 33)).alloc (.cells #[.slice none 0 0] 34)).alloc (.cells #[.int .i64 (-1)] 3)).alloc (.cells cs 3)).heap.size = w.heap.size + 4 := by simp
  have e5 : (((((w.alloc (.cells #[lv] 33)).alloc (.cells #[.slice none 0 0] 34)).alloc (.cells #[.int .i64 (-1)] 3)).alloc (.cells cs 3)).alloc (.cells #[.slice (some ⟨w.heap.size + 3, 0, none⟩) 0 n] 34)).heap.size = w.heap.size + 5 := by simp
  refine ⟨((((((Blk.new w 33 #[lv]).alloc _).alloc _).alloc _).alloc _).alloc _), ⟨.slice none 0 0, ?_, World.ownsRow_nil _ _ _ _⟩, ?_, ?_, ?_, ?_, ?_⟩
  · have := ((((Blk.new (w.alloc (.cells #[lv] 33)) 34 #[.slice none 0 0]).alloc (.cells #[.int .i64 (-1)] 3)).alloc (.cells cs 3)).alloc (.cells #[.slice (some ⟨w.heap.size + 3, 0, none⟩) 0 n] 34)).alloc (.cells #[srchF w.heap.size] 93)
    rwa [e1] at this
  · have := (((Blk.new ((w.alloc (.cells #[lv] 33)).alloc (.cells #[.slice none 0 0] 34)) 3 #[.int .i64 (-1)]).alloc (.cells cs 3)).alloc (.cells #[.slice (some ⟨w.heap.size + 3, 0, none⟩) 0 n] 34)).alloc (.cells #[srchF w.heap.size] 93)
    rwa [e2] at this
  · have := ((World.ownsRow_made (e := 3) (size := 1) (base := w.heap.size + 3) (((w.alloc (.cells #[lv] 33)).alloc (.cells #[.slice none 0 0] 34)).alloc (.cells #[.int .i64 (-1)] 3)) cs n (by rw [e3]; exact Nat.le_refl _) (by simp only [maxLen]; omega) (by omega)).alloc (.cells #[.slice (some ⟨w.heap.size + 3, 0, none⟩) 0 n] 34)).alloc (.cells #[srchF w.heap.size] 93)
    rwa [e3] at this
  · have := (Blk.new ((((w.alloc (.cells #[lv] 33)).alloc (.cells #[.slice none 0 0] 34)).alloc (.cells #[.int .i64 (-1)] 3)).alloc (.cells cs 3)) 34 #[.slice (some ⟨w.heap.size + 3, 0, none⟩) 0 n]).alloc (.cells #[srchF w.heap.size] 93)
    rwa [e4] at this
  · have := Blk.new (((((w.alloc (.cells #[lv] 33)).alloc (.cells #[.slice none 0 0] 34)).alloc (.cells #[.int .i64 (-1)] 3)).alloc (.cells cs 3)).alloc (.cells #[.slice (some ⟨w.heap.size + 3, 0, none⟩) 0 n] 34)) 93 #[srchF w.heap.size]
    rwa [e5] at this
  · exact ((((((Below.refl _ w).alloc (Nat.le_refl _) _).alloc (by simp) _).alloc (by simp; omega) _).alloc (by simp; omega) _).alloc (by simp; omega) _).alloc (by simp; omega) _

set_option maxRecDepth 100000 in
set_option maxHeartbeats 2000000 in
theorem best_any (A : Option Addr) (c : Nat) (l : List Bt) (w : World) (hv : valB l = 0) (hA : PairsAt w.heap.size w A l) :
    Calls Try.prog 68 #[.slice A l.length c] w fun e w' => ∃ v, e = .returned (.tuple #[v, .int .i64 (bestS l).1]) ∧ w'.ownsRow w.heap.size 3 1 v (bestS l).2.length ((bestS l).2.map (Value.int .i64)) ∧ Below w.heap.size w w' := by
  have h7 := (valB_zero hv).1
  have ct := Lib.hid (try_any w A c l hv hA l.length [] 0 0 (-1) [])
  clear hv hA
  obtain ⟨cs, hcs, hmk⟩ := make0 l.length (by omega)
  have Hcs := Lib.hid hcs
  clear hcs
  go_enter Try.func68, Try.ntmps68
  go_wp2_with (go_at_call 77; refine (ct.out _ (by simp) (by omega) (by simp) (by omega) (by simp) (Srch.start _ _ Hcs.out (by omega))).mono ?_; rintro e W ⟨rfl, hS⟩; obtain ⟨y0, y1, y2, y3⟩ := hS.cells; obtain ⟨v, hvb, hvr⟩ := hS.bf; have y4 := hvb.cell 0; obtain ⟨A9, c9, rfl⟩ := own_form hvr; have HS := Lib.hid hS; clear hS; change W.cell? ⟨w.heap.size + 1, 0, none⟩ = some _ at y4; change W.cell? ⟨w.heap.size + 1 + 1, 0, none⟩ = some _ at y1)
  go_quiet (fail)
  go_wp2_with fail
  go_ret2
  exact ⟨_, rfl, own_base hvr (by omega), ⟨HS.out.old.os, HS.out.old.tape, HS.out.old.output, HS.out.old.size, HS.out.old.block⟩⟩

/-- What Least returns. -/
def leastR (l : List Bt) : Int := if valB l = 0 then (bestS l).1 else 0
/-- What Best returns. -/
def bestR (l : List Bt) : List Int := if valB l = 0 then (bestS l).2 else []

set_option maxHeartbeats 400000 in
theorem Least_any (A : Option Addr) (c B : Nat) (l : List Bt) (w : World) (hB : B ≤ w.heap.size) (h : PairsAt B w A l) (hm : l.length ≤ 1000) :
    Calls Try.prog 44 #[.slice A l.length c] w fun e w' => e = .returned (.tuple #[.int .i64 (leastR l), .int .i64 (valB l)]) ∧ Below w.heap.size w w' := by
  have cv := Lib.hid (validate_any A c B l w hB h hm)
  by_cases hv : valB l = 0
  · have hr := Lib.hid (show leastR l = (bestS l).1 from if_pos hv)
    have cb := Lib.hid (fun (W : World) (hW : Below w.heap.size w W) => best_any A c l W hv (h.below (hW.mono hB) (Nat.le_trans hB hW.size)))
    rw [hv] at cv ⊢
    clear hv h
    go_enter Try.func44, Try.ntmps44
    go_wp2_with (first | (go_at_call 42; refine cv.out.mono ?_; rintro e w1 ⟨rfl, hb1⟩) | (go_at_call 68; refine (cb.out _ hb1).mono ?_; rintro e w2 ⟨v, rfl, hrow, hb⟩))
    go_ret2
    exact ⟨by rw [hr.out]; rfl, hb1.trans (hb.mono hb1.size)⟩
  · have hr := Lib.hid (show leastR l = 0 from if_neg hv)
    have hne : (valB l == 0) = false := by simpa using hv
    generalize valB l = e0 at cv hv hne ⊢
    clear hv h
    go_enter Try.func44, Try.ntmps44
    go_wp2_with (first | (go_at_call 42; refine cv.out.mono ?_; rintro e w1 ⟨rfl, hb1⟩))
    go_ret2
    exact ⟨by rw [hr.out]; rfl, hb1⟩

set_option maxHeartbeats 400000 in
theorem Best_any (A : Option Addr) (c B : Nat) (l : List Bt) (w : World) (hB : B ≤ w.heap.size) (h : PairsAt B w A l) (hm : l.length ≤ 1000) :
    Calls Try.prog 46 #[.slice A l.length c] w fun e w' => ∃ v, e = .returned (.tuple #[v, .int .i64 (valB l)]) ∧ w'.ownsRow w.heap.size 3 1 v (bestR l).length ((bestR l).map (Value.int .i64)) ∧ Below w.heap.size w w' := by
  have cv := Lib.hid (validate_any A c B l w hB h hm)
  by_cases hv : valB l = 0
  · have hr := Lib.hid (show bestR l = (bestS l).2 from if_pos hv)
    have cb := Lib.hid (fun (W : World) (hW : Below w.heap.size w W) => best_any A c l W hv (h.below (hW.mono hB) (Nat.le_trans hB hW.size)))
    rw [hv] at cv ⊢
    clear hv h
    go_enter Try.func46, Try.ntmps46
    go_wp2_with (first | (go_at_call 42; refine cv.out.mono ?_; rintro e w1 ⟨rfl, hb1⟩) | (go_at_call 68; refine (cb.out _ hb1).mono ?_; rintro e w2 ⟨v, rfl, hrow, hb⟩; obtain ⟨A9, c9, rfl⟩ := own_form hrow))
    go_ret2
    exact ⟨_, rfl, by rw [hr.out]; exact own_base hrow hb1.size, hb1.trans (hb.mono hb1.size)⟩
  · have hr := Lib.hid (show bestR l = [] from if_neg hv)
    have hne : (valB l == 0) = false := by simpa using hv
    generalize valB l = e0 at cv hv hne ⊢
    clear hv h
    go_enter Try.func46, Try.ntmps46
    go_wp2_with (first | (go_at_call 42; refine cv.out.mono ?_; rintro e w1 ⟨rfl, hb1⟩))
    go_ret2
    exact ⟨_, rfl, by rw [hr.out]; exact World.ownsRow_nil _ _ _ _, hb1⟩
end Go.Proofs.Ytoegemlpboeodaa
