/- The laws on heat, and KitchenBefore: the calls return true. -/
import Derived.Test.YtoegemlpboeodaaKitB
import Derived.Test.YtoegemlpboeodaaHeat2
import Derived.Deep.RegionWith
namespace Go.Proofs.Ytoegemlpboeodaa
open Go.RowKit

theorem coolR_le_warmR (heat a n d steps : Int) : coolR heat a n d steps ≤ warmR heat a n d steps := by
  unfold coolR warmR
  split
  · obtain ⟨f, _⟩ := okH_iff ‹_›
    exact coolI_le_warmI f _
  · exact Int.le_refl _

/-- A struct of six ints in a new block, behind what leaves it alone. -/
theorem cells6 {w W : World} {x0 x1 x2 x3 x4 x5 : Value} {t : TypeId} (hb : Below (w.heap.size + 1) (w.alloc (.cells #[x0, x1, x2, x3, x4, x5] t)) W) :
    W.cell? ⟨w.heap.size, 0, none⟩ = some x0 ∧ W.cell? ⟨w.heap.size, 1, none⟩ = some x1 ∧ W.cell? ⟨w.heap.size, 2, none⟩ = some x2 ∧
      W.cell? ⟨w.heap.size, 3, none⟩ = some x3 ∧ W.cell? ⟨w.heap.size, 4, none⟩ = some x4 ∧ W.cell? ⟨w.heap.size, 5, none⟩ = some x5 :=
  ⟨(hb.cell (p := ⟨w.heap.size, 0, none⟩) (Nat.lt_succ_self _)).trans (by simp), (hb.cell (p := ⟨w.heap.size, 1, none⟩) (Nat.lt_succ_self _)).trans (by simp), (hb.cell (p := ⟨w.heap.size, 2, none⟩) (Nat.lt_succ_self _)).trans (by simp),
   (hb.cell (p := ⟨w.heap.size, 3, none⟩) (Nat.lt_succ_self _)).trans (by simp), (hb.cell (p := ⟨w.heap.size, 4, none⟩) (Nat.lt_succ_self _)).trans (by simp), (hb.cell (p := ⟨w.heap.size, 5, none⟩) (Nat.lt_succ_self _)).trans (by simp)⟩
/-- One call more behind the new block. -/
theorem below_next {w W W' : World} {o : Obj} (h : Below (w.heap.size + 1) (w.alloc o) W) (h' : Below W.heap.size W W') : Below (w.heap.size + 1) (w.alloc o) W' :=
  h.trans (h'.mono (by have := h.size; simpa using this))
theorem below_box {w W : World} {o : Obj} (h : Below (w.heap.size + 1) (w.alloc o) W) : Below w.heap.size w W :=
  ((Below.refl _ w).alloc (Nat.le_refl _) _).trans (h.mono (Nat.le_succ _))

set_option maxRecDepth 100000 in
set_option maxHeartbeats 1000000 in
theorem heats_any (h a n d s l : Int) (w : World) :
    Calls Try.prog 5 #[.agg #[.int .i64 h, .int .i64 a, .int .i64 n, .int .i64 d, .int .i64 s, .int .i64 l]] w fun e w' => e = .returned (.bool true) ∧ Below w.heap.size w w' := by
  have hle := coolR_le_warmR h a n d s
  go_enter Try.func5, Try.ntmps5
  go_wp2_with (first
    | (go_at_call 17; refine (Cool_any _ _ _ _ _ _).mono ?_; rintro e w1 ⟨rfl, hb1⟩; have g1 := hb1.mono (B' := w.heap.size + 1) (by simp); obtain ⟨c0, c1, c2, c3, c4, c5⟩ := cells6 g1)
    | (go_at_call 21; refine (Cool_ref _ _ _ _ _ _).mono ?_; rintro e w2 ⟨rfl, rfl⟩)
    | (go_at_call 22; refine (Warm_any _ _ _ _ _ _).mono ?_; rintro e w3 ⟨rfl, hb3⟩; have g3 := below_next g1 hb3; obtain ⟨d0, d1, d2, d3, d4, d5⟩ := cells6 g3)
    | (go_at_call 23; refine (Warm_ref _ _ _ _ _ _).mono ?_; rintro e w4 ⟨rfl, rfl⟩)
    | (go_at_call 18; refine (known_any _).mono ?_; rintro e w5 ⟨rfl, hb5⟩))
  go_ret
  exact ⟨rfl, below_box (below_next g3 hb5)⟩

set_option maxRecDepth 100000 in
set_option maxHeartbeats 1000000 in
theorem steps_law (h a n d s l : Int) (w : World) :
    Calls Try.prog 7 #[.agg #[.int .i64 h, .int .i64 a, .int .i64 n, .int .i64 d, .int .i64 s, .int .i64 l]] w fun e w' => e = .returned (.bool true) ∧ Below w.heap.size w w' := by
  have c28 := Lib.hid (fun W => Steps_any h a n d l W)
  have c29 := Lib.hid (fun W => Steps_ref h a n d l W)
  generalize hr : stepsR h a n d l = r at c28 c29
  generalize he : errH (okS h a n d 0 l) = e0 at c28 c29
  clear hr he
  go_enter Try.func7, Try.ntmps7
  go_wp2_with (first
    | (go_at_call 28; refine (c28.out _).mono ?_; rintro e w1 ⟨rfl, hb1⟩; have g1 := hb1.mono (B' := w.heap.size + 1) (by simp); obtain ⟨c0, c1, c2, c3, c4, c5⟩ := cells6 g1)
    | (go_at_call 29; refine (c29.out _).mono ?_; rintro e w2 ⟨rfl, rfl⟩)
    | (go_at_call 18; refine (known_any _).mono ?_; rintro e w5 ⟨rfl, hb5⟩))
  go_ret
  exact ⟨rfl, below_box (below_next g1 hb5)⟩

set_option maxRecDepth 100000 in
set_option maxHeartbeats 1000000 in
theorem holds_law (h a n d s l : Int) (w : World) :
    Calls Try.prog 9 #[.agg #[.int .i64 h, .int .i64 a, .int .i64 n, .int .i64 d, .int .i64 s, .int .i64 l]] w fun e w' => e = .returned (.bool true) ∧ Below w.heap.size w w' := by
  have c32 := Lib.hid (fun W => Holds_any h a n d s l W)
  have c33 := Lib.hid (fun W => Holds_ref h a n d s l W)
  have c28 := Lib.hid (fun W => Steps_any h a n d l W)
  by_cases hok : okS h a n d s l = true
  · obtain ⟨h0, heq⟩ := holdsR_eq _ _ _ _ _ _ hok
    rw [hok] at c32 c33
    rw [h0] at c28
    have e1 : errH true = 0 := rfl
    rw [e1] at c32 c33 c28
    rw [heq] at c32 c33
    generalize stepsR h a n d l = r at c28 c32 c33
    clear heq hok h0 e1
    cases hr : r.isSome
    all_goals
      rw [hr] at c28 c32 c33
      clear hr
      simp only [Bool.not_true, Bool.not_false, Bool.false_or, Bool.true_or] at c32 c33
      by_cases hlt : s < fbN r
      all_goals
        go_enter Try.func9, Try.ntmps9
        go_wp2_with (first
          | (go_at_call 32; refine (c32.out _).mono ?_; rintro e w1 ⟨rfl, hb1⟩; have g1 := hb1.mono (B' := w.heap.size + 1) (by simp); obtain ⟨c0, c1, c2, c3, c4, c5⟩ := cells6 g1)
          | (go_at_call 33; refine (c33.out _).mono ?_; rintro e w2 ⟨rfl, rfl⟩)
          | (go_at_call 28; refine (c28.out _).mono ?_; rintro e w3 ⟨rfl, hb3⟩; have g3 := below_next g1 hb3; obtain ⟨d0, d1, d2, d3, d4, d5⟩ := cells6 g3)
          | (go_at_call 18; refine (known_any _).mono ?_; rintro e w5 ⟨rfl, hb5⟩))
        go_ret
        exact ⟨rfl, below_box (below_next g3 hb5)⟩
  · have hok' : okS h a n d s l = false := by simpa using hok
    rw [hok'] at c32 c33
    have e1 : errH false = 1 := rfl
    rw [e1] at c32 c33
    clear hok hok' e1 c28
    generalize holdsR h a n d s l = b at c32 c33
    go_enter Try.func9, Try.ntmps9
    go_wp2_with (first
      | (go_at_call 32; refine (c32.out _).mono ?_; rintro e w1 ⟨rfl, hb1⟩; have g1 := hb1.mono (B' := w.heap.size + 1) (by simp); obtain ⟨c0, c1, c2, c3, c4, c5⟩ := cells6 g1)
      | (go_at_call 33; refine (c33.out _).mono ?_; rintro e w2 ⟨rfl, rfl⟩)
      | (go_at_call 18; refine (known_any _).mono ?_; rintro e w5 ⟨rfl, hb5⟩))
    go_ret
    exact ⟨rfl, below_box (below_next g1 hb5)⟩

def befB (a b : Bt) : Bool := decide (min a.1 b.2 ≤ min b.1 a.2)

theorem before_any (a b c d : Int) (w : World) : Calls Try.prog 19 #[.agg #[.int .i64 a, .int .i64 b], .agg #[.int .i64 c, .int .i64 d]] w fun e w' =>
    e = .returned (.bool (befB (a, b) (c, d))) ∧ (w.alloc (.cells #[.int .i64 a, .int .i64 b] 30)).alloc (.cells #[.int .i64 c, .int .i64 d] 30) = w' := by
  go_enter Try.func19, Try.ntmps19
  go_wp2
  go_ret
  exact ⟨rfl, rfl⟩
theorem before_ref (a b c d : Int) (w : World) : Calls Try.prog 20 #[.agg #[.int .i64 a, .int .i64 b], .agg #[.int .i64 c, .int .i64 d]] w fun e w' =>
    e = .returned (.bool (befB (a, b) (c, d))) ∧ (w.alloc (.cells #[.int .i64 a, .int .i64 b] 30)).alloc (.cells #[.int .i64 c, .int .i64 d] 30) = w' := by
  go_enter Try.func20, Try.ntmps20
  go_wp2
  go_ret
  exact ⟨rfl, rfl⟩

theorem befB_total (a b : Bt) : (befB a b || befB b a) = true := by
  simp [befB]; omega

end Go.Proofs.Ytoegemlpboeodaa
