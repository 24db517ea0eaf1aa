/- What the functions of heat.go and their references compute, second part. -/
import Derived.Test.YtoegemlpboeodaaHeat
namespace Go.Proofs.Ytoegemlpboeodaa
open Go.RowKit

set_option maxHeartbeats 400000 in
theorem cool_ref (heat a n d : Int) (m : Nat) (w : World) (f : Frac n d) (ha : -2000 ≤ a ∧ a ≤ 2000) (hh : -2000 ≤ heat ∧ heat ≤ 2000) (hm : m ≤ 1000) :
    Calls Try.prog 55 #[.int .i64 heat, .int .i64 a, .int .i64 n, .int .i64 d, .int .i64 (m : Int)] w fun e w' => e = .returned (.int .i64 (iter (coolS a n d) m heat)) ∧ w = w' := by
  have HF := Lib.hid f
  obtain ⟨d1, d2, n1, n2⟩ := f
  go_enter Try.func55, Try.ntmps55
  go_wp2
  go_loop [0, 11] (fun t i => ∃ k : Nat, k ≤ m ∧ i = .int .i64 k ∧ t = .int .i64 (iter (coolS a n d) k heat)) (fun _ i => m - (intOf i).toNat)
  case atStart => exact ⟨0, Nat.zero_le _, rfl, rfl⟩
  case round =>
    obtain ⟨k, hk, rfl, rfl⟩ := hrel
    have ht := coolI_bd HF.out ha k hh
    have b1 := mul_bd (x := iter (coolS a n d) k heat - a) (n := n) (by omega) (by omega) n1 (by omega)
    have b2 := coolS_bd HF.out ha ht
    have b3 : coolS a n d (iter (coolS a n d) k heat) = a + (iter (coolS a n d) k heat - a) * n / d := rfl
    rw [b3] at b2
    have B3 := Lib.hid b3
    clear b3
    by_cases hlt : k < m
    · go_wp2_with (go_at_call 71; refine (down_ref _ _ _ (by omega) (by omega) (by omega) (by omega)).mono ?_; rintro e w2 ⟨rfl, rfl⟩)
      go_round
      case rel => exact ⟨k + 1, by omega, by go_num, by rw [iter_succ, B3.out]⟩
      case measure => simp [intOf]; omega
    · obtain rfl : k = m := by omega
      go_wp2
      go_ret
      exact ⟨rfl, rfl⟩

set_option maxHeartbeats 400000 in
theorem Cool_ref (heat a n d steps : Int) (w : World) :
    Calls Try.prog 21 #[.int .i64 heat, .int .i64 a, .int .i64 n, .int .i64 d, .int .i64 steps] w fun e w' =>
      e = .returned (.tuple #[.int .i64 (coolR heat a n d steps), .int .i64 (errH (okH heat a n d steps))]) ∧ w = w' := by
  by_cases hok : okH heat a n d steps = true
  · obtain ⟨f, ha, hh, hs0, hs1⟩ := okH_iff hok
    obtain ⟨m, rfl⟩ := Int.eq_ofNat_of_zero_le hs0
    go_enter Try.func21, Try.ntmps21
    go_wp2_with (first | (go_at_call 54; refine (heated_ref _ _ _ _ _ _).mono ?_; rintro e w1 ⟨rfl, rfl⟩) | (go_at_call 55; refine (cool_ref _ _ _ _ _ _ f ha hh (by omega)).mono ?_; rintro e w1 ⟨rfl, rfl⟩))
    go_ret2
    exact ⟨by simp [coolR, errH, hok], rfl⟩
  · go_enter Try.func21, Try.ntmps21
    go_wp2_with (first | (go_at_call 54; refine (heated_ref _ _ _ _ _ _).mono ?_; rintro e w1 ⟨rfl, rfl⟩))
    go_ret2
    exact ⟨by simp [coolR, errH, hok], rfl⟩

set_option maxHeartbeats 400000 in
theorem Warm_ref (heat a n d steps : Int) (w : World) :
    Calls Try.prog 23 #[.int .i64 heat, .int .i64 a, .int .i64 n, .int .i64 d, .int .i64 steps] w fun e w' =>
      e = .returned (.tuple #[.int .i64 (warmR heat a n d steps), .int .i64 (errH (okH heat a n d steps))]) ∧ w = w' := by
  by_cases hok : okH heat a n d steps = true
  · obtain ⟨f, ha, hh, hs0, hs1⟩ := okH_iff hok
    obtain ⟨m, rfl⟩ := Int.eq_ofNat_of_zero_le hs0
    have hb := coolI_bd f (a := -a) (by omega) m (t := -heat) (by omega)
    have hneg := Lib.hid (warmI_neg a n d heat m)
    go_enter Try.func23, Try.ntmps23
    go_wp2_with (first | (go_at_call 54; refine (heated_ref _ _ _ _ _ _).mono ?_; rintro e w1 ⟨rfl, rfl⟩) | (go_at_call 55; refine (cool_ref _ _ _ _ _ _ f (by omega) (by omega) (by omega)).mono ?_; rintro e w1 ⟨rfl, rfl⟩))
    go_ret2
    exact ⟨by simp [warmR, errH, hok, hneg.out], rfl⟩
  · go_enter Try.func23, Try.ntmps23
    go_wp2_with (first | (go_at_call 54; refine (heated_ref _ _ _ _ _ _).mono ?_; rintro e w1 ⟨rfl, rfl⟩))
    go_ret2
    exact ⟨by simp [warmR, errH, hok], rfl⟩

/-- The first number of steps, below N, after which it is colder than the limit. -/
def fb (g : Int → Int) (t lim : Int) (N : Nat) : Option Nat := (List.range N).find? fun k => decide (iter g k t < lim)
theorem fb_some {g : Int → Int} {t lim : Int} {N k : Nat} (hk : k < N) (h : iter g k t < lim) (ho : ∀ j, j < k → ¬ iter g j t < lim) : fb g t lim N = some k := by
  unfold fb
  rw [List.find?_range_eq_some]
  refine ⟨by simpa using h, by simpa using hk, fun j hj => by simpa using ho j hj⟩
theorem fb_none {g : Int → Int} {t lim : Int} {N : Nat} (ho : ∀ j, j < N → ¬ iter g j t < lim) : fb g t lim N = none := by
  unfold fb
  rw [List.find?_range_eq_none]
  intro j hj; simpa using ho j hj
def fbN (o : Option Nat) : Int := (o.getD 0 : Nat)
def NoneYet (g : Int → Int) (t lim : Int) (k : Nat) : Prop := ∀ j, j < k → ¬ iter g j t < lim
theorem noneYet_succ {g : Int → Int} {t lim : Int} {k : Nat} (h : NoneYet g t lim k) (hc : lim ≤ iter g k t) : NoneYet g t lim (k + 1) := fun j hj => by
  rcases Nat.lt_succ_iff_lt_or_eq.1 hj with h' | rfl
  · exact h j h'
  · omega

set_option maxHeartbeats 400000 in
theorem falls_any (heat a n d lim : Int) (m : Nat) (w : World) (f : Frac n d) (ha : -2000 ≤ a ∧ a ≤ 2000) (hh : -2000 ≤ heat ∧ heat ≤ 2000) (hm : m ≤ 1000) :
    Calls Try.prog 60 #[.agg #[.int .i64 a, .int .i64 n, .int .i64 d], .int .i64 heat, .int .i64 lim, .int .i64 (m : Int)] w fun e w' =>
      e = .returned (.tuple #[.int .i64 (fbN (fb (coolS a n d) heat lim (m + 1))), .bool (fb (coolS a n d) heat lim (m + 1)).isSome]) ∧ Below w.heap.size w w' := by
  go_enter Try.func60, Try.ntmps60
  go_wp2
  go_loopw [1, 13] (fun t i wr => ∃ k : Nat, k ≤ m + 1 ∧ i = .int .i64 k ∧ t = .int .i64 (iter (coolS a n d) k heat) ∧ Below (w.heap.size + 1) (w.alloc (.cells #[.int .i64 a, .int .i64 n, .int .i64 d] 64)) wr ∧ NoneYet (coolS a n d) heat lim k) (fun _ i _ => m + 1 - (intOf i).toNat)
  case atStart => exact ⟨0, Nat.zero_le _, rfl, rfl, Below.refl _ _, fun j hj => by omega⟩
  case round =>
    obtain ⟨k, hk, rfl, rfl, hb, hno⟩ := hrel
    have d0 := (hb.cell (p := ⟨w.heap.size, 0, none⟩) (Nat.lt_succ_self _)).trans (show _ = some (.int .i64 a) by simp)
    have d1 := (hb.cell (p := ⟨w.heap.size, 1, none⟩) (Nat.lt_succ_self _)).trans (show _ = some (.int .i64 n) by simp)
    have d2 := (hb.cell (p := ⟨w.heap.size, 2, none⟩) (Nat.lt_succ_self _)).trans (show _ = some (.int .i64 d) by simp)
    have B0 : Below w.heap.size w wr := ((Below.refl _ w).alloc (Nat.le_refl _) _).trans (hb.mono (Nat.le_succ _))
    by_cases hlt : k < m + 1
    · by_cases hc : iter (coolS a n d) k heat < lim
      · go_wp2_with fail
        go_ret2
        exact ⟨by rw [fb_some hlt hc hno]; rfl, B0⟩
      · go_wp2_with (go_at_call 53; refine (cool_any _ _ _ _ _ f ha (coolI_bd f ha k hh)).mono ?_; rintro e w2 ⟨rfl, hb2⟩)
        go_roundw
        case rel => exact ⟨k + 1, by omega, by go_num, rfl, hb.trans (hb2.mono (cell_lt d0)), noneYet_succ hno hc⟩
        case measure => simp [intOf]; omega
    · obtain rfl : k = m + 1 := by omega
      go_wp2_with fail
      go_ret2
      exact ⟨by rw [fb_none hno]; rfl, B0⟩

/-- A new block of three cells, behind what leaves it alone. -/
theorem cells3 {w w1 : World} {x y z : Value} {t : TypeId} (hb : Below (w.alloc (.cells #[x, y, z] t)).heap.size (w.alloc (.cells #[x, y, z] t)) w1) :
    w1.cell? ⟨w.heap.size, 0, none⟩ = some x ∧ w1.cell? ⟨w.heap.size, 1, none⟩ = some y ∧ w1.cell? ⟨w.heap.size, 2, none⟩ = some z :=
  ⟨(hb.cell (p := ⟨w.heap.size, 0, none⟩) (by simp)).trans (by simp), (hb.cell (p := ⟨w.heap.size, 1, none⟩) (by simp)).trans (by simp), (hb.cell (p := ⟨w.heap.size, 2, none⟩) (by simp)).trans (by simp)⟩

def okS (heat a n d steps lim : Int) : Bool := okH heat a n d steps && inB lim (-2000) 2000
def stepsR (heat a n d lim : Int) : Option Nat := if okS heat a n d 0 lim then fb (coolS a n d) heat lim 1001 else none
def holdsR (heat a n d steps lim : Int) : Bool := okS heat a n d steps lim && (fb (coolS a n d) heat lim (steps.toNat + 1)).isNone
theorem okS_iff {heat a n d steps lim : Int} (h : okS heat a n d steps lim = true) : okH heat a n d steps = true ∧ inB lim (-2000) 2000 = true := by simpa [okS] using h

set_option maxRecDepth 100000 in
set_option maxHeartbeats 400000 in
theorem Steps_any (heat a n d lim : Int) (w : World) :
    Calls Try.prog 28 #[.int .i64 heat, .int .i64 a, .int .i64 n, .int .i64 d, .int .i64 lim] w fun e w' =>
      e = .returned (.tuple #[.int .i64 (fbN (stepsR heat a n d lim)), .bool (stepsR heat a n d lim).isSome, .int .i64 (errH (okS heat a n d 0 lim))]) ∧ Below w.heap.size w w' := by
  have cr : ∀ b, okH heat a n d 0 = b → ∀ W, Calls Try.prog 52 #[.int .i64 heat, .agg #[.int .i64 a, .int .i64 n, .int .i64 d], .int .i64 0] W fun e w' => e = .returned (.int .i64 (errH b)) ∧ Below W.heap.size W w' := fun b hb W => by
    have := right_any heat a n d 0 W
    rw [hb] at this; exact this
  by_cases hok : okS heat a n d 0 lim = true
  · obtain ⟨h1, h2⟩ := okS_iff hok
    obtain ⟨f, ha, hh, _, _⟩ := okH_iff h1
    have cr' := cr true h1
    simp only [errH, ↓reduceIte] at cr'
    have cf : ∀ W, Calls Try.prog 60 #[.agg #[.int .i64 a, .int .i64 n, .int .i64 d], .int .i64 heat, .int .i64 lim, .int .i64 1000] W fun e w' => e = .returned (.tuple #[.int .i64 (fbN (fb (coolS a n d) heat lim 1001)), .bool (fb (coolS a n d) heat lim 1001).isSome]) ∧ Below W.heap.size W w' := fun W => falls_any heat a n d lim 1000 W f ha hh (by omega)
    have Hok := Lib.hid hok
    have H1 := Lib.hid h1
    have HF := Lib.hid f
    clear hok h1 cr f
    generalize hr : fb (coolS a n d) heat lim 1001 = r at cf
    have Hr := Lib.hid hr
    have Cf := Lib.hid cf
    clear hr cf
    go_enter Try.func28, Try.ntmps28
    go_wp2_with (first | (go_at_call 52; refine (cr' _).mono ?_; rintro e w1 ⟨rfl, hb1⟩; obtain ⟨c0, c1, c2⟩ := cells3 hb1) | (go_at_call 59; refine (isHeat_any _ _).mono ?_; rintro e w' ⟨rfl, rfl⟩) | (go_at_call 60; refine (Cf.out _).mono ?_; rintro e w2 ⟨rfl, hb2⟩))
    go_ret3
    have e1 : stepsR heat a n d lim = r := by rw [stepsR, if_pos Hok.out]; exact Hr.out
    exact ⟨by rw [e1, Hok.out]; rfl, (((Below.refl _ w).alloc (Nat.le_refl _) _).trans (hb1.mono (by simp))).trans (hb2.mono (Nat.le_of_lt (cell_lt c0)))⟩
  · have e1 : stepsR heat a n d lim = none := by rw [stepsR, if_neg hok]
    have e2 : okS heat a n d 0 lim = false := by simpa using hok
    have hs := Lib.hid e1
    have hs2 := Lib.hid e2
    have hor : okH heat a n d 0 = false ∨ okH heat a n d 0 = true ∧ inB lim (-2000) 2000 = false := by
      cases h : okH heat a n d 0 <;> simp_all [okS]
    clear e1 e2 hok
    rcases hor with h1 | ⟨h1, h2⟩
    · have cr' := cr false h1
      simp only [errH, Bool.false_eq_true, ↓reduceIte] at cr'
      clear h1 cr
      go_enter Try.func28, Try.ntmps28
      go_wp2_with (first | (go_at_call 52; refine (cr' _).mono ?_; rintro e w1 ⟨rfl, hb1⟩) | (go_at_call 59; refine (isHeat_any _ _).mono ?_; rintro e w' ⟨rfl, rfl⟩))
      go_ret3
      exact ⟨by rw [hs.out, hs2.out]; rfl, ((Below.refl _ w).alloc (Nat.le_refl _) _).trans (hb1.mono (by simp))⟩
    · have cr' := cr true h1
      simp only [errH, ↓reduceIte] at cr'
      clear h1 cr
      go_enter Try.func28, Try.ntmps28
      go_wp2_with (first | (go_at_call 52; refine (cr' _).mono ?_; rintro e w1 ⟨rfl, hb1⟩) | (go_at_call 59; refine (isHeat_any _ _).mono ?_; rintro e w' ⟨rfl, rfl⟩))
      go_ret3
      exact ⟨by rw [hs.out, hs2.out]; rfl, ((Below.refl _ w).alloc (Nat.le_refl _) _).trans (hb1.mono (by simp))⟩
set_option maxRecDepth 100000 in
set_option maxHeartbeats 400000 in
theorem Holds_any (heat a n d steps lim : Int) (w : World) :
    Calls Try.prog 32 #[.int .i64 heat, .int .i64 a, .int .i64 n, .int .i64 d, .int .i64 steps, .int .i64 lim] w fun e w' =>
      e = .returned (.tuple #[.bool (holdsR heat a n d steps lim), .int .i64 (errH (okS heat a n d steps lim))]) ∧ Below w.heap.size w w' := by
  have cr : ∀ b, okH heat a n d steps = b → ∀ W, Calls Try.prog 52 #[.int .i64 heat, .agg #[.int .i64 a, .int .i64 n, .int .i64 d], .int .i64 steps] W fun e w' => e = .returned (.int .i64 (errH b)) ∧ Below W.heap.size W w' := fun b hb W => by
    have := right_any heat a n d steps W
    rw [hb] at this; exact this
  by_cases hok : okS heat a n d steps lim = true
  · obtain ⟨h1, h2⟩ := okS_iff hok
    obtain ⟨f, ha, hh, hs0, hs1⟩ := okH_iff h1
    obtain ⟨m, rfl⟩ := Int.eq_ofNat_of_zero_le hs0
    have cr' := cr true h1
    simp only [errH, ↓reduceIte] at cr'
    have cf : ∀ W, Calls Try.prog 60 #[.agg #[.int .i64 a, .int .i64 n, .int .i64 d], .int .i64 heat, .int .i64 lim, .int .i64 (m : Int)] W fun e w' => e = .returned (.tuple #[.int .i64 (fbN (fb (coolS a n d) heat lim (m + 1))), .bool (fb (coolS a n d) heat lim (m + 1)).isSome]) ∧ Below W.heap.size W w' := fun W => falls_any heat a n d lim m W f ha hh (by omega)
    have Hok := Lib.hid hok
    have H1 := Lib.hid h1
    have HF := Lib.hid f
    clear hok h1 cr f
    generalize hr : fb (coolS a n d) heat lim (m + 1) = r at cf
    have Hr := Lib.hid hr
    have Cf := Lib.hid cf
    clear hr cf
    go_enter Try.func32, Try.ntmps32
    go_wp2_with (first | (go_at_call 52; refine (cr' _).mono ?_; rintro e w1 ⟨rfl, hb1⟩; obtain ⟨c0, c1, c2⟩ := cells3 hb1) | (go_at_call 59; refine (isHeat_any _ _).mono ?_; rintro e w' ⟨rfl, rfl⟩) | (go_at_call 60; refine (Cf.out _).mono ?_; rintro e w2 ⟨rfl, hb2⟩))
    go_ret2
    have e1 : holdsR heat a n d m lim = r.isNone := by rw [holdsR, Hok.out, Int.toNat_natCast, Hr.out]; rfl
    exact ⟨by rw [e1, Hok.out]; cases r <;> rfl, (((Below.refl _ w).alloc (Nat.le_refl _) _).trans (hb1.mono (by simp))).trans (hb2.mono (Nat.le_of_lt (cell_lt c0)))⟩
  · have e1 : holdsR heat a n d steps lim = false := by rw [holdsR]; simp at hok; rw [hok]; rfl
    have e2 : okS heat a n d steps lim = false := by simpa using hok
    have hs := Lib.hid e1
    have hs2 := Lib.hid e2
    have hor : okH heat a n d steps = false ∨ okH heat a n d steps = true ∧ inB lim (-2000) 2000 = false := by
      cases h : okH heat a n d steps <;> simp_all [okS]
    clear e1 e2 hok
    rcases hor with h1 | ⟨h1, h2⟩
    · have cr' := cr false h1
      simp only [errH, Bool.false_eq_true, ↓reduceIte] at cr'
      clear h1 cr
      go_enter Try.func32, Try.ntmps32
      go_wp2_with (first | (go_at_call 52; refine (cr' _).mono ?_; rintro e w1 ⟨rfl, hb1⟩) | (go_at_call 59; refine (isHeat_any _ _).mono ?_; rintro e w' ⟨rfl, rfl⟩))
      go_ret2
      exact ⟨by rw [hs.out, hs2.out]; rfl, ((Below.refl _ w).alloc (Nat.le_refl _) _).trans (hb1.mono (by simp))⟩
    · have cr' := cr true h1
      simp only [errH, ↓reduceIte] at cr'
      clear h1 cr
      go_enter Try.func32, Try.ntmps32
      go_wp2_with (first | (go_at_call 52; refine (cr' _).mono ?_; rintro e w1 ⟨rfl, hb1⟩) | (go_at_call 59; refine (isHeat_any _ _).mono ?_; rintro e w' ⟨rfl, rfl⟩))
      go_ret2
      exact ⟨by rw [hs.out, hs2.out]; rfl, ((Below.refl _ w).alloc (Nat.le_refl _) _).trans (hb1.mono (by simp))⟩

set_option maxRecDepth 100000 in
set_option maxHeartbeats 400000 in
theorem Steps_ref (heat a n d lim : Int) (w : World) :
    Calls Try.prog 29 #[.int .i64 heat, .int .i64 a, .int .i64 n, .int .i64 d, .int .i64 lim] w fun e w' =>
      e = .returned (.tuple #[.int .i64 (fbN (stepsR heat a n d lim)), .bool (stepsR heat a n d lim).isSome, .int .i64 (errH (okS heat a n d 0 lim))]) ∧ w = w' := by
  by_cases hok : okS heat a n d 0 lim = true
  · obtain ⟨h1, h2⟩ := okS_iff hok
    obtain ⟨f, ha, hh, _, _⟩ := okH_iff h1
    have hr : stepsR heat a n d lim = fb (coolS a n d) heat lim 1001 := by rw [stepsR, if_pos hok]
    have Hr := Lib.hid hr
    have Hok := Lib.hid hok
    have HF := Lib.hid f
    have cc : ∀ k, ∀ W, Calls Try.prog 55 #[.int .i64 (iter (coolS a n d) k heat), .int .i64 a, .int .i64 n, .int .i64 d, .int .i64 1] W fun e w' => e = .returned (.int .i64 (iter (coolS a n d) (k + 1) heat)) ∧ W = w' :=
      fun k W => cool_ref (iter (coolS a n d) k heat) a n d 1 W f ha (coolI_bd f ha k hh) (by omega)
    have Cc := Lib.hid cc
    clear hr hok f cc
    go_enter Try.func29, Try.ntmps29
    go_wp2_with (first | (go_at_call 54; refine (heated_ref _ _ _ _ _ _).mono ?_; rintro e w1 ⟨rfl, rfl⟩) | (go_at_call 61; refine (within_ref _ _ _ _).mono ?_; rintro e w' ⟨rfl, rfl⟩))
    go_loop [0, 13] (fun t i => ∃ k : Nat, k ≤ 1001 ∧ i = .int .i64 k ∧ t = .int .i64 (iter (coolS a n d) k heat) ∧ NoneYet (coolS a n d) heat lim k) (fun _ i => 1001 - (intOf i).toNat)
    case atStart => exact ⟨0, Nat.zero_le _, rfl, rfl, fun j hj => by omega⟩
    case round =>
      obtain ⟨k, hk, rfl, rfl, hno⟩ := hrel
      by_cases hlt : k < 1001
      · by_cases hc : iter (coolS a n d) k heat < lim
        · go_wp2_with fail
          go_ret3
          exact ⟨by rw [Hr.out, Hok.out, fb_some hlt hc hno]; rfl, rfl⟩
        · go_wp2_with (go_at_call 55; refine (Cc.out _ _).mono ?_; rintro e w2 ⟨rfl, rfl⟩)
          go_round
          case rel => exact ⟨k + 1, by omega, by go_num, rfl, noneYet_succ hno hc⟩
          case measure => simp [intOf]; omega
      · obtain rfl : k = 1001 := by omega
        go_wp2_with fail
        go_ret3
        exact ⟨by rw [Hr.out, Hok.out, fb_none hno]; rfl, rfl⟩
  · have e1 : stepsR heat a n d lim = none := by rw [stepsR, if_neg hok]
    have e2 : okS heat a n d 0 lim = false := by simpa using hok
    have hs := Lib.hid e1
    have hs2 := Lib.hid e2
    have hor : okH heat a n d 0 = false ∨ okH heat a n d 0 = true ∧ inB lim (-2000) 2000 = false := by
      cases h : okH heat a n d 0 <;> simp_all [okS]
    clear e1 e2 hok
    rcases hor with h1 | ⟨h1, h2⟩ <;>
    · go_enter Try.func29, Try.ntmps29
      go_wp2_with (first | (go_at_call 54; refine (heated_ref _ _ _ _ _ _).mono ?_; rintro e w1 ⟨rfl, rfl⟩) | (go_at_call 61; refine (within_ref _ _ _ _).mono ?_; rintro e w' ⟨rfl, rfl⟩))
      go_ret3
      exact ⟨by rw [hs.out, hs2.out]; rfl, rfl⟩

/-- Below the limit up to some steps, and up to more. -/
theorem fb_more {g : Int → Int} {t lim : Int} {m N : Nat} (h : m < N) : (fb g t lim (m + 1)).isNone = (!(fb g t lim N).isSome || decide ((m : Int) < fbN (fb g t lim N))) := by
  cases h1 : fb g t lim N with
  | none =>
    unfold fb at h1
    rw [List.find?_range_eq_none] at h1
    have : fb g t lim (m + 1) = none := fb_none fun j hj hc => by have := h1 j (by omega); simp at this; omega
    simp [this]
  | some k =>
    unfold fb at h1
    rw [List.find?_range_eq_some] at h1
    obtain ⟨a1, a2, a3⟩ := h1
    by_cases hk : k ≤ m
    · have : fb g t lim (m + 1) = some k := fb_some (by omega) (by simpa using a1) (fun j hj => by have := a3 j hj; simp at this; omega)
      simp [this, fbN]; omega
    · have : fb g t lim (m + 1) = none := fb_none fun j hj hc => by have := a3 j (by omega); simp at this; omega
      simp [this, fbN]; omega

theorem holdsR_eq (heat a n d steps lim : Int) (h : okS heat a n d steps lim = true) : okS heat a n d 0 lim = true ∧ holdsR heat a n d steps lim = (!(stepsR heat a n d lim).isSome || decide (steps < fbN (stepsR heat a n d lim))) := by
  obtain ⟨h1, h2⟩ := okS_iff h
  obtain ⟨f, ha, hh, hs0, hs1⟩ := okH_iff h1
  have h0 : okS heat a n d 0 lim = true := by
    simp only [okS, okH, Bool.and_eq_true] at h ⊢
    exact ⟨⟨h.1.1, h.1.2.1, h.1.2.2.1, h.1.2.2.2.1, by decide⟩, h2⟩
  refine ⟨h0, ?_⟩
  obtain ⟨m, rfl⟩ := Int.eq_ofNat_of_zero_le hs0
  rw [stepsR, if_pos h0, holdsR, h, ← fb_more (by omega)]
  rfl

set_option maxRecDepth 100000 in
set_option maxHeartbeats 400000 in
theorem Holds_ref (heat a n d steps lim : Int) (w : World) :
    Calls Try.prog 33 #[.int .i64 heat, .int .i64 a, .int .i64 n, .int .i64 d, .int .i64 steps, .int .i64 lim] w fun e w' =>
      e = .returned (.tuple #[.bool (holdsR heat a n d steps lim), .int .i64 (errH (okS heat a n d steps lim))]) ∧ w = w' := by
  by_cases hok : okS heat a n d steps lim = true
  · obtain ⟨h1, h2⟩ := okS_iff hok
    obtain ⟨h0, he⟩ := holdsR_eq _ _ _ _ _ _ hok
    have cs := fun W => Steps_ref heat a n d lim W
    rw [h0] at cs
    generalize stepsR heat a n d lim = r at he cs
    simp only [errH, ↓reduceIte] at cs
    have He := Lib.hid he
    have Hok := Lib.hid hok
    have Cs := Lib.hid cs
    clear he hok cs h0
    cases hr : r.isSome
    all_goals
      go_enter Try.func33, Try.ntmps33
      go_wp2_with (first | (go_at_call 54; refine (heated_ref _ _ _ _ _ _).mono ?_; rintro e w1 ⟨rfl, rfl⟩) | (go_at_call 61; refine (within_ref _ _ _ _).mono ?_; rintro e w' ⟨rfl, rfl⟩) | (go_at_call 29; refine (Cs.out _).mono ?_; rintro e w' ⟨rfl, rfl⟩))
      go_ret2
      exact ⟨by rw [He.out, Hok.out]; simp [errH, hr], rfl⟩
  · have e1 : holdsR heat a n d steps lim = false := by rw [holdsR]; simp at hok; rw [hok]; rfl
    have e2 : okS heat a n d steps lim = false := by simpa using hok
    have hs := Lib.hid e1
    have hs2 := Lib.hid e2
    have hor : okH heat a n d steps = false ∨ okH heat a n d steps = true ∧ inB lim (-2000) 2000 = false := by
      cases h : okH heat a n d steps <;> simp_all [okS]
    clear e1 e2 hok
    rcases hor with h1 | ⟨h1, h2⟩ <;>
    · go_enter Try.func33, Try.ntmps33
      go_wp2_with (first | (go_at_call 54; refine (heated_ref _ _ _ _ _ _).mono ?_; rintro e w1 ⟨rfl, rfl⟩) | (go_at_call 61; refine (within_ref _ _ _ _).mono ?_; rintro e w' ⟨rfl, rfl⟩))
      go_ret2
      exact ⟨by rw [hs.out, hs2.out]; rfl, rfl⟩
end Go.Proofs.Ytoegemlpboeodaa
