/- What the functions of heat.go and their references compute. -/
import Derived.Test.YtoegemlpboeodaaProg
import Derived.Test.YtoegemlpboeodaaBase
import Derived.Test.YtoegemlpboeodaaPlainHeat
import Derived.Test.YtoegemlpboeodaaPlain
import Derived.WalkSpells
import Derived.Deep.QuietTactic
import Derived.BigQuiet
namespace Go.Proofs.Ytoegemlpboeodaa
open Go.RowKit

theorem within_any (n lo hi : Int) (w : World) : Calls Try.prog 67 #[.int .i64 n, .int .i64 lo, .int .i64 hi] w fun e w' => e = .returned (.bool (inB n lo hi)) ∧ w = w' := by
  by_cases h1 : lo ≤ n <;> by_cases h2 : n ≤ hi <;>
  · go_enter Try.func67, Try.ntmps67
    go_wp2
    go_ret
    exact ⟨by simp [inB, h1, h2], rfl⟩
theorem within_ref (n lo hi : Int) (w : World) : Calls Try.prog 61 #[.int .i64 n, .int .i64 lo, .int .i64 hi] w fun e w' => e = .returned (.bool (inB n lo hi)) ∧ w = w' := by
  by_cases h1 : lo ≤ n <;> by_cases h2 : n ≤ hi <;>
  · go_enter Try.func61, Try.ntmps61
    go_wp2
    go_ret
    exact ⟨by simp [inB, h1, h2], rfl⟩

theorem floor_any (n d : Int) (w : World) (h1 : -1000000 ≤ n) (h2 : n ≤ 1000000) (hd : 1 ≤ d) (hd2 : d ≤ 100) : Calls Try.prog 70 #[.int .i64 n, .int .i64 d] w fun e w' => e = .returned (.int .i64 (n / d)) ∧ w = w' := by
  have hd0 : ¬ d = 0 := by omega
  have hdb := tdiv_bd h1 h2 hd
  by_cases hn : 0 ≤ n
  · have hm : ¬ n % d < 0 := by have := Int.emod_nonneg n hd0; omega
    clear hdb
    go_enter Try.func70, Try.ntmps70
    go_wp2
    all_goals go_ret
    exact ⟨rfl, rfl⟩
  · have hf := fl_neg (by omega : n < 0) hd
    by_cases hm : n.tmod d < 0
    · have hx := Lib.hid (hf.1 hm)
      clear hf
      go_enter Try.func70, Try.ntmps70
      go_wp2
      go_ret
      exact ⟨ret_int hx.out, rfl⟩
    · have hx := Lib.hid (hf.2 hm)
      clear hf
      go_enter Try.func70, Try.ntmps70
      go_wp2
      go_ret
      exact ⟨ret_int hx.out, rfl⟩
theorem down_ref (n d : Int) (w : World) (h1 : -1000000 ≤ n) (h2 : n ≤ 1000000) (hd : 1 ≤ d) (hd2 : d ≤ 100) : Calls Try.prog 71 #[.int .i64 n, .int .i64 d] w fun e w' => e = .returned (.int .i64 (n / d)) ∧ w = w' := by
  have hd0 : ¬ d = 0 := by omega
  have hdb := tdiv_bd h1 h2 hd
  by_cases hn : 0 ≤ n
  · have hm : ¬ n % d < 0 := by have := Int.emod_nonneg n hd0; omega
    clear hdb
    go_enter Try.func71, Try.ntmps71
    go_wp2
    all_goals go_ret
    exact ⟨rfl, rfl⟩
  · have hf := fl_neg (by omega : n < 0) hd
    by_cases hm : n.tmod d < 0
    · have hx := Lib.hid (hf.1 hm)
      clear hf
      go_enter Try.func71, Try.ntmps71
      go_wp2
      go_ret
      exact ⟨ret_int hx.out, rfl⟩
    · have hx := Lib.hid (hf.2 hm)
      clear hf
      go_enter Try.func71, Try.ntmps71
      go_wp2
      go_ret
      exact ⟨ret_int hx.out, rfl⟩

theorem below_drewN {B : Nat} {a w : World} (h : Below B a w) (n : Nat) : Below B a (w.drewN n) := ⟨h.os, h.tape, h.output, h.size, h.block⟩

theorem mul_bd {x n : Int} (h1 : -4000 ≤ x) (h2 : x ≤ 4000) (h3 : 0 ≤ n) (h4 : n ≤ 100) : -400000 ≤ x * n ∧ x * n ≤ 400000 := by
  have a1 : x * n ≤ 4000 * n := Int.mul_le_mul_of_nonneg_right h2 h3
  have a2 : (-4000) * n ≤ x * n := Int.mul_le_mul_of_nonneg_right h1 h3
  omega

set_option maxHeartbeats 400000 in
theorem cool_any (a n d t : Int) (w : World) (f : Frac n d) (ha : -2000 ≤ a ∧ a ≤ 2000) (ht : -2000 ≤ t ∧ t ≤ 2000) :
    Calls Try.prog 53 #[.agg #[.int .i64 a, .int .i64 n, .int .i64 d], .int .i64 t] w fun e w' => e = .returned (.int .i64 (coolS a n d t)) ∧ Below w.heap.size w w' := by
  obtain ⟨d1, d2, n1, n2⟩ := f
  have b1 := mul_bd (x := t - a) (n := n) (by omega) (by omega) n1 (by omega)
  have b2 := coolS_bd ⟨d1, d2, n1, n2⟩ ha ht
  have e1 : IntKind.i64.wrap (t - a) = t - a := IntWalk.i64_in _ (by omega)
  have e2 : IntKind.i64.wrap ((t - a) * n) = (t - a) * n := IntWalk.i64_in _ (by omega)
  have e3 : IntKind.i64.wrap (a + (t - a) * n / d) = a + (t - a) * n / d := IntWalk.i64_in _ (by unfold coolS at b2; omega)
  go_enter Try.func53, Try.ntmps53
  go_wp2_with fail
  go_quiet ((go_at_call 70; exact Calls.quiet_of_same ((floor_any _ _ _ (by omega) (by omega) (by omega) (by omega)).mono fun _ _ h => ⟨h.1, h.2.symm⟩)))
  go_wp2
  go_ret
  exact ⟨rfl, below_drewN ((Below.refl _ _).alloc (Nat.le_refl _) _) _⟩

set_option maxHeartbeats 400000 in
theorem warm_any (a n d t : Int) (w : World) (f : Frac n d) (ha : -2000 ≤ a ∧ a ≤ 2000) (ht : -2000 ≤ t ∧ t ≤ 2000) :
    Calls Try.prog 56 #[.agg #[.int .i64 a, .int .i64 n, .int .i64 d], .int .i64 t] w fun e w' => e = .returned (.int .i64 (warmS a n d t)) ∧ Below w.heap.size w w' := by
  obtain ⟨d1, d2, n1, n2⟩ := f
  have b1 := mul_bd (x := a - t) (n := n) (by omega) (by omega) n1 (by omega)
  have b2 := warmS_bd ⟨d1, d2, n1, n2⟩ ha ht
  have e1 : IntKind.i64.wrap (a - t) = a - t := IntWalk.i64_in _ (by omega)
  have e2 : IntKind.i64.wrap ((a - t) * n) = (a - t) * n := IntWalk.i64_in _ (by omega)
  have e3 : IntKind.i64.wrap (a - (a - t) * n / d) = a - (a - t) * n / d := IntWalk.i64_in _ (by unfold warmS at b2; omega)
  go_enter Try.func56, Try.ntmps56
  go_wp2_with fail
  go_quiet ((go_at_call 70; exact Calls.quiet_of_same ((floor_any _ _ _ (by omega) (by omega) (by omega) (by omega)).mono fun _ _ h => ⟨h.1, h.2.symm⟩)))
  go_wp2
  go_ret
  exact ⟨rfl, below_drewN ((Below.refl _ _).alloc (Nat.le_refl _) _) _⟩

theorem isHeat_any (n : Int) (w : World) : Calls Try.prog 59 #[.int .i64 n] w fun e w' => e = .returned (.bool (inB n (-2000) 2000)) ∧ w = w' := by
  go_enter Try.func59, Try.ntmps59
  go_wp2_with (go_at_call 67; refine (within_any _ _ _ _).mono ?_; rintro e w' ⟨rfl, rfl⟩)
  go_ret
  exact ⟨rfl, rfl⟩

/-- All that Cool and Warm ask. -/
def okH (heat a n d steps : Int) : Bool := inB heat (-2000) 2000 && (inB a (-2000) 2000 && (inB d 1 100 && (inB n 0 d && inB steps 0 1000)))
theorem okH_iff {heat a n d steps : Int} (h : okH heat a n d steps = true) : Frac n d ∧ (-2000 ≤ a ∧ a ≤ 2000) ∧ (-2000 ≤ heat ∧ heat ≤ 2000) ∧ 0 ≤ steps ∧ steps ≤ 1000 := by
  simp only [okH, Bool.and_eq_true, inB_iff] at h
  obtain ⟨h1, h2, h3, h4, h5⟩ := h
  exact ⟨⟨h3.1, h3.2, h4.1, h4.2⟩, h2, h1, h5⟩
def errH (b : Bool) : Int := if b then 0 else 1

set_option maxHeartbeats 400000 in
theorem right_any (heat a n d steps : Int) (w : World) :
    Calls Try.prog 52 #[.int .i64 heat, .agg #[.int .i64 a, .int .i64 n, .int .i64 d], .int .i64 steps] w fun e w' => e = .returned (.int .i64 (errH (okH heat a n d steps))) ∧ Below w.heap.size w w' := by
  go_enter Try.func52, Try.ntmps52
  go_wp2_with (first | (go_at_call 67; refine (within_any _ _ _ _).mono ?_; rintro e w' ⟨rfl, rfl⟩) | (go_at_call 59; refine (isHeat_any _ _).mono ?_; rintro e w' ⟨rfl, rfl⟩))
  all_goals
    go_ret
    exact ⟨by simp_all [errH, okH], (Below.refl _ _).alloc (Nat.le_refl _) _⟩

set_option maxHeartbeats 400000 in
theorem heated_ref (heat a n d steps : Int) (w : World) :
    Calls Try.prog 54 #[.int .i64 heat, .int .i64 a, .int .i64 n, .int .i64 d, .int .i64 steps] w fun e w' => e = .returned (.bool (okH heat a n d steps)) ∧ w = w' := by
  go_enter Try.func54, Try.ntmps54
  go_wp2_with (go_at_call 61; refine (within_ref _ _ _ _).mono ?_; rintro e w' ⟨rfl, rfl⟩)
  all_goals
    go_ret
    exact ⟨by simp_all [okH], rfl⟩

/-- What Cool and Warm return. -/
def coolR (heat a n d steps : Int) : Int := if okH heat a n d steps then iter (coolS a n d) steps.toNat heat else 0
def warmR (heat a n d steps : Int) : Int := if okH heat a n d steps then iter (warmS a n d) steps.toNat heat else 0

set_option maxHeartbeats 400000 in
theorem Cool_any (heat a n d steps : Int) (w : World) :
    Calls Try.prog 17 #[.int .i64 heat, .int .i64 a, .int .i64 n, .int .i64 d, .int .i64 steps] w fun e w' =>
      e = .returned (.tuple #[.int .i64 (coolR heat a n d steps), .int .i64 (errH (okH heat a n d steps))]) ∧ Below w.heap.size w w' := by
  by_cases hok : okH heat a n d steps = true
  · obtain ⟨f, ha, hh, hs0, hs1⟩ := okH_iff hok
    obtain ⟨m, rfl⟩ := Int.eq_ofNat_of_zero_le hs0
    have cr : ∀ W, Calls Try.prog 52 #[.int .i64 heat, .agg #[.int .i64 a, .int .i64 n, .int .i64 d], .int .i64 (m : Int)] W fun e w' => e = .returned (.int .i64 0) ∧ Below W.heap.size W w' := fun W => by
      have := right_any heat a n d m W
      rw [hok] at this; exact this
    have Hok := Lib.hid hok
    clear hok
    have HF := Lib.hid f
    clear f
    go_enter Try.func17, Try.ntmps17
    go_wp2_with (first | (go_at_call 52; refine (cr _).mono ?_; rintro e w1 ⟨rfl, hb1⟩))
    have bb := hb1.mono (B' := w.heap.size + 1) (by simp)
    have B0 : Below w.heap.size w w1 := ((Below.refl _ w).alloc (Nat.le_refl _) _).trans (hb1.mono (by simp))
    have c0 : w1.cell? ⟨w.heap.size, 0, none⟩ = some (.int .i64 a) := (bb.cell (p := ⟨w.heap.size, 0, none⟩) (Nat.lt_succ_self _)).trans (by simp)
    have c1 : w1.cell? ⟨w.heap.size, 1, none⟩ = some (.int .i64 n) := (bb.cell (p := ⟨w.heap.size, 1, none⟩) (Nat.lt_succ_self _)).trans (by simp)
    have c2 : w1.cell? ⟨w.heap.size, 2, none⟩ = some (.int .i64 d) := (bb.cell (p := ⟨w.heap.size, 2, none⟩) (Nat.lt_succ_self _)).trans (by simp)
    clear bb hb1
    go_loopw [0, 26] (fun t i wr => ∃ k : Nat, k ≤ m ∧ i = .int .i64 k ∧ t = .int .i64 (iter (coolS a n d) k heat) ∧ Below (w.heap.size + 1) w1 wr) (fun _ i _ => m - (intOf i).toNat)
    case atStart => exact ⟨0, Nat.zero_le _, rfl, rfl, Below.refl _ _⟩
    case round =>
      obtain ⟨k, hk, rfl, rfl, hb⟩ := hrel
      have d0 := (hb.cell (p := ⟨w.heap.size, 0, none⟩) (Nat.lt_succ_self _)).trans c0
      have d1 := (hb.cell (p := ⟨w.heap.size, 1, none⟩) (Nat.lt_succ_self _)).trans c1
      have d2 := (hb.cell (p := ⟨w.heap.size, 2, none⟩) (Nat.lt_succ_self _)).trans c2
      by_cases hlt : k < m
      · go_wp2_with (go_at_call 53; refine (cool_any _ _ _ _ _ HF.out ha (coolI_bd HF.out ha k hh)).mono ?_; rintro e w2 ⟨rfl, hb2⟩)
        go_roundw
        case rel => exact ⟨k + 1, by omega, by go_num, rfl, hb.trans (hb2.mono (Nat.le_trans (cell_lt c0) hb.size))⟩
        case measure => simp [intOf]; omega
      · obtain rfl : k = m := by omega
        go_wp2
        go_ret2
        have hok := Hok.out
        exact ⟨by simp [coolR, errH, hok], B0.trans (hb.mono (Nat.le_succ _))⟩
  · have cr : ∀ W, Calls Try.prog 52 #[.int .i64 heat, .agg #[.int .i64 a, .int .i64 n, .int .i64 d], .int .i64 steps] W fun e w' => e = .returned (.int .i64 1) ∧ Below W.heap.size W w' := fun W => by
      have := right_any heat a n d steps W
      simp only [Bool.not_eq_true] at hok
      rw [hok] at this; exact this
    have Hok := Lib.hid hok
    clear hok
    go_enter Try.func17, Try.ntmps17
    go_wp2_with (first | (go_at_call 52; refine (cr _).mono ?_; rintro e w1 ⟨rfl, hb1⟩))
    go_ret2
    have hok := Hok.out
    exact ⟨by simp [coolR, errH, hok], ((Below.refl _ w).alloc (Nat.le_refl _) _).trans (hb1.mono (by simp))⟩
set_option maxHeartbeats 400000 in
theorem Warm_any (heat a n d steps : Int) (w : World) :
    Calls Try.prog 22 #[.int .i64 heat, .int .i64 a, .int .i64 n, .int .i64 d, .int .i64 steps] w fun e w' =>
      e = .returned (.tuple #[.int .i64 (warmR heat a n d steps), .int .i64 (errH (okH heat a n d steps))]) ∧ Below w.heap.size w w' := by
  by_cases hok : okH heat a n d steps = true
  · obtain ⟨f, ha, hh, hs0, hs1⟩ := okH_iff hok
    obtain ⟨m, rfl⟩ := Int.eq_ofNat_of_zero_le hs0
    have cr : ∀ W, Calls Try.prog 52 #[.int .i64 heat, .agg #[.int .i64 a, .int .i64 n, .int .i64 d], .int .i64 (m : Int)] W fun e w' => e = .returned (.int .i64 0) ∧ Below W.heap.size W w' := fun W => by
      have := right_any heat a n d m W
      rw [hok] at this; exact this
    have Hok := Lib.hid hok
    clear hok
    have HF := Lib.hid f
    clear f
    go_enter Try.func22, Try.ntmps22
    go_wp2_with (first | (go_at_call 52; refine (cr _).mono ?_; rintro e w1 ⟨rfl, hb1⟩))
    have bb := hb1.mono (B' := w.heap.size + 1) (by simp)
    have B0 : Below w.heap.size w w1 := ((Below.refl _ w).alloc (Nat.le_refl _) _).trans (hb1.mono (by simp))
    have c0 : w1.cell? ⟨w.heap.size, 0, none⟩ = some (.int .i64 a) := (bb.cell (p := ⟨w.heap.size, 0, none⟩) (Nat.lt_succ_self _)).trans (by simp)
    have c1 : w1.cell? ⟨w.heap.size, 1, none⟩ = some (.int .i64 n) := (bb.cell (p := ⟨w.heap.size, 1, none⟩) (Nat.lt_succ_self _)).trans (by simp)
    have c2 : w1.cell? ⟨w.heap.size, 2, none⟩ = some (.int .i64 d) := (bb.cell (p := ⟨w.heap.size, 2, none⟩) (Nat.lt_succ_self _)).trans (by simp)
    clear bb hb1
    go_loopw [0, 26] (fun t i wr => ∃ k : Nat, k ≤ m ∧ i = .int .i64 k ∧ t = .int .i64 (iter (warmS a n d) k heat) ∧ Below (w.heap.size + 1) w1 wr) (fun _ i _ => m - (intOf i).toNat)
    case atStart => exact ⟨0, Nat.zero_le _, rfl, rfl, Below.refl _ _⟩
    case round =>
      obtain ⟨k, hk, rfl, rfl, hb⟩ := hrel
      have d0 := (hb.cell (p := ⟨w.heap.size, 0, none⟩) (Nat.lt_succ_self _)).trans c0
      have d1 := (hb.cell (p := ⟨w.heap.size, 1, none⟩) (Nat.lt_succ_self _)).trans c1
      have d2 := (hb.cell (p := ⟨w.heap.size, 2, none⟩) (Nat.lt_succ_self _)).trans c2
      by_cases hlt : k < m
      · go_wp2_with (go_at_call 56; refine (warm_any _ _ _ _ _ HF.out ha (warmI_bd HF.out ha k hh)).mono ?_; rintro e w2 ⟨rfl, hb2⟩)
        go_roundw
        case rel => exact ⟨k + 1, by omega, by go_num, rfl, hb.trans (hb2.mono (Nat.le_trans (cell_lt c0) hb.size))⟩
        case measure => simp [intOf]; omega
      · obtain rfl : k = m := by omega
        go_wp2
        go_ret2
        have hok := Hok.out
        exact ⟨by simp [warmR, errH, hok], B0.trans (hb.mono (Nat.le_succ _))⟩
  · have cr : ∀ W, Calls Try.prog 52 #[.int .i64 heat, .agg #[.int .i64 a, .int .i64 n, .int .i64 d], .int .i64 steps] W fun e w' => e = .returned (.int .i64 1) ∧ Below W.heap.size W w' := fun W => by
      have := right_any heat a n d steps W
      simp only [Bool.not_eq_true] at hok
      rw [hok] at this; exact this
    have Hok := Lib.hid hok
    clear hok
    go_enter Try.func22, Try.ntmps22
    go_wp2_with (first | (go_at_call 52; refine (cr _).mono ?_; rintro e w1 ⟨rfl, hb1⟩))
    go_ret2
    have hok := Hok.out
    exact ⟨by simp [warmR, errH, hok], ((Below.refl _ w).alloc (Nat.le_refl _) _).trans (hb1.mono (by simp))⟩
end Go.Proofs.Ytoegemlpboeodaa
