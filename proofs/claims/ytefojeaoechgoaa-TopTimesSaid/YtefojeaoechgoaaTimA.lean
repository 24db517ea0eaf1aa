/- right, covers, isChild, isDay, Validate, asked. -/
import Derived.Test.YtefojeaoechgoaaRecs
import Derived.Test.YtefojeaoechgoaaProg
import Derived.WalkSpells
import Derived.Deep.QuietTactic
import Derived.BigQuiet
namespace Go.Proofs.Ytefojeaoechgoaa
open Go.RowKit

/-- Some words drawn more. -/
def Drew (w w' : World) : Prop := ∃ n, w' = w.drewN n
theorem Drew.cell {w w' : World} (h : Drew w w') (p : Addr) : w'.cell? p = w.cell? p := by obtain ⟨n, rfl⟩ := h; rfl
theorem below_drewN {B : Nat} {a w : World} (h : Below B a w) (n : Nat) : Below B a (w.drewN n) := ⟨h.os, h.tape, h.output, h.size, h.block⟩
theorem Drew.drewN {w w' : World} (h : Drew w w') (m : Nat) : Drew w (w'.drewN m) := by obtain ⟨n, rfl⟩ := h; exact ⟨n + m, by rw [World.drewN_drewN]⟩
theorem Drew.below {w w' : World} (h : Drew w w') (B : Nat) : Below B w w' := by obtain ⟨n, rfl⟩ := h; exact below_drewN (Below.refl _ _) n
set_option maxHeartbeats 1000000 in
theorem right_any (x : Fc) (w : World) : Calls Try.prog 25 #[.agg #[.int .i64 x.a, .int .i64 x.c, .int .i64 x.f, .int .i64 x.t, .int .i64 x.m]] w fun e w' => e = .returned (.bool (okF x)) ∧ Below w.heap.size w w' := by
  go_enter Try.func25, Try.ntmps25
  go_wp2
  all_goals
    go_ret
    exact ⟨by simp_all [okF] <;> intros <;> omega, (Below.refl _ _).alloc (Nat.le_refl _) _⟩

set_option maxHeartbeats 1000000 in
theorem covers_any (x : Fc) (ch d : Int) (w : World) : Calls Try.prog 24 #[.agg #[.int .i64 x.a, .int .i64 x.c, .int .i64 x.f, .int .i64 x.t, .int .i64 x.m], .int .i64 ch, .int .i64 d] w fun e w' => e = .returned (.bool (cov x ch d)) ∧ Below w.heap.size w w' := by
  go_enter Try.func24, Try.ntmps24
  go_wp2
  all_goals
    go_ret
    exact ⟨by simp_all [cov] <;> intros <;> omega, (Below.refl _ _).alloc (Nat.le_refl _) _⟩
def isCh (c : Int) : Bool := decide (0 ≤ c ∧ c ≤ 99)
def isDy (d : Int) : Bool := decide (0 ≤ d ∧ d < 1000)
theorem isChild_any (c : Int) (w : World) : Calls Try.prog 14 #[.int .i64 c] w fun e w' => e = .returned (.bool (isCh c)) ∧ w = w' := by
  go_enter Try.func14, Try.ntmps14
  go_wp2
  all_goals
    go_ret
    exact ⟨by simp_all [isCh] <;> intros <;> omega, rfl⟩
theorem isDay_any (c : Int) (w : World) : Calls Try.prog 15 #[.int .i64 c] w fun e w' => e = .returned (.bool (isDy c)) ∧ w = w' := by
  go_enter Try.func15, Try.ntmps15
  go_wp2
  all_goals
    go_ret
    exact ⟨by simp_all [isDy] <;> intros <;> omega, rfl⟩
set_option maxRecDepth 100000 in
set_option maxHeartbeats 1000000 in
theorem Validate_any (A : Option Addr) (c B : Nat) (l : List Fc) (w : World) (hB : B ≤ w.heap.size) (h : FactsAt B w A l) (hm : l.length ≤ 1000) :
    Calls Try.prog 17 #[.slice A l.length c] w fun e w' => ∃ z, e = .returned (.int .i64 z) ∧ (z = 0 ∧ Ok l ∨ z ≠ 0 ∧ ¬ Ok l) ∧ Below w.heap.size w w' := by
  by_cases h60 : 60 < l.length
  · go_enter Try.func17, Try.ntmps17
    go_wp2
    go_ret
    exact ⟨4, rfl, .inr ⟨by decide, fun h => by have := h.1; omega⟩, Below.refl _ _⟩
  · go_enter Try.func17, Try.ntmps17
    go_wp2
    go_loopw [10] (fun i wr => ∃ k : Nat, k ≤ l.length ∧ i = .int .i64 k ∧ OkTo l k ∧ Below w.heap.size w wr) (fun i _ => l.length - (intOf i).toNat)
    case atStart => exact ⟨0, Nat.zero_le _, rfl, OkTo.zero l, Below.refl _ _⟩
    case round =>
      obtain ⟨k, hk, rfl, hall, hb⟩ := hrel
      by_cases hlt : k < l.length
      · obtain ⟨b, off, rfl, hbB, c0, c1, c2, c3, c4⟩ := h.at hlt
        have d0 := (hb.cell (p := ⟨b, off + k * 5, none⟩) (by simp; omega)).trans c0
        have d1 := (hb.cell (p := ⟨b, off + k * 5 + 1, none⟩) (by simp; omega)).trans c1
        have d2 := (hb.cell (p := ⟨b, off + k * 5 + 2, none⟩) (by simp; omega)).trans c2
        have d3 := (hb.cell (p := ⟨b, off + k * 5 + 3, none⟩) (by simp; omega)).trans c3
        have d4 := (hb.cell (p := ⟨b, off + k * 5 + 4, none⟩) (by simp; omega)).trans c4
        have cr := Lib.hid (right_any l[k])
        have H := Lib.hid h
        clear c0 c1 c2 c3 c4 h
        cases hok : okF l[k] with
        | false =>
          rw [hok] at cr
          go_wp2_with (go_at_call 25; refine (cr.out _).mono ?_; rintro e w1 ⟨rfl, hb1⟩)
          go_ret
          exact ⟨1, rfl, .inr ⟨by decide, fun h => by have := h.ok hlt; rw [hok] at this; cases this⟩, (hb.alloc hb.size _).trans (hb1.mono (by simp; exact Nat.le_trans hb.size (Nat.le_succ _)))⟩
        | true =>
          rw [hok] at cr
          have hba := hb.alloc hb.size (.cells #[.int .i64 l[k].a, .int .i64 l[k].c, .int .i64 l[k].f, .int .i64 l[k].t, .int .i64 l[k].m] 24)
          have HK := Lib.hid (Blk.new wr 24 #[.int .i64 l[k].a, .int .i64 l[k].c, .int .i64 l[k].f, .int .i64 l[k].t, .int .i64 l[k].m])
          cases k with
          | zero =>
            simp only [Nat.zero_mul, Nat.add_zero] at d0 d1 d2 d3 d4
            go_wp2_with (go_at_call 25; refine (cr.out _).mono ?_; rintro e w1 ⟨rfl, hb1⟩; have y0 := (hb1.cell (p := ⟨wr.heap.size, 0, none⟩) HK.out.lt).trans (HK.out.cell 0))
            go_quiet (fail)
            go_wp2_with fail
            go_roundw
            case rel => exact ⟨1, by omega, by go_num, hall.succ hlt hok (fun j hj => by omega), below_drewN (hba.trans (hb1.mono hba.size)) _⟩
            case measure => simp [intOf]; omega
          | succ j =>
            obtain ⟨b', off', e, hbB', p0, _⟩ := H.out.at (k := j) (by omega)
            obtain ⟨rfl, rfl⟩ : b = b' ∧ off = off' := by injection e with e; injection e with e1 e2; exact ⟨e1, e2⟩
            have q0 := (hba.cell (p := ⟨b, off + j * 5, none⟩) (by simp; omega)).trans p0
            have hbl : b < wr.heap.size + 1 := by have := hb.size; omega
            have hlj : j < l.length := by omega
            by_cases hle : l[j].a ≤ l[j + 1].a
            · have Hle := Lib.hid hle
              go_wp2_with (go_at_call 25; refine (cr.out _).mono ?_; rintro e w1 ⟨rfl, hb1⟩; have y0 := (hb1.cell (p := ⟨wr.heap.size, 0, none⟩) HK.out.lt).trans (HK.out.cell 0); have y1 := (hb1.cell (p := ⟨b, off + j * 5, none⟩) (by simp; exact hbl)).trans q0)
              go_quiet (fail)
              go_wp2_with fail
              go_roundw
              case rel => exact ⟨j + 2, by omega, by go_num, hall.succ hlt hok (fun i hi => by cases hi; exact Hle.out), below_drewN (hba.trans (hb1.mono hba.size)) _⟩
              case measure => simp [intOf]; omega
            · have Hle := Lib.hid hle
              go_wp2_with (go_at_call 25; refine (cr.out _).mono ?_; rintro e w1 ⟨rfl, hb1⟩; have y0 := (hb1.cell (p := ⟨wr.heap.size, 0, none⟩) HK.out.lt).trans (HK.out.cell 0); have y1 := (hb1.cell (p := ⟨b, off + j * 5, none⟩) (by simp; exact hbl)).trans q0)
              go_quiet (fail)
              go_wp2_with fail
              go_ret
              exact ⟨7, rfl, .inr ⟨by decide, fun h => by have h1 := h.2.2 j hlt (by omega); have h2 := Hle.out; omega⟩, below_drewN (hba.trans (hb1.mono hba.size)) _⟩
      · obtain rfl : k = l.length := by omega
        go_wp2_with fail
        go_ret
        exact ⟨0, rfl, .inl ⟨rfl, by omega, hall⟩, hb⟩
end Go.Proofs.Ytefojeaoechgoaa
