/- Lists of numbers compared: slices.Compare f102, first f103. -/
import Derived.Test.YtgoojcjfhghmgaaDoorDisC
import Derived.Test.YtgoojcjfhghmgaaDoorShelf
set_option linter.unusedSimpArgs false
set_option linter.unusedVariables false
namespace Go.Proofs.YtgoojcjfhghmgaaDoor
open Go Go.RowKit

/-- Which list comes first. -/
def cmpL : List Int → List Int → Int
  | [], [] => 0
  | [], _ :: _ => -1
  | _ :: _, [] => 1
  | x :: a, y :: b => if Lib.compareInt x y = 0 then cmpL a b else Lib.compareInt x y
theorem cmpL_at {xs ys : List Int} {k : Nat} (h1 : k < xs.length) (h2 : k < ys.length) : cmpL (xs.drop k) (ys.drop k) = if Lib.compareInt xs[k] ys[k] = 0 then cmpL (xs.drop (k + 1)) (ys.drop (k + 1)) else Lib.compareInt xs[k] ys[k] := by
  rw [List.drop_eq_getElem_cons h1, List.drop_eq_getElem_cons h2]; rfl
theorem cmpL_long {xs ys : List Int} {k : Nat} (h1 : k < xs.length) (h2 : k = ys.length) : cmpL (xs.drop k) (ys.drop k) = 1 := by
  subst h2
  rw [List.drop_length, List.drop_eq_getElem_cons h1]; rfl
theorem cmpL_short {xs ys : List Int} {k : Nat} (h1 : k = xs.length) (h2 : k < ys.length) : cmpL (xs.drop k) (ys.drop k) = -1 := by
  subst h1
  rw [List.drop_length, List.drop_eq_getElem_cons h2]; rfl
theorem cmpL_end {xs ys : List Int} {k : Nat} (h1 : k = xs.length) (h2 : k = ys.length) : cmpL (xs.drop k) (ys.drop k) = 0 := by
  subst h1
  rw [List.drop_length, h2, List.drop_length]; rfl

set_option maxRecDepth 100000 in
set_option maxHeartbeats 1000000 in
theorem slCompare_any (A A' : Option Addr) (c c' B : Nat) (xs ys : List Int) (w : World) (h : IntsAt B w A xs) (h' : IntsAt B w A' ys) (hx : xs.length ≤ 1000) (hy : ys.length ≤ 1000) :
    Calls Tryd.prog 102 #[.slice A xs.length c, .slice A' ys.length c'] w fun e w' => e = .returned (.int .i64 (cmpL xs ys)) ∧ w = w' := by
  have H := Lib.hid h
  have H' := Lib.hid h'
  clear h h'
  go_enter Tryd.func102, Tryd.ntmps102
  go_wp2_with fail
  go_loop [11] (fun vk => ∃ k : Nat, k ≤ xs.length ∧ k ≤ ys.length ∧ vk = .int .i64 k ∧ Aside (cmpL xs ys = cmpL (xs.drop k) (ys.drop k))) (fun vk => xs.length - (intOf vk).toNat)
  case atStart => exact ⟨0, Nat.zero_le _, Nat.zero_le _, rfl, rfl⟩
  case round =>
    obtain ⟨k, hk, hk2, rfl, hc⟩ := hrel
    have HC := Lib.hid hc.out
    clear hc
    by_cases hlt : k < xs.length
    · obtain ⟨b1, o1, rfl, _, y0⟩ := H.out.at hlt
      have hkI : (k : Int) < (xs.length : Int) := by omega
      by_cases hlt2 : k < ys.length
      · obtain ⟨b2, o2, rfl, _, y1⟩ := H'.out.at hlt2
        have hkI2 : (k : Int) < (ys.length : Int) := by omega
        have HD := Lib.hid (cmpL_at hlt hlt2)
        generalize xs[k] = x at y0 HD
        generalize ys[k] = y at y1 HD
        by_cases hz : Lib.compareInt x y = 0
        · have HC2 := Lib.hid (show cmpL xs ys = cmpL (xs.drop (k + 1)) (ys.drop (k + 1)) by rw [HC.out, HD.out, if_pos hz])
          have hd : (Lib.compareInt x y != 0) = false := by simpa using hz
          clear hz HD HC
          go_wp2_with (go_at_call 116; refine (Tryd.cmp_Compare_int _ _ _).mono ?_; rintro e w1 ⟨rfl, rfl⟩)
          go_round
          case rel => exact ⟨k + 1, by omega, by omega, by go_num, HC2.out⟩
          case measure => simp [intOf]; omega
        · have HC2 := Lib.hid (show cmpL xs ys = Lib.compareInt x y by rw [HC.out, HD.out, if_neg hz])
          have hd : (Lib.compareInt x y != 0) = true := by simpa using hz
          clear hz HD HC
          go_wp2_with (go_at_call 116; refine (Tryd.cmp_Compare_int _ _ _).mono ?_; rintro e w1 ⟨rfl, rfl⟩)
          go_ret
          exact ⟨by rw [HC2.out]; rfl, rfl⟩
      · have HC2 := Lib.hid (show cmpL xs ys = 1 by rw [HC.out, cmpL_long hlt (by omega)])
        have hkI2 : (ys.length : Int) ≤ (k : Int) := by omega
        go_wp2_with fail
        go_ret
        exact ⟨by rw [HC2.out]; rfl, rfl⟩
    · obtain rfl : k = xs.length := by omega
      by_cases hlt2 : xs.length < ys.length
      · have HC2 := Lib.hid (show cmpL xs ys = -1 by rw [HC.out, cmpL_short rfl hlt2])
        have hkI2 : (xs.length : Int) < (ys.length : Int) := by omega
        go_wp2_with fail
        go_ret
        exact ⟨by rw [HC2.out]; rfl, rfl⟩
      · have HC2 := Lib.hid (show cmpL xs ys = 0 by rw [HC.out, cmpL_end rfl (by omega)])
        have hkI2 : (ys.length : Int) ≤ (xs.length : Int) := by omega
        go_wp2_with fail
        go_ret
        exact ⟨by rw [HC2.out]; rfl, rfl⟩


/-- A shorter list, or one that is equally long and before it. -/
def frB (a b : List Int) : Bool := if a.length = b.length then decide (cmpL a b < 0) else decide (a.length < b.length)
theorem cmpI (x y : Int) : Lib.compareInt x y = if x < y then -1 else if x = y then 0 else 1 := by
  unfold Lib.compareInt
  repeat (first | split | omega)
theorem frB_long {a b : List Int} (h : a.length ≠ b.length) : frB a b = decide (a.length < b.length) := if_neg h
/-- As far as place k the two lists are the same. -/
theorem cmpL_ne {a b : List Int} {k : Nat} (h1 : k < a.length) (h2 : k < b.length) (he : cmpL a b = cmpL (a.drop k) (b.drop k)) (hn : a[k] ≠ b[k]) : decide (cmpL a b < 0) = decide (a[k] < b[k]) := by
  rw [he, cmpL_at h1 h2, cmpI]
  by_cases h : a[k] < b[k]
  · simp [h]
  · simp [h, hn]
theorem cmpL_eq {a b : List Int} {k : Nat} (h1 : k < a.length) (h2 : k < b.length) (he : cmpL a b = cmpL (a.drop k) (b.drop k)) (hn : a[k] = b[k]) : cmpL a b = cmpL (a.drop (k + 1)) (b.drop (k + 1)) := by
  rw [he, cmpL_at h1 h2, cmpI, hn]
  simp

set_option maxRecDepth 100000 in
set_option maxHeartbeats 1000000 in
theorem first_ref (A A' : Option Addr) (c c' B : Nat) (xs ys : List Int) (w : World) (h : IntsAt B w A xs) (h' : IntsAt B w A' ys) (hx : xs.length ≤ 1000) (hy : ys.length ≤ 1000) :
    Calls Tryd.prog 103 #[.slice A xs.length c, .slice A' ys.length c'] w fun e w' => e = .returned (.bool (frB xs ys)) ∧ Drew w w' := by
  have H := Lib.hid h
  have H' := Lib.hid h'
  clear h h'
  go_enter Tryd.func103, Tryd.ntmps103
  by_cases hl : xs.length = ys.length
  · have hd : ((xs.length : Int) != (ys.length : Int)) = false := by simp [hl]
    have HF := Lib.hid (show frB xs ys = decide (cmpL xs ys < 0) from if_pos hl)
    go_wp2_with fail
    go_loopw [5] (fun vk wr => ∃ k : Nat, k ≤ xs.length ∧ vk = .int .i64 k ∧ cmpL xs ys = cmpL (xs.drop k) (ys.drop k) ∧ Drew w wr) (fun vk _ => xs.length - (intOf vk).toNat)
    case atStart => exact ⟨0, Nat.zero_le _, rfl, rfl, 0, rfl⟩
    case round =>
      obtain ⟨k, hk, rfl, hc, hb⟩ := hrel
      have HC := Lib.hid hc
      have HB := Lib.hid hb
      clear hc hb
      by_cases hlt : k < xs.length
      · obtain ⟨b1, o1, rfl, _, y0⟩ := H.out.at hlt
        have hlt2 : k < ys.length := hl ▸ hlt
        obtain ⟨b2, o2, rfl, _, y1⟩ := H'.out.at hlt2
        have d0 := (HB.out.cell _).trans y0
        have d1 := (HB.out.cell _).trans y1
        have k0 : (0 : Int) ≤ (k : Int) := by omega
        have k1 : (k : Int) < (xs.length : Int) := by omega
        have k2 : (k : Int) < (ys.length : Int) := by omega
        clear y0 y1
        have HN := Lib.hid (cmpL_ne hlt hlt2 HC.out)
        have HE := Lib.hid (cmpL_eq hlt hlt2 HC.out)
        generalize xs[k] = x at *
        generalize ys[k] = y at *
        clear hl
        by_cases he : x = y
        · have he1 : (x != y) = false := by simpa using he
          have HE2 := Lib.hid (HE.out he)
          clear he HE HN
          go_wp2_with fail
          go_quiet (fail)
          go_wp2_with fail
          go_roundw
          case rel => exact ⟨k + 1, by omega, by go_num, HE2.out, HB.out.drewN _⟩
          case measure => simp [intOf]; omega
        · have he1 : (x != y) = true := by simpa using he
          have HN2 := Lib.hid (HN.out he)
          clear he HE HN
          go_wp2_with fail
          go_quiet (fail)
          go_wp2_with fail
          go_quiet (fail)
          go_wp2_with fail
          go_ret
          exact ⟨by rw [HF.out, HN2.out]; rfl, (HB.out.drewN _).drewN _⟩
      · obtain rfl : k = xs.length := by omega
        have HX := Lib.hid (show frB xs ys = false by rw [HF.out, HC.out, List.drop_length, hl, List.drop_length]; rfl)
        clear hl
        go_wp2_with fail
        go_ret
        exact ⟨by rw [HX.out]; rfl, HB.out⟩
  · have hd : ((xs.length : Int) != (ys.length : Int)) = true := by simp; omega
    have HF := Lib.hid (frB_long hl)
    clear hl
    go_wp2_with fail
    go_ret
    exact ⟨by rw [HF.out]; rfl, 0, rfl⟩
end Go.Proofs.YtgoojcjfhghmgaaDoor
