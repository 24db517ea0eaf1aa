/- until: the facts that are written at a minute. -/
import Derived.Test.YtefojeaoechgoaaTimB
namespace Go.Proofs.Ytefojeaoechgoaa
open Go.RowKit

theorem cmp_any (x : Fc) (a : Int) (w : World) : Calls Try.prog 27 #[.agg #[.int .i64 x.a, .int .i64 x.c, .int .i64 x.f, .int .i64 x.t, .int .i64 x.m], .int .i64 a] w fun e w' => e = .returned (.int .i64 (if x.a ≤ a then -1 else 1)) ∧ Below w.heap.size w w' := by
  by_cases h : x.a ≤ a
  · rw [if_pos h]
    go_enter Try.func27, Try.ntmps27
    go_wp2
    go_ret
    exact ⟨rfl, (Below.refl _ _).alloc (Nat.le_refl _) _⟩
  · rw [if_neg h]
    go_enter Try.func27, Try.ntmps27
    go_wp2
    go_ret
    exact ⟨rfl, (Below.refl _ _).alloc (Nat.le_refl _) _⟩

set_option maxRecDepth 100000 in
set_option maxHeartbeats 1000000 in
theorem search_any (A : Option Addr) (c B : Nat) (l : List Fc) (at_ : Int) (w : World) (hB : B ≤ w.heap.size) (h : FactsAt B w A l) (hok : Ok l) :
    Calls Try.prog 26 #[.slice A l.length c, .int .i64 at_, .func (.func 27) #[] #[]] w fun e w' => ∃ b, e = .returned (.tuple #[.int .i64 (cnt l at_), .bool b]) ∧ Below w.heap.size w w' := by
  have h60 := hok.1
  go_enter Try.func26, Try.ntmps26
  go_wp2_with fail
  go_loopw [9, 10] (fun x y wr => ∃ i j : Nat, i ≤ j ∧ j ≤ l.length ∧ x = .int .i64 i ∧ y = .int .i64 j ∧ (∀ k (hk : k < l.length), k < i → l[k].a ≤ at_) ∧ (∀ k (hk : k < l.length), j ≤ k → at_ < l[k].a) ∧ Below w.heap.size w wr) (fun x y _ => ((intOf y) - (intOf x)).toNat)
  case atStart => exact ⟨0, l.length, Nat.zero_le _, Nat.le_refl _, rfl, rfl, fun k _ hk => by omega, fun k h1 h2 => by omega, Below.refl _ _⟩
  case round =>
    obtain ⟨i, j, hij, hj, rfl, rfl, h1, h2, hb⟩ := hrel
    by_cases hlt : i < j
    · have H12 := Lib.hid (And.intro h1 h2)
      clear h1 h2
      have hm1 : i ≤ (i + j) / 2 := by omega
      have hm2 : (i + j) / 2 < j := by omega
      obtain ⟨b, off, rfl, hbB, c0, c1, c2, c3, c4⟩ := h.at (k := (i + j) / 2) (by omega)
      have d0 := (hb.cell (p := ⟨b, off + (i + j) / 2 * 5, none⟩) (by simp; omega)).trans c0
      have d1 := (hb.cell (p := ⟨b, off + (i + j) / 2 * 5 + 1, none⟩) (by simp; omega)).trans c1
      have d2 := (hb.cell (p := ⟨b, off + (i + j) / 2 * 5 + 2, none⟩) (by simp; omega)).trans c2
      have d3 := (hb.cell (p := ⟨b, off + (i + j) / 2 * 5 + 3, none⟩) (by simp; omega)).trans c3
      have d4 := (hb.cell (p := ⟨b, off + (i + j) / 2 * 5 + 4, none⟩) (by simp; omega)).trans c4
      clear c0 c1 c2 c3 c4
      have cc := Lib.hid (cmp_any l[(i + j) / 2] at_ wr)
      by_cases hle : l[(i + j) / 2].a ≤ at_
      · rw [if_pos hle] at cc
        have Hle := Lib.hid hle
        clear hle
        go_wp2_with (go_at_call 27; refine cc.out.mono ?_; rintro e w1 ⟨rfl, hb1⟩)
        go_roundw
        case rel =>
          refine ⟨(i + j) / 2 + 1, j, by omega, hj, by go_num, rfl, fun k hk hki => ?_, H12.out.2, hb.trans (hb1.mono hb.size)⟩
          exact Int.le_trans (hok.le (i := k) (j := (i + j) / 2) (by omega) (by omega)) Hle.out
        case measure => simp [intOf]; omega
      · rw [if_neg hle] at cc
        have Hle := Lib.hid (Int.not_le.1 hle)
        clear hle
        go_wp2_with (go_at_call 27; refine cc.out.mono ?_; rintro e w1 ⟨rfl, hb1⟩)
        go_roundw
        case rel =>
          refine ⟨i, (i + j) / 2, by omega, by omega, rfl, by go_num, H12.out.1, fun k hk hki => ?_, hb.trans (hb1.mono hb.size)⟩
          exact Int.lt_of_lt_of_le Hle.out (hok.le (i := (i + j) / 2) (j := k) hki hk)
        case measure => simp [intOf]; omega
    · obtain rfl : i = j := by omega
      have hcnt := cnt_of hj h1 (fun hk => Int.not_le.2 (h2 i hk (Nat.le_refl _)))
      have Hcnt := Lib.hid hcnt
      clear hcnt h1 h2
      by_cases hin : i < l.length
      · obtain ⟨b, off, rfl, hbB, c0, c1, c2, c3, c4⟩ := h.at hin
        have d0 := (hb.cell (p := ⟨b, off + i * 5, none⟩) (by simp; omega)).trans c0
        have d1 := (hb.cell (p := ⟨b, off + i * 5 + 1, none⟩) (by simp; omega)).trans c1
        have d2 := (hb.cell (p := ⟨b, off + i * 5 + 2, none⟩) (by simp; omega)).trans c2
        have d3 := (hb.cell (p := ⟨b, off + i * 5 + 3, none⟩) (by simp; omega)).trans c3
        have d4 := (hb.cell (p := ⟨b, off + i * 5 + 4, none⟩) (by simp; omega)).trans c4
        have cc := Lib.hid (cmp_any l[i] at_ wr)
        generalize (if l[i].a ≤ at_ then (-1 : Int) else 1) = zc at cc
        clear c0 c1 c2 c3 c4
        go_wp2_with (go_at_call 27; refine cc.out.mono ?_; rintro e w1 ⟨rfl, hb1⟩)
        go_ret2
        exact ⟨_, by rw [Hcnt.out]; rfl, hb.trans (hb1.mono hb.size)⟩
      · go_wp2_with fail
        go_ret2
        exact ⟨_, by rw [Hcnt.out]; rfl, hb⟩

set_option maxRecDepth 100000 in
set_option maxHeartbeats 1000000 in
theorem until_any (A : Option Addr) (c B : Nat) (l : List Fc) (at_ : Int) (w : World) (hB : B ≤ w.heap.size) (h : FactsAt B w A l) (hok : Ok l) (hc : l.length ≤ c) (_ : c ≤ maxLen) :
    Calls Try.prog 19 #[.slice A l.length c, .int .i64 at_] w fun e w' => e = .returned (.slice A (cnt l at_) (cnt l at_)) ∧ Below w.heap.size w w' := by
  have h60 := hok.1
  have cs := Lib.hid (search_any A c B l at_ w hB h hok)
  have hn := cnt_le l at_
  generalize cnt l at_ = n at cs hn ⊢
  clear h
  go_enter Try.func19, Try.ntmps19
  go_wp2_with (go_at_call 26; refine cs.out.mono ?_; rintro e w1 ⟨b, rfl, hb1⟩)
  go_ret
  exact ⟨rfl, hb1⟩

theorem unt_at {B : Nat} {w : World} {A : Option Addr} {l : List Fc} (h : FactsAt B w A l) (at_ : Int) : FactsAt B w A (unt l at_) := RecAt.take h _
theorem unt_length (l : List Fc) (at_ : Int) : (unt l at_).length = cnt l at_ := by have := cnt_le l at_; simp [unt]; omega
set_option maxRecDepth 100000 in
set_option maxHeartbeats 1000000 in
theorem Until_any (A : Option Addr) (c B : Nat) (l : List Fc) (at_ : Int) (w : World) (hB : B ≤ w.heap.size) (h : FactsAt B w A l) (hok : Ok l) (hc : l.length ≤ c) (hc2 : c ≤ maxLen) :
    Calls Try.prog 7 #[.slice A l.length c, .int .i64 at_] w fun e w' => ∃ A' c', e = .returned (.tuple #[.slice A' (cnt l at_) c', .int .i64 0]) ∧ FactsAt w'.heap.size w' A' (unt l at_) ∧ cnt l at_ ≤ c' ∧ c' ≤ maxLen ∧ Below w.heap.size w w' := by
  have h60 := hok.1
  have hI := RecAt.below h (Below.refl _ _) hB
  have cv := Lib.hid (Validate_ok A c B l w hB h (by omega) hok)
  have cu := Lib.hid (fun W (hW : Below w.heap.size w W) => until_any A c w.heap.size l at_ W hW.size (RecAt.below hI hW (Nat.le_refl _)) hok hc hc2)
  have hn := cnt_le l at_
  have cc := Lib.hid (fun W (hW : Below w.heap.size w W) => by
    have := Clone_any A (cnt l at_) w.heap.size (unt l at_) W hW.size (unt_at (RecAt.below hI hW (Nat.le_refl _)) at_) (by rw [unt_length]; omega)
    rw [unt_length] at this
    exact this)
  have Hl := Lib.hid (unt_length l at_)
  generalize cnt l at_ = n at cu cc hn Hl ⊢
  generalize unt l at_ = u at cc Hl ⊢
  clear h hI
  go_enter Try.func7, Try.ntmps7
  go_wp2_with (first
    | (go_at_call 17; refine cv.out.mono ?_; rintro e w1 ⟨rfl, hb1⟩)
    | (go_at_call 19; refine (cu.out _ hb1).mono ?_; rintro e w2 ⟨rfl, hd⟩; have hb2 := hb1.trans (hd.mono hb1.size))
    | (go_at_call 18; refine (cc.out _ hb2).mono ?_; rintro e w3 ⟨A3, c3, rfl, hown3, hd3⟩; have hb3 := hb2.trans (hd3.mono hb2.size)))
  have hcap := own_cap hown3
  go_ret2
  exact ⟨A3, c3, rfl, RecAt.of_own (c := c3) (base := w2.heap.size) (e := 24) cF_length (by rw [Hl.out]; exact hown3), hcap.1, hcap.2, hb3⟩
end Go.Proofs.Ytefojeaoechgoaa
