/- The reference's table and feeds; SameInts. -/
import Derived.Test.YtgoojcjfhghmgaaDoorDisB
namespace Go.Proofs.YtgoojcjfhghmgaaDoor
open Go.RowKit

/-- Equal as far as they have been looked at. -/
def EqTo (a b : List Int) (k : Nat) : Prop := a.take k = b.take k
theorem EqTo.succ {a b : List Int} {k : Nat} (h : EqTo a b k) (ha : k < a.length) (hb : k < b.length) (e : a[k] = b[k]) : EqTo a b (k + 1) := by
  unfold EqTo at h ⊢
  rw [List.take_succ_eq_append_getElem ha, List.take_succ_eq_append_getElem hb, h, e]
theorem sameI_len {a b : List Int} (h : ¬ a.length = b.length) : decide (a = b) = false := by
  rw [decide_eq_false_iff_not]; intro e; exact h (by rw [e])
theorem sameI_ne {a b : List Int} {k : Nat} (ha : k < a.length) (hb : k < b.length) (e : ¬ a[k] = b[k]) : decide (a = b) = false := by
  rw [decide_eq_false_iff_not]; rintro rfl; exact e rfl
theorem sameI_all {a b : List Int} (hl : a.length = b.length) (h : EqTo a b a.length) : decide (a = b) = true := by
  rw [decide_eq_true_eq]
  unfold EqTo at h
  rwa [List.take_length, hl, List.take_length] at h

set_option maxRecDepth 100000 in
set_option maxHeartbeats 1000000 in
/-- SameInts: equal lists. -/
theorem sameInts_ref (A A' : Option Addr) (c c' B : Nat) (x y : List Int) (w : World) (h : IntsAt B w A x) (h' : IntsAt B w A' y) (hm : x.length ≤ 1000000) :
    Calls Tryd.prog 25 #[.slice A x.length c, .slice A' y.length c'] w fun e w' => e = .returned (.bool (decide (x = y))) ∧ Drew w w' := by
  by_cases hl : x.length = y.length
  · have hl1 : ((x.length : Int) != (y.length : Int)) = false := by simp [hl]
    have Hl := Lib.hid hl
    clear hl
    go_enter Tryd.func25, Tryd.ntmps25
    go_wp2_with fail
    go_loopw [5] (fun i wr => ∃ k : Nat, k ≤ x.length ∧ i = .int .i64 k ∧ EqTo x y k ∧ Drew w wr) (fun i _ => x.length - (intOf i).toNat)
    case atStart => exact ⟨0, Nat.zero_le _, rfl, rfl, 0, rfl⟩
    case round =>
      obtain ⟨k, hk, rfl, heq, hb⟩ := hrel
      have Hb := Lib.hid hb
      clear hb
      by_cases hlt : k < x.length
      · have hlt2 : k < y.length := by rw [← Hl.out]; exact hlt
        obtain ⟨b, off, rfl, hbB, hc⟩ := h.at hlt
        obtain ⟨b', off', rfl, hbB', hc'⟩ := h'.at hlt2
        have d0 := (Hb.out.cell _).trans hc
        have d1 := (Hb.out.cell _).trans hc'
        have k0 : (0 : Int) ≤ (k : Int) := by omega
        have k1 : (k : Int) < (x.length : Int) := by omega
        have k2 : (k : Int) < (y.length : Int) := by omega
        clear hc hc'
        by_cases he : x[k] = y[k]
        · have he1 : (x[k] != y[k]) = false := by simpa using he
          have Heq := Lib.hid (heq.succ hlt hlt2 he)
          clear he
          go_wp2_with fail
          go_quiet (fail)
          go_wp2_with fail
          go_roundw
          case rel => exact ⟨k + 1, by omega, by go_num, Heq.out, Hb.out.drewN _⟩
          case measure => simp [intOf]; omega
        · have he1 : (x[k] != y[k]) = true := by simpa using he
          have Hx := Lib.hid (sameI_ne hlt hlt2 he)
          clear he
          go_wp2_with fail
          go_quiet (fail)
          go_wp2_with fail
          go_ret
          exact ⟨by rw [Hx.out]; rfl, Hb.out.drewN _⟩
      · obtain rfl : k = x.length := by omega
        have Hx := Lib.hid (sameI_all Hl.out heq)
        go_wp2_with fail
        go_ret
        exact ⟨by rw [Hx.out]; rfl, Hb.out⟩
  · have hl1 : ((x.length : Int) != (y.length : Int)) = true := by simp; omega
    have Hx := Lib.hid (sameI_len hl)
    clear hl
    go_enter Tryd.func25, Tryd.ntmps25
    go_wp2_with fail
    go_ret
    exact ⟨by rw [Hx.out]; rfl, 0, rfl⟩

set_option maxRecDepth 100000 in
set_option maxHeartbeats 1000000 in
theorem vt_ref (A : Option Addr) (c B : Nat) (l : List Int) (d : Int) (w : World) (h : IntsAt B w A l) (hm : l.length ≤ 1000) :
    Calls Tryd.prog 40 #[.slice A l.length c, .int .i64 d] w fun e w' => e = .returned (.int .i64 (vtR l d)) ∧ Below w.heap.size w w' := by
  by_cases h1 : d < 0 ∨ 8 < d
  · have Hr := Lib.hid (show vtR l d = 1 from if_pos h1)
    rcases h1 with h1 | h1
    all_goals
      go_enter Tryd.func40, Tryd.ntmps40
      go_wp2
      go_ret
      exact ⟨by rw [Hr.out]; rfl, Below.refl _ _⟩
  · obtain ⟨d, rfl⟩ := Int.eq_ofNat_of_zero_le (show 0 ≤ d by omega)
    have hd8 : d ≤ 8 := by omega
    have h1' := Lib.hid h1
    clear h1
    by_cases h2 : 8 < l.length
    · have Hr := Lib.hid (show vtR l d = 4 by rw [vtR, if_neg h1'.out, if_pos h2])
      go_enter Tryd.func40, Tryd.ntmps40
      go_wp2
      go_ret
      exact ⟨by rw [Hr.out]; rfl, Below.refl _ _⟩
    · have Hr := Lib.hid (show vtR l d = if l.any (fun x => decide (x < 0 ∨ (2 : Int) ^ d ≤ x)) then 1 else 0 by rw [vtR, if_neg h1'.out, if_neg h2]; rfl)
      have hp := pow_wrap (show d < 63 by omega)
      go_enter Tryd.func40, Tryd.ntmps40
      go_wp2_with fail
      go_loopw [5] (fun i wr => ∃ k : Nat, k ≤ l.length ∧ i = .int .i64 k ∧ (∀ j (hj : j < l.length), j < k → ¬ (l[j] < 0 ∨ (2 : Int) ^ d ≤ l[j])) ∧ Drew w wr) (fun i _ => l.length - (intOf i).toNat)
      case atStart => exact ⟨0, Nat.zero_le _, rfl, fun j hj hk => by omega, 0, rfl⟩
      case round =>
        obtain ⟨k, hk, rfl, hn, hdr⟩ := hrel
        by_cases hlt : k < l.length
        · obtain ⟨b, off, rfl, hbB, c0⟩ := h.at hlt
          have d0 := (hdr.cell _).trans c0
          have Hn := Lib.hid hn
          have Hd := Lib.hid hdr
          have hcase : (decide (l[k] < 0) = true ∧ l[k] < 0) ∨ ((decide (l[k] < 0) = false ∧ 0 ≤ l[k]) ∧ (decide ((2 : Int) ^ d ≤ l[k]) = true ∨ decide ((2 : Int) ^ d ≤ l[k]) = false)) := by
            rcases Int.lt_or_le l[k] 0 with h3 | h3
            · exact .inl ⟨by simpa using h3, h3⟩
            · refine .inr ⟨⟨by simp; omega, h3⟩, ?_⟩
              cases decide ((2 : Int) ^ d ≤ l[k])
              · exact .inr rfl
              · exact .inl rfl
          have Hc := Lib.hid hcase
          obtain ⟨x, hx⟩ : ∃ x, l[k] = x := ⟨_, rfl⟩
          rw [hx] at d0 hcase
          have Hx := Lib.hid hx
          clear hn hdr c0 hx
          rcases hcase with ⟨h3, h4⟩ | ⟨⟨h3, h4⟩, h5 | h5⟩
          · have Ha := Lib.hid (show l.any (fun x => decide (x < 0 ∨ (2 : Int) ^ d ≤ x)) = true from List.any_eq_true.2 ⟨l[k], List.getElem_mem hlt, by rw [Hx.out]; simp; exact .inl h4⟩)
            go_wp2_with fail
            go_quiet (fail)
            go_wp2_with fail
            go_ret
            exact ⟨by rw [Hr.out, Ha.out]; rfl, below_drewN (Hd.out.below _) _⟩
          · have Ha := Lib.hid (show l.any (fun x => decide (x < 0 ∨ (2 : Int) ^ d ≤ x)) = true from List.any_eq_true.2 ⟨l[k], List.getElem_mem hlt, by rw [Hx.out]; simp; exact .inr (by simpa using h5)⟩)
            go_wp2_with fail
            go_quiet (fail)
            go_wp2_with fail
            go_ret
            exact ⟨by rw [Hr.out, Ha.out]; rfl, below_drewN (Hd.out.below _) _⟩
          · have H5 := Lib.hid (show ¬ (l[k] < 0 ∨ (2 : Int) ^ d ≤ l[k]) by rw [Hx.out]; simp at h5; omega)
            go_wp2_with fail
            go_quiet (fail)
            go_wp2_with fail
            go_roundw
            case rel =>
              refine ⟨k + 1, by omega, by go_num, fun j hj hjk => ?_, Hd.out.drewN _⟩
              by_cases e : j = k
              · subst e; exact H5.out
              · exact Hn.out j hj (by omega)
            case measure => simp [intOf]; omega
        · obtain rfl : k = l.length := by omega
          have Ha := Lib.hid (show l.any (fun x => decide (x < 0 ∨ (2 : Int) ^ d ≤ x)) = false by
            rw [List.any_eq_false]
            intro x hx
            obtain ⟨i, hi, rfl⟩ := List.getElem_of_mem hx
            simpa using hn i hi hi)
          clear hn
          go_wp2_with fail
          go_ret
          exact ⟨by rw [Hr.out, Ha.out]; rfl, hdr.below _⟩

set_option maxRecDepth 100000 in
set_option maxHeartbeats 1000000 in
theorem feeds_ref (A : Option Addr) (c B : Nat) (l : List Nat) (m : Nat) (w : World) (h : IntsAt B w A (intL l)) (hm : l.length ≤ 1000) (hl : ∀ x ∈ l, x < 1152921504606846976) (hmm : m < 1152921504606846976) :
    Calls Tryd.prog 66 #[.slice A l.length c, .int .i64 m] w fun e w' => e = .returned (.bool (fdR l m)) ∧ w = w' := by
  have hll : (intL l).length = l.length := by simp [intL]
  go_enter Tryd.func66, Tryd.ntmps66
  go_wp2_with fail
  go_loop [5] (fun i => ∃ k : Nat, k ≤ l.length ∧ i = .int .i64 k ∧ ∀ j (hj : j < l.length), j < k → (l[j] &&& m == 0) = false) (fun i => l.length - (intOf i).toNat)
  case atStart => exact ⟨0, Nat.zero_le _, rfl, fun j hj hk => by omega⟩
  case round =>
    obtain ⟨k, hk, rfl, hn⟩ := hrel
    by_cases hlt : k < l.length
    · obtain ⟨b, off, rfl, hbB, c0⟩ := h.at (k := k) (by omega)
      have e1 : (intL l)[k]'(by omega) = ((l[k] : Nat) : Int) := by simp [intL]
      rw [e1] at c0
      have hx := hl l[k] (List.getElem_mem hlt)
      have key := and_nat l[k] m (by omega) (by omega)
      have h2 : (((l[k] &&& m : Nat) : Int) == 0) = (l[k] &&& m == 0) := by rw [Bool.eq_iff_iff]; simp
      have Hn := Lib.hid hn
      clear hn e1
      cases hz : (l[k] &&& m == 0) with
      | true =>
        have Ha := Lib.hid (show fdR l m = false by
          have : (l.any fun x => x &&& m == 0) = true := List.any_eq_true.2 ⟨l[k], List.getElem_mem hlt, hz⟩
          rw [fdR, this]; rfl)
        rw [hz] at h2
        clear hz
        go_wp2_with fail
        go_ret
        exact ⟨by rw [Ha.out]; rfl, rfl⟩
      | false =>
        rw [hz] at h2
        have Hz := Lib.hid hz
        clear hz
        go_wp2_with fail
        go_round
        case rel =>
          refine ⟨k + 1, by omega, by go_num, fun j hj hjk => ?_⟩
          by_cases e : j = k
          · subst e; exact Hz.out
          · exact Hn.out j hj (by omega)
        case measure => simp [intOf]; omega
    · obtain rfl : k = l.length := by omega
      have Ha := Lib.hid (show fdR l m = true by
        have : (l.any fun x => x &&& m == 0) = false := by
          rw [List.any_eq_false]
          intro x hx
          obtain ⟨i, hi, rfl⟩ := List.getElem_of_mem hx
          rw [hn i hi hi]; simp
        rw [fdR, this]; rfl)
      clear hn
      go_wp2_with fail
      go_ret
      exact ⟨by rw [Ha.out]; rfl, rfl⟩
end Go.Proofs.YtgoojcjfhghmgaaDoor
