/- Menus. -/
import Derived.Test.YtgoojcjfhghmgaaDoorDisC
namespace Go.Proofs.YtgoojcjfhghmgaaDoor
open Go.RowKit

theorem clear_bit {m : Nat} (h0 : m ≠ 0) (hm : m < 18446744073709551616) (i : Nat) : (m &&& (m - 1)).testBit i = (m.testBit i && decide (i ≠ Lib.ctz 64 m)) := by
  obtain ⟨q, hq, _⟩ := Lib.ctzFrom_spec 64 m (by omega) hm
  have hc : Lib.ctz 64 m = Lib.ctzFrom 64 m := by unfold Lib.ctz; rw [if_neg h0]
  rw [hc]
  generalize Lib.ctzFrom 64 m = k at hq ⊢
  have hp : 0 < 2 ^ k := Nat.two_pow_pos k
  have e1 : m = 2 ^ k * (2 * q + 1) + 0 := by omega
  have e2 : m - 1 = 2 ^ k * (2 * q) + (2 ^ k - 1) := by
    rw [hq, Nat.mul_add, Nat.mul_one]; omega
  rw [Nat.testBit_and]
  have t1 : m.testBit i = if i < k then Nat.testBit 0 i else (2 * q + 1).testBit (i - k) := by
    rw [e1]; exact Nat.testBit_two_pow_mul_add _ hp i
  have t2 : (m - 1).testBit i = if i < k then (2 ^ k - 1).testBit i else (2 * q).testBit (i - k) := by
    rw [e2]; exact Nat.testBit_two_pow_mul_add _ (by omega) i
  rw [t1, t2]
  by_cases h1 : i < k
  · simp [h1]
  · rw [if_neg h1, if_neg h1]
    by_cases h2 : i = k
    · subst h2; simp
    · obtain ⟨j, rfl⟩ : ∃ j, i = k + (j + 1) := ⟨i - k - 1, by omega⟩
      have e3 : k + (j + 1) - k = j + 1 := by omega
      rw [e3, Nat.testBit_succ, Nat.testBit_succ]
      have d1 : (2 * q + 1) / 2 = q := by omega
      have d2 : 2 * q / 2 = q := by omega
      rw [d1, d2]
      simp
theorem ctz_bit {m : Nat} (h0 : m ≠ 0) (hm : m < 18446744073709551616) : m.testBit (Lib.ctz 64 m) = true := by
  obtain ⟨q, hq, _⟩ := Lib.ctzFrom_spec 64 m (by omega) hm
  have hc : Lib.ctz 64 m = Lib.ctzFrom 64 m := by unfold Lib.ctz; rw [if_neg h0]
  rw [hc]
  generalize Lib.ctzFrom 64 m = k at hq ⊢
  have e1 : m = 2 ^ k * (2 * q + 1) + 0 := by omega
  rw [e1, Nat.testBit_two_pow_mul_add _ (Nat.two_pow_pos k)]
  simp
/-- The places are those of the bits. -/
theorem mem_bl : ∀ (m : Nat) (_ : m < 18446744073709551616) (i : Nat), i ∈ bl m ↔ m.testBit i = true := by
  intro m
  induction m using Nat.strongRecOn with
  | _ m ih =>
    intro hm i
    by_cases h0 : m = 0
    · subst h0; rw [bl_zero]; simp
    · rw [bl_pos h0, List.mem_cons, ih _ (clear_lt h0) (by have := clear_lt h0; omega), clear_bit h0 hm]
      simp only [Bool.and_eq_true, decide_eq_true_eq]
      constructor
      · rintro (rfl | ⟨h, _⟩)
        · exact ctz_bit h0 hm
        · exact h
      · intro h
        by_cases e : i = Lib.ctz 64 m
        · exact .inl e
        · exact .inr ⟨h, e⟩
theorem bl_lt {m n : Nat} (hm : m < 2 ^ n) (hn : n ≤ 60) {i : Nat} (hi : i ∈ bl m) : i < n := by
  have h1 : m < 18446744073709551616 := Nat.lt_of_lt_of_le hm (Nat.le_trans (Nat.pow_le_pow_right (by decide) hn) (by decide))
  have h2 := (mem_bl m h1 i).1 hi
  apply Classical.byContradiction
  intro hge
  rw [Nat.testBit_lt_two_pow (Nat.lt_of_lt_of_le hm (Nat.pow_le_pow_right (by decide) (by omega)))] at h2
  cases h2
theorem bl_nodup : ∀ (m : Nat) (_ : m < 18446744073709551616), (bl m).Nodup := by
  intro m
  induction m using Nat.strongRecOn with
  | _ m ih =>
    intro hm
    by_cases h0 : m = 0
    · subst h0; rw [bl_zero]; exact List.nodup_nil
    · rw [bl_pos h0, List.nodup_cons]
      refine ⟨fun h => ?_, ih _ (clear_lt h0) (by have := clear_lt h0; omega)⟩
      rw [mem_bl _ (by have := clear_lt h0; omega), clear_bit h0 hm] at h
      simp at h
theorem nodup_len : ∀ (n : Nat) (l : List Nat), l.Nodup → (∀ i ∈ l, i < n) → l.length ≤ n
  | 0, l, _, h => by
    cases l with
    | nil => simp
    | cons x l => exact absurd (h x (by simp)) (by omega)
  | n + 1, l, hn, h => by
    by_cases hm : n ∈ l
    · have h1 := nodup_len n (l.erase n) (hn.erase n) fun i hi => by
        rw [hn.mem_erase_iff] at hi
        have := h i hi.2
        have := hi.1
        omega
      rw [List.length_erase_of_mem hm] at h1
      omega
    · have h1 := nodup_len n l hn fun i hi => by
        have h2 := h i hi
        have h3 : i ≠ n := fun e => hm (e ▸ hi)
        omega
      omega
theorem bl_length {m n : Nat} (hm : m < 2 ^ n) (hn : n ≤ 60) : (bl m).length ≤ n := by
  have h1 : m < 18446744073709551616 := Nat.lt_of_lt_of_le hm (Nat.le_trans (Nat.pow_le_pow_right (by decide) hn) (by decide))
  exact nodup_len n _ (bl_nodup m h1) fun i hi => bl_lt hm hn hi
end Go.Proofs.YtgoojcjfhghmgaaDoor
