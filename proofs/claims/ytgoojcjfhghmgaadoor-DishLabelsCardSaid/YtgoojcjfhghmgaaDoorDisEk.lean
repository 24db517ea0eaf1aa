/- Labels: the plain law. -/
import Derived.Test.YtgoojcjfhghmgaaDoorDisEj
namespace Go.Proofs.YtgoojcjfhghmgaaDoor
open Go.RowKit

theorem cnF_keep {b : Bk} (hv : VBk b) : ∀ (k m q : Nat), k ≤ b.its.length → k ≤ q → (cnF b k m).testBit q = m.testBit q
  | 0, m, q, _, _ => rfl
  | k + 1, m, q, hk, hq => by
    simp only [cnF]
    rw [cnF_keep hv k _ q (by omega) (by omega)]
    split
    · rw [Nat.testBit_or, mk_bit]
      cases hc : (prt b k).contains q with
      | false => simp
      | true =>
        have := prt_lt hv (show k < b.its.length by omega) q (List.contains_iff_mem.1 hc)
        omega
    · rfl
theorem cnF_sub (b : Bk) : ∀ (k m : Nat), Sub m (cnF b k m)
  | 0, m => fun q h => h
  | k + 1, m => fun q h => by
    simp only [cnF]
    refine cnF_sub b k _ q ?_
    split
    · rw [Nat.testBit_or, h]; rfl
    · exact h
theorem mk_sub {l : List Nat} {x : Nat} : (∀ q ∈ l, x.testBit q = true) → Sub (mk l) x := fun h q hq => by
  rw [mk_bit, List.contains_iff_mem] at hq
  exact h q hq
theorem cnF_shut {b : Bk} (hv : VBk b) : ∀ (k m i : Nat), k ≤ b.its.length → i < k → (cnF b k m).testBit i = true → ∀ x ∈ prt b i, (cnF b k m).testBit x = true
  | 0, m, i, _, hi, _, x, _ => absurd hi (Nat.not_lt_zero i)
  | k + 1, m, i, hk, hi, hb, x, hx => by
    simp only [cnF] at hb ⊢
    by_cases e : i = k
    · subst e
      rw [cnF_keep hv i _ i (by omega) (Nat.le_refl _)] at hb
      refine cnF_sub b i _ x ?_
      cases hm : m.testBit i with
      | true =>
        simp only [if_true]
        rw [Nat.testBit_or, mk_bit, List.contains_iff_mem.2 hx, Bool.or_true]
      | false =>
        rw [hm] at hb
        simp only [Bool.false_eq_true, if_false] at hb
        rw [hm] at hb; cases hb
    · exact cnF_shut hv k _ i (by omega) (by omega) hb x hx
theorem cnF_least {b : Bk} : ∀ (k m Z : Nat), Sub m Z → (∀ i, i < k → Z.testBit i = true → ∀ x ∈ prt b i, Z.testBit x = true) → Sub (cnF b k m) Z
  | 0, m, Z, h, _ => h
  | k + 1, m, Z, h, hz => by
    simp only [cnF]
    refine cnF_least k _ Z ?_ fun i hi => hz i (by omega)
    cases hm : m.testBit k with
    | true =>
      simp only [if_true]
      intro q hq
      rw [Nat.testBit_or, Bool.or_eq_true] at hq
      rcases hq with hq | hq
      · exact h q hq
      · exact mk_sub (hz k (by omega) (h k hm)) q hq
    | false => simpa using h
/-- What an item contains contains no more. -/
theorem cnS_sub {b : Bk} (hv : VBk b) {item i : Nat} (hi : item < b.its.length) (h : (cnS b item).testBit i = true) : Sub (cnS b i) (cnS b item) := by
  have hlt : i < item + 1 := by
    apply Classical.byContradiction
    intro hn
    rw [Nat.testBit_lt_two_pow (Nat.lt_of_lt_of_le (cnS_lt hv hi) (Nat.pow_le_pow_right (by decide) (by omega)))] at h
    cases h
  unfold cnS at h ⊢
  refine cnF_least (i + 1) _ _ (fun q hq => ?_) fun j hj hb => cnF_shut hv (item + 1) _ j (by omega) (by omega) hb
  rw [Nat.testBit_two_pow, decide_eq_true_eq] at hq
  subst hq; exact h
theorem bsF_bit (b : Bk) (q : Nat) : ∀ (l : List Nat) (m : Nat), (l.foldl (fun m i => m ||| mk (hasL b i)) m).testBit q = (m.testBit q || l.any fun i => (mk (hasL b i)).testBit q)
  | [], m => by simp
  | i :: l, m => by
    rw [List.foldl_cons, bsF_bit b q l, Nat.testBit_or, List.any_cons, Bool.or_assoc]
theorem bsS_sub {b : Bk} (hv : VBk b) {item i : Nat} (hi : item < b.its.length) (h : (cnS b item).testBit i = true) : Sub (bsS b i) (bsS b item) := by
  have hil : i < b.its.length := by
    apply Classical.byContradiction
    intro hn
    rw [Nat.testBit_lt_two_pow (Nat.lt_of_lt_of_le (cnS_lt hv hi) (Nat.pow_le_pow_right (by decide) (by omega)))] at h
    cases h
  have ni := hv.ni
  have e1 : cnS b item < 18446744073709551616 := Nat.lt_of_lt_of_le (cnS_lt hv hi) (Nat.le_trans (Nat.pow_le_pow_right (by decide) (show item + 1 ≤ 60 by omega)) (by decide))
  have e2 : cnS b i < 18446744073709551616 := Nat.lt_of_lt_of_le (cnS_lt hv hil) (Nat.le_trans (Nat.pow_le_pow_right (by decide) (show i + 1 ≤ 60 by omega)) (by decide))
  intro q hq
  unfold bsS at hq ⊢
  rw [bsF_bit, Nat.zero_testBit, Bool.false_or, List.any_eq_true] at hq ⊢
  obtain ⟨j, hj, hb⟩ := hq
  exact ⟨j, (mem_bl _ e1 j).2 (cnS_sub hv hi h j ((mem_bl _ e2 j).1 hj)), hb⟩
theorem Lbl.sub {b : Bk} (hv : VBk b) {item i x y : Nat} (hi : item < b.its.length) (h : (cnS b item).testBit i = true) (hx : Lbl b item x) (hy : Lbl b i y) : Sub y x :=
  hy.1.1.2 x (fun q hq => hx.1.1.1 q (bsS_sub hv hi h q hq)) hx.1.2

/-- The lists of Contains and Label. -/
def cnL (b : Bk) (item : Int) : List Int := if nmR b item = 0 then intL (bl (cnS b item.toNat)) else []
theorem CnR.ints {b : Bk} {item : Int} {base : Nat} {v : Value} {W : World} (h : CnR b item base v W) : ∃ A c, v = .slice A (cnL b item).length c ∧ IntsAt W.heap.size W A (cnL b item) ∧ (cnL b item).length ≤ 20 := by
  unfold CnR at h
  split at h
  · rename_i h0
    obtain ⟨h1, h2, h3⟩ := h
    obtain ⟨A, c, e, i⟩ := IntsAt.of_nat h3
    have := bl_length h1 (by omega)
    rw [cnL, if_pos h0]
    exact ⟨A, c, e, i, by simp [intL]; omega⟩
  · rename_i h0
    rw [cnL, if_neg h0]
    exact ⟨none, 0, h, IntsAt.nil _ _ _, by simp⟩
def LbL (b : Bk) (item : Int) (L : List Int) : Prop := if nmR b item = 0 then ∃ x : Nat, Lbl b item.toNat x ∧ L = intL (bl x) else L = []
theorem LbR.ints {b : Bk} {item : Int} {base : Nat} {v : Value} {W : World} (h : LbR b item base v W) : ∃ L A c, v = .slice A (List.length L) c ∧ IntsAt W.heap.size W A L ∧ LbL b item L ∧ L.length ≤ 10 := by
  unfold LbR at h
  split at h
  · rename_i h0
    obtain ⟨x, h1, h3⟩ := h
    obtain ⟨A, c, e, i⟩ := IntsAt.of_nat h3
    have := (vl_zero (nm_zero h0).1).p1
    have := bl_short h1.2 (by omega)
    exact ⟨_, A, c, e, i, by rw [LbL, if_pos h0]; exact ⟨x, h1, rfl⟩, by simpa [intL] using this⟩
  · rename_i h0
    exact ⟨[], none, 0, h, IntsAt.nil _ _ _, by rw [LbL, if_neg h0], by simp⟩
theorem LbL.unique {b : Bk} {item : Int} {L L' : List Int} (h : LbL b item L) (h' : LbL b item L') : L = L' := by
  unfold LbL at h h'
  split at h
  · obtain ⟨x, h1, rfl⟩ := h
    rename_i h0
    rw [if_pos h0] at h'
    obtain ⟨y, g1, rfl⟩ := h'
    rw [h1.1.unique g1.1]
  · rename_i h0
    rw [if_neg h0] at h'
    rw [h, h']
/-- Each thing that an item contains: its label is there, and lies in the item's. -/
theorem label_part {b : Bk} {item z : Int} {L : List Int} (hz : z ∈ cnL b item) (hL : LbL b item L) : nmR b z = 0 ∧ ∀ L', LbL b z L' → ∀ q ∈ L', L.contains q = true := by
  unfold cnL at hz
  split at hz
  · rename_i h0
    obtain ⟨hv0, hi0, hi1⟩ := nm_zero h0
    have hv := vl_zero hv0
    have hp1 := hv.p1
    have ni := hv.ni
    obtain ⟨i, hi, rfl⟩ := List.mem_map.1 hz
    have hlt := cnS_lt hv (item := item.toNat) (by omega)
    have e1 : cnS b item.toNat < 18446744073709551616 := Nat.lt_of_lt_of_le hlt (Nat.le_trans (Nat.pow_le_pow_right (by decide) (show item.toNat + 1 ≤ 60 by omega)) (by decide))
    have hbit := (mem_bl _ e1 i).1 hi
    have hil := bl_lt hlt (by omega) hi
    have hn : nmR b (i : Int) = 0 := by rw [nmR, if_pos hv0, if_neg (by omega)]
    refine ⟨hn, fun L' h' q hq => ?_⟩
    rw [LbL, if_pos h0] at hL
    rw [LbL, if_pos hn] at h'
    obtain ⟨x, hx, rfl⟩ := hL
    obtain ⟨y, hy, rfl⟩ := h'
    obtain ⟨t, ht, rfl⟩ := List.mem_map.1 hq
    rw [List.contains_iff_mem]
    refine List.mem_map.2 ⟨t, ?_, rfl⟩
    rw [mem_bl x (p64 hx.2 (by omega))]
    rw [mem_bl y (p64 hy.2 (by omega))] at ht
    exact Lbl.sub hv (by omega) hbit hx hy t ht
  · simp at hz
end Go.Proofs.YtgoojcjfhghmgaaDoor
