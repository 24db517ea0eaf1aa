/- Plain: bits and lists; tables. -/
import Derived.Test.YtgoojcjfhghmgaaDoorDisO
namespace Go.Proofs.YtgoojcjfhghmgaaDoor
open Go.RowKit

theorem ctz_le {m : Nat} (h0 : m ≠ 0) (hm : m < 18446744073709551616) {i : Nat} (h : m.testBit i = true) : Lib.ctz 64 m ≤ i := by
  obtain ⟨q, hq, _⟩ := Lib.ctzFrom_spec 64 m (by omega) hm
  have hc : Lib.ctz 64 m = Lib.ctzFrom 64 m := by unfold Lib.ctz; rw [if_neg h0]
  rw [hc]
  apply Classical.byContradiction
  intro hn
  rw [hq, Nat.testBit_two_pow_mul] at h
  simp at h
  omega
theorem bl_asc : ∀ (m : Nat) (_ : m < 18446744073709551616), (bl m).Pairwise (· < ·) := by
  intro m
  induction m using Nat.strongRecOn with
  | _ m ih =>
    intro hm
    by_cases h0 : m = 0
    · subst h0; rw [bl_zero]; exact .nil
    · rw [bl_pos h0, List.pairwise_cons]
      have hlt := clear_lt h0
      refine ⟨fun i hi => ?_, ih _ hlt (by omega)⟩
      rw [mem_bl _ (by omega), clear_bit h0 hm, Bool.and_eq_true, decide_eq_true_eq] at hi
      have := ctz_le h0 hm hi.1
      omega
theorem asc_ext : ∀ {a b : List Nat}, a.Pairwise (· < ·) → b.Pairwise (· < ·) → (∀ i, i ∈ a ↔ i ∈ b) → a = b
  | [], [], _, _, _ => rfl
  | [], y :: b, _, _, h => by have := (h y).2 (by simp); simp at this
  | x :: a, [], _, _, h => by have := (h x).1 (by simp); simp at this
  | x :: a, y :: b, ha, hb, h => by
    rw [List.pairwise_cons] at ha hb
    have e : x = y := by
      have h1 := (h x).1 (by simp)
      have h2 := (h y).2 (by simp)
      rcases List.mem_cons.1 h1 with rfl | h1
      · rfl
      · rcases List.mem_cons.1 h2 with rfl | h2
        · rfl
        · have := ha.1 y h2; have := hb.1 x h1; omega
    subst e
    congr 1
    refine asc_ext ha.2 hb.2 fun i => ?_
    constructor
    · intro hi
      rcases List.mem_cons.1 ((h i).1 (List.mem_cons_of_mem _ hi)) with rfl | h1
      · have := ha.1 i hi; omega
      · exact h1
    · intro hi
      rcases List.mem_cons.1 ((h i).2 (List.mem_cons_of_mem _ hi)) with rfl | h1
      · have := hb.1 i hi; omega
      · exact h1
theorem filter_asc (n : Nat) (p : Nat → Bool) : ((List.range n).filter p).Pairwise (· < ·) := List.Pairwise.filter _ List.pairwise_lt_range
theorem bl_filter {m n : Nat} (hm : m < 2 ^ n) (hn : n ≤ 60) : bl m = (List.range n).filter fun i => m.testBit i := by
  have h1 : m < 18446744073709551616 := Nat.lt_of_lt_of_le hm (Nat.le_trans (Nat.pow_le_pow_right (by decide) hn) (by decide))
  refine asc_ext (bl_asc m h1) (filter_asc _ _) fun i => ?_
  rw [List.mem_filter, List.mem_range, mem_bl m h1]
  exact ⟨fun h => ⟨bl_lt hm hn ((mem_bl m h1 i).2 h), h⟩, fun h => h.2⟩
/-- Bits of a list of places. -/
theorem bits_ext {x y p : Nat} (hx : x < 2 ^ p) (hy : y < 2 ^ p) (h : ∀ i, i < p → x.testBit i = y.testBit i) : x = y := by
  apply Nat.eq_of_testBit_eq
  intro i
  by_cases hi : i < p
  · exact h i hi
  · rw [Nat.testBit_lt_two_pow (Nat.lt_of_lt_of_le hx (Nat.pow_le_pow_right (by decide) (by omega))), Nat.testBit_lt_two_pow (Nat.lt_of_lt_of_le hy (Nat.pow_le_pow_right (by decide) (by omega)))]
/-- The number whose bits below k are those that are ok. -/
def sumTo (ok : Nat → Bool) : Nat → Nat
  | 0 => 0
  | k + 1 => sumTo ok k + if ok k then 2 ^ k else 0
theorem sumTo_lt (ok : Nat → Bool) : ∀ k, sumTo ok k < 2 ^ k
  | 0 => by simp [sumTo]
  | k + 1 => by
    have := sumTo_lt ok k
    have h2 : 2 ^ (k + 1) = 2 ^ k + 2 ^ k := by rw [Nat.pow_succ]; omega
    simp only [sumTo]
    split <;> omega
theorem sumTo_or (ok : Nat → Bool) (k : Nat) : sumTo ok k ||| 2 ^ k = sumTo ok k + 2 ^ k := by
  have := Nat.two_pow_add_eq_or_of_lt (sumTo_lt ok k) 1
  rw [Nat.mul_one] at this
  rw [Nat.or_comm, ← this, Nat.add_comm]
theorem sumTo_bit (ok : Nat → Bool) : ∀ k q, (sumTo ok k).testBit q = (decide (q < k) && ok q)
  | 0, q => by simp [sumTo]
  | k + 1, q => by
    have ih := sumTo_bit ok k q
    simp only [sumTo]
    cases hk : ok k with
    | false =>
      rw [if_neg (by simp), Nat.add_zero, ih]
      by_cases e : q = k
      · subst e; simp [hk]
      · congr 1; rw [decide_eq_decide]; omega
    | true =>
      rw [if_pos rfl, ← sumTo_or, Nat.testBit_or, ih, Nat.testBit_two_pow]
      by_cases e : q = k
      · subst e; simp [hk]
      · have : decide (k = q) = false := by simpa using Ne.symm e
        rw [this, Bool.or_false]
        congr 1; rw [decide_eq_decide]; omega
theorem sumTo_congr {f g : Nat → Bool} : ∀ k, (∀ q, q < k → f q = g q) → sumTo f k = sumTo g k
  | 0, _ => rfl
  | k + 1, h => by simp only [sumTo]; rw [sumTo_congr k fun q hq => h q (by omega), h k (by omega)]
/-- The dishes that all children of a set can eat. -/
def etF (l : List Nat) (m : Nat) (L : List Nat) : Nat := L.foldl (fun m i => m &&& l[i]?.getD 0) m
theorem etF_bit (l : List Nat) (q : Nat) : ∀ (L : List Nat) (m : Nat), (etF l m L).testBit q = (m.testBit q && L.all fun i => (l[i]?.getD 0).testBit q)
  | [], m => by simp [etF]
  | i :: L, m => by
    have := etF_bit l q L (m &&& l[i]?.getD 0)
    unfold etF at this ⊢
    rw [List.foldl_cons, this, Nat.testBit_and, List.all_cons, Bool.and_assoc]
theorem etF_le (l : List Nat) : ∀ (L : List Nat) (m : Nat), etF l m L ≤ m
  | [], m => by simp [etF]
  | i :: L, m => by
    have := etF_le l L (m &&& l[i]?.getD 0)
    have h2 := Nat.and_le_left (n := m) (m := l[i]?.getD 0)
    unfold etF at this ⊢
    rw [List.foldl_cons]
    omega
def okD (l : List Nat) (c q : Nat) : Bool := (List.range l.length).all fun i => !c.testBit i || (l[i]?.getD 0).testBit q
def okC (l : List Nat) (d m i : Nat) : Bool := (List.range d).all fun q => !m.testBit q || (l[i]?.getD 0).testBit q
/-- What all of some children can eat; who can eat all of a set. -/
def comS (l : List Nat) (d c : Nat) : Nat := sumTo (okD l c) d
def eaS (l : List Nat) (d m : Nat) : Nat := sumTo (okC l d m) l.length
theorem comS_eq {l : List Nat} {d c : Nat} (hl : l.length ≤ 60) (hc : c < 2 ^ l.length) : etF l (2 ^ d - 1) (bl c) = comS l d c := by
  have h0 := Nat.two_pow_pos d
  refine bits_ext (p := d) (Nat.lt_of_le_of_lt (etF_le _ _ _) (by omega)) (sumTo_lt _ _) fun q hq => ?_
  rw [etF_bit, comS, sumTo_bit, Nat.testBit_two_pow_sub_one, bl_filter hc hl, okD, List.all_filter]
theorem comS_bit {l : List Nat} {d c q : Nat} : (comS l d c).testBit q = true ↔ q < d ∧ ∀ i, i < l.length → c.testBit i = true → (l[i]?.getD 0).testBit q = true := by
  rw [comS, sumTo_bit, Bool.and_eq_true, decide_eq_true_eq, okD, List.all_eq_true]
  simp only [List.mem_range]
  refine and_congr_right fun _ => ⟨fun h i hi hb => ?_, fun h i hi => ?_⟩
  · have := h i hi; rwa [hb] at this
  · cases hb : c.testBit i with
    | false => rfl
    | true => exact h i hi hb
theorem eaS_bit {l : List Nat} {d m i : Nat} : (eaS l d m).testBit i = true ↔ i < l.length ∧ ∀ q, q < d → m.testBit q = true → (l[i]?.getD 0).testBit q = true := by
  rw [eaS, sumTo_bit, Bool.and_eq_true, decide_eq_true_eq, okC, List.all_eq_true]
  simp only [List.mem_range]
  refine and_congr_right fun _ => ⟨fun h i hi hb => ?_, fun h i hi => ?_⟩
  · have := h i hi; rwa [hb] at this
  · cases hb : m.testBit i with
    | false => rfl
    | true => exact h i hi hb
/-- Fewer children: no fewer dishes. -/
theorem comS_less {l : List Nat} {d c c' : Nat} (h : ∀ i, c'.testBit i = true → c.testBit i = true) (q : Nat) (hq : (comS l d c).testBit q = true) : (comS l d c').testBit q = true := by
  rw [comS_bit] at hq ⊢
  exact ⟨hq.1, fun i hi hb => hq.2 i hi (h i hb)⟩
theorem eaS_less {l : List Nat} {d m m' : Nat} (h : ∀ q, m'.testBit q = true → m.testBit q = true) (i : Nat) (hi : (eaS l d m).testBit i = true) : (eaS l d m').testBit i = true := by
  rw [eaS_bit] at hi ⊢
  exact ⟨hi.1, fun q hq hb => hi.2 q hq (h q hb)⟩
theorem gal1 {l : List Nat} {d c : Nat} (hc : c < 2 ^ l.length) (i : Nat) (h : c.testBit i = true) : (eaS l d (comS l d c)).testBit i = true := by
  rw [eaS_bit]
  have hi : i < l.length := by
    apply Classical.byContradiction
    intro hn
    rw [Nat.testBit_lt_two_pow (Nat.lt_of_lt_of_le hc (Nat.pow_le_pow_right (by decide) (by omega)))] at h
    cases h
  exact ⟨hi, fun q _ hb => (comS_bit.1 hb).2 i hi h⟩
theorem gal2 {l : List Nat} {d m : Nat} (hm : m < 2 ^ d) (q : Nat) (h : m.testBit q = true) : (comS l d (eaS l d m)).testBit q = true := by
  rw [comS_bit]
  have hq : q < d := by
    apply Classical.byContradiction
    intro hn
    rw [Nat.testBit_lt_two_pow (Nat.lt_of_lt_of_le hm (Nat.pow_le_pow_right (by decide) (by omega)))] at h
    cases h
  exact ⟨hq, fun i _ hb => (eaS_bit.1 hb).2 q hq h⟩
theorem bits_eq {x y : Nat} (h1 : ∀ q, x.testBit q = true → y.testBit q = true) (h2 : ∀ q, y.testBit q = true → x.testBit q = true) : x = y := by
  apply Nat.eq_of_testBit_eq
  intro i
  rw [Bool.eq_iff_iff]
  exact ⟨h1 i, h2 i⟩
theorem com_com {l : List Nat} {d c : Nat} (hc : c < 2 ^ l.length) : comS l d (eaS l d (comS l d c)) = comS l d c :=
  bits_eq (comS_less (gal1 hc)) (gal2 (sumTo_lt _ _))
theorem sub_and {x y : Nat} (h : ∀ q, x.testBit q = true → y.testBit q = true) : y &&& x = x := by
  apply Nat.eq_of_testBit_eq
  intro i
  rw [Nat.testBit_and]
  cases hx : x.testBit i with
  | false => simp
  | true => rw [h i hx]; rfl
theorem and_sub {x y : Nat} (h : y &&& x = x) (q : Nat) (hq : x.testBit q = true) : y.testBit q = true := by
  rw [← h, Nat.testBit_and, Bool.and_eq_true] at hq
  exact hq.1
end Go.Proofs.YtgoojcjfhghmgaaDoor
