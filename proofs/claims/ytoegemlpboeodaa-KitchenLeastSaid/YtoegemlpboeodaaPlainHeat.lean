/- Plain arithmetic of cooling and warming: no program. -/
namespace Go.Proofs.Ytoegemlpboeodaa

/-- One step of cooling: rounded down. -/
def coolS (a n d t : Int) : Int := a + (t - a) * n / d
/-- One step of warming: rounded up. -/
def warmS (a n d t : Int) : Int := a - (a - t) * n / d
def iter (f : Int → Int) : Nat → Int → Int
  | 0, t => t
  | k + 1, t => f (iter f k t)
theorem iter_succ (f : Int → Int) (k : Nat) (t : Int) : iter f (k + 1) t = f (iter f k t) := rfl
theorem iter_add (f : Int → Int) (j k : Nat) (t : Int) : iter f (j + k) t = iter f k (iter f j t) := by
  induction k with
  | zero => rfl
  | succ k ih => rw [← Nat.add_assoc, iter_succ, iter_succ, ih]

/-- The fraction is a right one: 1 ≤ den ≤ 100, 0 ≤ num ≤ den. -/
structure Frac (n d : Int) : Prop where
  d1 : 1 ≤ d
  d2 : d ≤ 100
  n1 : 0 ≤ n
  n2 : n ≤ d

theorem mul_up {x n d : Int} (hx : 0 ≤ x) (f : Frac n d) : 0 ≤ x * n / d ∧ x * n / d ≤ x := by
  have h1 := f.d1; have h2 := f.n1; have h3 := f.n2
  have p : 0 ≤ x * n := Int.mul_nonneg hx h2
  have q : x * n ≤ x * d := Int.mul_le_mul_of_nonneg_left h3 hx
  refine ⟨Int.ediv_nonneg p (by omega), ?_⟩
  have := Int.ediv_le_ediv (by omega : 0 < d) q
  rwa [Int.mul_ediv_cancel _ (by omega)] at this
theorem mul_down {x n d : Int} (hx : x ≤ 0) (f : Frac n d) : x ≤ x * n / d ∧ x * n / d ≤ 0 := by
  have h1 := f.d1; have h2 := f.n1; have h3 := f.n2
  have p : x * n ≤ 0 := Int.mul_nonpos_of_nonpos_of_nonneg hx h2
  have q : x * d ≤ x * n := Int.mul_le_mul_of_nonpos_left hx h3
  refine ⟨?_, ?_⟩
  · have := Int.ediv_le_ediv (by omega : 0 < d) q
    rwa [Int.mul_ediv_cancel _ (by omega)] at this
  · have := Int.ediv_le_ediv (by omega : 0 < d) p
    simpa using this
theorem coolS_bd {a n d t : Int} (f : Frac n d) (ha : -2000 ≤ a ∧ a ≤ 2000) (ht : -2000 ≤ t ∧ t ≤ 2000) : -2000 ≤ coolS a n d t ∧ coolS a n d t ≤ 2000 := by
  unfold coolS
  rcases Int.le_total 0 (t - a) with h | h
  · have := mul_up h f; omega
  · have := mul_down h f; omega
theorem warmS_bd {a n d t : Int} (f : Frac n d) (ha : -2000 ≤ a ∧ a ≤ 2000) (ht : -2000 ≤ t ∧ t ≤ 2000) : -2000 ≤ warmS a n d t ∧ warmS a n d t ≤ 2000 := by
  unfold warmS
  rcases Int.le_total 0 (a - t) with h | h
  · have := mul_up h f; omega
  · have := mul_down h f; omega
theorem iter_bd {g : Int → Int} (hg : ∀ t, -2000 ≤ t ∧ t ≤ 2000 → -2000 ≤ g t ∧ g t ≤ 2000) (k : Nat) {t : Int} (ht : -2000 ≤ t ∧ t ≤ 2000) : -2000 ≤ iter g k t ∧ iter g k t ≤ 2000 := by
  induction k with
  | zero => exact ht
  | succ k ih => exact hg _ ih
theorem coolI_bd {a n d t : Int} (f : Frac n d) (ha : -2000 ≤ a ∧ a ≤ 2000) (k : Nat) (ht : -2000 ≤ t ∧ t ≤ 2000) : -2000 ≤ iter (coolS a n d) k t ∧ iter (coolS a n d) k t ≤ 2000 :=
  iter_bd (fun _ h => coolS_bd f ha h) k ht
theorem warmI_bd {a n d t : Int} (f : Frac n d) (ha : -2000 ≤ a ∧ a ≤ 2000) (k : Nat) (ht : -2000 ≤ t ∧ t ≤ 2000) : -2000 ≤ iter (warmS a n d) k t ∧ iter (warmS a n d) k t ≤ 2000 :=
  iter_bd (fun _ h => warmS_bd f ha h) k ht

/-- What is warmer at first is never colder later. -/
theorem coolS_mono {a n d s t : Int} (f : Frac n d) (h : s ≤ t) : coolS a n d s ≤ coolS a n d t := by
  unfold coolS
  have h1 := f.d1
  have : (s - a) * n ≤ (t - a) * n := Int.mul_le_mul_of_nonneg_right (by omega) f.n1
  have := Int.ediv_le_ediv (by omega : 0 < d) this
  omega
theorem coolI_mono {a n d s t : Int} (f : Frac n d) (h : s ≤ t) (k : Nat) : iter (coolS a n d) k s ≤ iter (coolS a n d) k t := by
  induction k with
  | zero => exact h
  | succ k ih => exact coolS_mono f ih
/-- Cooling is never above warming. -/
theorem cool_le_warm {a n d t : Int} (f : Frac n d) : coolS a n d t ≤ warmS a n d t := by
  unfold coolS warmS
  have h1 := f.d1
  have e : (a - t) * n = -((t - a) * n) := by rw [← Int.neg_mul]; congr 1; omega
  rw [e]
  have q1 := Int.emod_add_mul_ediv ((t - a) * n) d
  have q2 := Int.emod_add_mul_ediv (-((t - a) * n)) d
  have m1 := Int.emod_nonneg ((t - a) * n) (by omega : d ≠ 0)
  have m2 := Int.emod_nonneg (-((t - a) * n)) (by omega : d ≠ 0)
  have : d * ((t - a) * n / d + -((t - a) * n) / d) ≤ d * 0 := by rw [Int.mul_add]; omega
  have := Int.le_of_mul_le_mul_left this (by omega)
  omega
theorem coolI_le_warmI {a n d t : Int} (f : Frac n d) (k : Nat) : iter (coolS a n d) k t ≤ iter (warmS a n d) k t := by
  induction k with
  | zero => exact Int.le_refl _
  | succ k ih => exact Int.le_trans (coolS_mono f ih) (cool_le_warm f)
/-- Warming is cooling on the other side of 0. -/
theorem warmS_neg (a n d t : Int) : warmS a n d t = -coolS (-a) n d (-t) := by
  unfold coolS warmS
  have e : (-t - -a) = a - t := by omega
  rw [e]; omega
theorem warmI_neg (a n d t : Int) (k : Nat) : iter (warmS a n d) k t = -iter (coolS (-a) n d) k (-t) := by
  induction k with
  | zero => simp [iter]
  | succ k ih => rw [iter_succ, iter_succ, warmS_neg, ih, Int.neg_neg]

/-- Go's quotient, rounded down. -/
theorem fl_pos {n d : Int} (hn : 0 ≤ n) : n.tdiv d = n / d ∧ n.tmod d = n % d :=
  ⟨Int.tdiv_eq_ediv_of_nonneg hn, Int.tmod_eq_emod_of_nonneg hn⟩
theorem fl_neg {n d : Int} (hn : n < 0) (hd : 1 ≤ d) : (n.tmod d < 0 → n.tdiv d - 1 = n / d) ∧ (¬ n.tmod d < 0 → n.tdiv d = n / d) := by
  have h1 := Int.mul_tdiv_add_tmod n d
  have h2 := Int.emod_add_mul_ediv n d
  have m1 := Int.emod_nonneg n (by omega : d ≠ 0)
  have m2 := Int.emod_lt_of_pos n (by omega : 0 < d)
  have m3 : -d < n.tmod d := by
    have := Int.lt_tmod_of_pos n (by omega : 0 < d)
    omega
  have m4 : n.tmod d ≤ 0 := by
    have := Int.tmod_nonneg d (a := -n) (by omega)
    rw [Int.neg_tmod] at this; omega
  refine ⟨fun h => ?_, fun h => ?_⟩
  · have e : d * (n.tdiv d - 1 - n / d) = n % d - n.tmod d - d := by rw [Int.mul_sub, Int.mul_sub]; omega
    have a1 : d * (n.tdiv d - 1 - n / d) < d * 1 := by rw [e]; omega
    have a2 : d * (-1) < d * (n.tdiv d - 1 - n / d) := by rw [e]; omega
    have b1 := Int.lt_of_mul_lt_mul_left a1 (by omega)
    have b2 := Int.lt_of_mul_lt_mul_left a2 (by omega)
    omega
  · have h0 : n.tmod d = 0 := by omega
    have e : d * (n.tdiv d - n / d) = n % d := by rw [Int.mul_sub]; omega
    have a1 : d * (n.tdiv d - n / d) < d * 1 := by rw [e]; omega
    have a2 : d * (-1) < d * (n.tdiv d - n / d) := by rw [e]; omega
    have b1 := Int.lt_of_mul_lt_mul_left a1 (by omega)
    have b2 := Int.lt_of_mul_lt_mul_left a2 (by omega)
    omega
theorem tdiv_bd {n d M : Int} (h1 : -M ≤ n) (h2 : n ≤ M) (hd : 1 ≤ d) : -M ≤ n.tdiv d ∧ n.tdiv d ≤ M := by
  have hM : 0 ≤ M := by omega
  rcases Int.le_total 0 n with h | h
  · rw [Int.tdiv_eq_ediv_of_nonneg h]
    have := Int.ediv_le_self d h
    have := Int.ediv_nonneg h (by omega : 0 ≤ d)
    omega
  · have e : n.tdiv d = -((-n) / d) := by rw [← Int.tdiv_eq_ediv_of_nonneg (by omega : 0 ≤ -n), Int.neg_tdiv]; omega
    rw [e]
    have := Int.ediv_le_self d (by omega : 0 ≤ -n)
    have := Int.ediv_nonneg (by omega : 0 ≤ -n) (by omega : 0 ≤ d)
    omega
end Go.Proofs.Ytoegemlpboeodaa
