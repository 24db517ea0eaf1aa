/- Plain words for facts, days and spans: no program. -/
namespace Go.Proofs.Ytefojeaoechgoaa

/-- A fact: the minute, the child, the days from and to, the meal. -/
structure Fc where
  a : Int
  c : Int
  f : Int
  t : Int
  m : Int
deriving DecidableEq
def okF (x : Fc) : Bool := decide (0 ≤ x.a ∧ x.a ≤ 1440000 ∧ 0 ≤ x.c ∧ x.c ≤ 99 ∧ 0 ≤ x.f ∧ x.f < x.t ∧ x.t ≤ 1000 ∧ 0 ≤ x.m ∧ x.m ≤ 9)
theorem okF_iff {x : Fc} (h : okF x = true) : 0 ≤ x.a ∧ x.a ≤ 1440000 ∧ 0 ≤ x.c ∧ x.c ≤ 99 ∧ 0 ≤ x.f ∧ x.f < x.t ∧ x.t ≤ 1000 ∧ 0 ≤ x.m ∧ x.m ≤ 9 := by simpa [okF] using h
/-- The first k facts are in order. -/
def OkTo (l : List Fc) (k : Nat) : Prop := (∀ i (h : i < l.length), i < k → okF l[i] = true) ∧ ∀ i (h : i + 1 < l.length), i + 1 < k → l[i].a ≤ l[i + 1].a
def Ok (l : List Fc) : Prop := l.length ≤ 60 ∧ OkTo l l.length
theorem OkTo.zero (l : List Fc) : OkTo l 0 := ⟨fun i _ h => by omega, fun i _ h => by omega⟩
theorem OkTo.succ {l : List Fc} {k : Nat} (h : OkTo l k) (hk : k < l.length) (ho : okF l[k] = true) (hp : ∀ (j : Nat) (hj : j + 1 = k), (l[j]'(by omega)).a ≤ l[k].a) : OkTo l (k + 1) := by
  refine ⟨fun i hi hlt => ?_, fun i hi hlt => ?_⟩
  · by_cases e : i = k
    · subst e; exact ho
    · exact h.1 i hi (by omega)
  · by_cases e : i + 1 = k
    · subst e; exact hp i rfl
    · exact h.2 i hi (by omega)
theorem Ok.ok {l : List Fc} (h : Ok l) {i : Nat} (hi : i < l.length) : okF l[i] = true := h.2.1 i hi hi
theorem Ok.le {l : List Fc} (h : Ok l) : ∀ {i j : Nat} (_ : i ≤ j) (hj : j < l.length), (l[i]'(by omega)).a ≤ l[j].a := by
  intro i j hij hj
  obtain ⟨d, rfl⟩ : ∃ d, j = i + d := ⟨j - i, by omega⟩
  induction d with
  | zero => exact Int.le_refl _
  | succ d ih =>
    have h1 := ih (by omega) (by omega)
    have h2 := h.2.2 (i + d) (by omega) (by omega)
    exact Int.le_trans h1 h2
theorem Ok.take {l : List Fc} (h : Ok l) (n : Nat) : Ok (l.take n) := by
  refine ⟨by have := h.1; simp; omega, fun i hi _ => ?_, fun i hi _ => ?_⟩
  · simp only [List.length_take] at hi
    rw [List.getElem_take]; exact h.2.1 i (by omega) (by omega)
  · simp only [List.length_take] at hi
    rw [List.getElem_take, List.getElem_take]; exact h.2.2 i (by omega) (by omega)
/-- The facts that are written at a minute. -/
def cnt : List Fc → Int → Nat
  | [], _ => 0
  | x :: l, at_ => if x.a ≤ at_ then cnt l at_ + 1 else 0
def unt (l : List Fc) (at_ : Int) : List Fc := l.take (cnt l at_)
theorem cnt_le : ∀ (l : List Fc) (at_ : Int), cnt l at_ ≤ l.length
  | [], _ => Nat.le_refl _
  | x :: l, at_ => by have := cnt_le l at_; simp only [cnt, List.length_cons]; split <;> omega
theorem cnt_before : ∀ (l : List Fc) (at_ : Int) (i : Nat) (hi : i < l.length), i < cnt l at_ → l[i].a ≤ at_
  | x :: l, at_, i, hi, h => by
    simp only [cnt] at h
    split at h
    · cases i with
      | zero => simpa
      | succ i => exact cnt_before l at_ i (by simpa using hi) (by omega)
    · omega
theorem cnt_at : ∀ (l : List Fc) (at_ : Int) (h : cnt l at_ < l.length), ¬ l[cnt l at_].a ≤ at_
  | x :: l, at_, h => by
    by_cases hx : x.a ≤ at_
    · have e : cnt (x :: l) at_ = cnt l at_ + 1 := by simp [cnt, hx]
      simp only [e, List.length_cons, List.getElem_cons_succ] at h ⊢
      exact cnt_at l at_ (by omega)
    · have e : cnt (x :: l) at_ = 0 := by simp [cnt, hx]
      simp only [e, List.getElem_cons_zero]; exact hx
theorem cnt_of {l : List Fc} {at_ : Int} {n : Nat} (hn : n ≤ l.length) (h1 : ∀ i (h : i < l.length), i < n → l[i].a ≤ at_) (h2 : ∀ (h : n < l.length), ¬ l[n].a ≤ at_) : cnt l at_ = n := by
  rcases Nat.lt_trichotomy (cnt l at_) n with h | h | h
  · exact absurd (h1 _ (by omega) h) (cnt_at l at_ (by omega))
  · exact h
  · have := cnt_le l at_
    exact absurd (cnt_before l at_ n (by omega) h) (h2 (by omega))
theorem cnt_lt {l : List Fc} (h : Ok l) {at_ : Int} {i : Nat} (hi : i < l.length) : i < cnt l at_ ↔ l[i].a ≤ at_ := by
  refine ⟨cnt_before l at_ i hi, fun hle => ?_⟩
  apply Classical.byContradiction
  intro hnl
  have h1 := cnt_at l at_ (by omega)
  have h2 := h.le (i := cnt l at_) (j := i) (by omega) hi
  omega
def cov (x : Fc) (ch d : Int) : Bool := decide (x.c = ch ∧ x.f ≤ d ∧ d < x.t)
/-- The number of the last fact that tells of a child and a day; and its meal. -/
def mealOf : List Fc → Int → Int → Int
  | [], _, _ => 0
  | x :: l, ch, d => if l.any (fun y => cov y ch d) then mealOf l ch d else if cov x ch d then x.m else 0
theorem mealOf_snoc (l : List Fc) (x : Fc) (ch d : Int) : mealOf (l ++ [x]) ch d = if cov x ch d then x.m else mealOf l ch d := by
  induction l with
  | nil => simp [mealOf]
  | cons y l ih =>
    simp only [List.cons_append, mealOf, ih, List.any_append, List.any_cons, List.any_nil, Bool.or_false]
    by_cases h : cov x ch d = true
    · simp [h]
    · simp only [h, Bool.or_false]
      rfl
theorem mealOf_none {l : List Fc} {ch d : Int} (h : ∀ x ∈ l, cov x ch d = false) : mealOf l ch d = 0 := by
  induction l with
  | nil => rfl
  | cons x l ih =>
    have h1 : l.any (fun y => cov y ch d) = false := by
      rw [List.any_eq_false]; intro y hy; rw [h y (by simp [hy])]; simp
    simp [mealOf, h1, h x (by simp)]
theorem mealOf_bd {l : List Fc} (h : ∀ x ∈ l, okF x = true) (ch d : Int) : 0 ≤ mealOf l ch d ∧ mealOf l ch d ≤ 9 := by
  induction l with
  | nil => simp [mealOf]
  | cons x l ih =>
    have h1 := ih (fun y hy => h y (by simp [hy]))
    have h2 := okF_iff (h x (by simp))
    simp only [mealOf]
    split
    · exact h1
    · split <;> omega
/-- The fact by which it is known. -/
theorem mealOf_last {l : List Fc} {ch d : Int} {k : Nat} (hk : k < l.length) (hc : cov l[k] ch d = true) (h : ∀ i (hi : i < l.length), k < i → cov l[i] ch d = false) : mealOf l ch d = l[k].m := by
  have key : ∀ (r : List Fc) (s : List Fc), (∀ y ∈ r, cov y ch d = false) → mealOf (s ++ r) ch d = mealOf s ch d := by
    intro r
    induction r with
    | nil => intro s _; simp
    | cons y r ih =>
      intro s hr
      rw [show s ++ y :: r = (s ++ [y]) ++ r by simp, ih _ (fun z hz => hr z (by simp [hz])), mealOf_snoc, hr y (by simp)]
      rfl
  have h1 : mealOf l ch d = mealOf (l.take (k + 1)) ch d := by
    have h2 := key (l.drop (k + 1)) (l.take (k + 1)) (fun y hy => by
      obtain ⟨i, hi, rfl⟩ := List.getElem_of_mem hy
      simp only [List.length_drop] at hi
      rw [List.getElem_drop]; exact h _ (by omega) (by omega))
    rw [List.take_append_drop] at h2; exact h2
  rw [h1, List.take_succ_eq_append_getElem hk, mealOf_snoc, if_pos hc]
end Go.Proofs.Ytefojeaoechgoaa
