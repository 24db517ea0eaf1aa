/- The bound of all times: no program. -/
import Derived.Test.YtoegemlpboeodaaPlain3
namespace Go.Proofs.Ytoegemlpboeodaa

/-- The smallest Cook, the smallest Pack and the greatest sum of the first k batches. -/
def mnC (l : List Bt) (k : Nat) : Int := (l.take k).foldl (fun m b => min m b.1) (bt l 0).1
def mnP (l : List Bt) (k : Nat) : Int := (l.take k).foldl (fun m b => min m b.2) (bt l 0).2
def mxB (l : List Bt) (k : Nat) : Int := (l.take k).foldl (fun m b => max m (b.1 + b.2)) 0
theorem fold_take {α β : Type} (f : α → β → α) (a : α) (l : List β) {k : Nat} (hk : k < l.length) : (l.take (k + 1)).foldl f a = f ((l.take k).foldl f a) l[k] := by
  rw [List.take_succ_eq_append_getElem hk, List.foldl_append]; rfl
theorem mnC_succ {l : List Bt} {k : Nat} (hk : k < l.length) : mnC l (k + 1) = min (mnC l k) l[k].1 := fold_take _ _ _ hk
theorem mnP_succ {l : List Bt} {k : Nat} (hk : k < l.length) : mnP l (k + 1) = min (mnP l k) l[k].2 := fold_take _ _ _ hk
theorem mxB_succ {l : List Bt} {k : Nat} (hk : k < l.length) : mxB l (k + 1) = max (mxB l k) (l[k].1 + l[k].2) := fold_take _ _ _ hk
theorem bt_zero {l : List Bt} (h : 0 < l.length) : bt l 0 = l[0] := by rw [bt_get (by omega) (by omega)]; rfl
theorem mn_bd {l : List Bt} (h : OkL l) (h0 : 0 < l.length) {k : Nat} (hk : k ≤ l.length) : (0 ≤ mnC l k ∧ mnC l k ≤ 1000) ∧ (0 ≤ mnP l k ∧ mnP l k ≤ 1000) ∧ (0 ≤ mxB l k ∧ mxB l k ≤ 2000) := by
  induction k with
  | zero =>
    have := h.get h0
    simp only [mnC, mnP, mxB, List.take_zero, List.foldl_nil, bt_zero h0]; omega
  | succ k ih =>
    have := ih (by omega)
    have := h.get (i := k) (by omega)
    rw [mnC_succ (by omega), mnP_succ (by omega), mxB_succ (by omega)]; omega
theorem mn_le {l : List Bt} {k j : Nat} (hk : k ≤ l.length) (hj : j < k) : mnC l k ≤ l[j].1 ∧ mnP l k ≤ l[j].2 := by
  induction k with
  | zero => omega
  | succ k ih =>
    rw [mnC_succ (by omega), mnP_succ (by omega)]
    rcases Nat.lt_succ_iff_lt_or_eq.1 hj with h | rfl
    · have := ih (by omega) h; omega
    · omega
theorem mx_at {l : List Bt} {k : Nat} (hk : k ≤ l.length) : mxB l k = 0 ∨ ∃ j, ∃ h : j < l.length, mxB l k = l[j].1 + l[j].2 := by
  induction k with
  | zero => exact .inl rfl
  | succ k ih =>
    rw [mxB_succ (by omega)]
    rcases Int.le_total (mxB l k) (l[k].1 + l[k].2) with h | h
    · exact .inr ⟨k, by omega, by omega⟩
    · rw [Int.max_eq_left h]; exact ih (by omega)
/-- What Bound returns of right batches. -/
def bndS (l : List Bt) : Int := if l.length = 0 then 0 else max (max (cookT l + mnP l l.length) (mnC l l.length + packT l)) (mxB l l.length)
def bndR (l : List Bt) : Int := if valB l = 0 then bndS l else 0

theorem sumF_nonneg {b : List Bt} (h : OkL b) (k i : Nat) : 0 ≤ sumF k i b := by
  induction b generalizing i with
  | nil => exact Int.le_refl _
  | cons x b ih =>
    have h1 := ih (fun y hy => h y (by simp [hy])) (i + 1)
    have h2 := h x (by simp)
    simp only [sumF]; split <;> split <;> omega
theorem sumK_first (x : Bt) (b : List Bt) : sumK (x :: b) 0 = x.1 + x.2 + packT b := by
  have := sumK_step (b := x :: b) (k := 0) (by simp)
  simpa [cookT] using this
/-- No order is below the bound. -/
theorem bnd_le {l b : List Bt} (hp : b.Perm l) (h : OkL l) : bndS l ≤ timeS b := by
  have hb : OkL b := fun x hx => h x (hp.mem_iff.1 hx)
  obtain ⟨t1, t2, t3, t4⟩ := time_paths b hb
  unfold bndS
  split
  · exact t3
  · have hl : b.length = l.length := hp.length_eq
    have hlb : 0 < b.length := by omega
    have c1 : cookT l + mnP l l.length ≤ timeS b := by
      have hlast := t1 (b.length - 1) (by omega)
      have e := sumK_step (b := b) (k := b.length - 1) (by omega)
      have hm : b[b.length - 1] ∈ l := hp.mem_iff.1 (List.getElem_mem _)
      obtain ⟨j, hj, e2⟩ := List.mem_iff_getElem.1 hm
      have := (mn_le (Nat.le_refl _) hj).2
      rw [e2] at this
      have e3 := cookT_perm hp
      have e4 : cookT b = cookT (b.take (b.length - 1)) + b[b.length - 1].1 := by
        have : b = b.take (b.length - 1) ++ [b[b.length - 1]] := by
          rw [← List.take_succ_eq_append_getElem (by omega), List.take_of_length_le (by omega)]
        conv => lhs; rw [this]
        rw [cookT_append]; simp [cookT]
      have e5 : b.drop (b.length - 1 + 1) = [] := List.drop_of_length_le (by omega)
      rw [e5] at e; simp [packT] at e
      omega
    have c2 : mnC l l.length + packT l ≤ timeS b := by
      have hfirst := t1 0 hlb
      have e := sumK_step (b := b) (k := 0) hlb
      have hm : b[0] ∈ l := hp.mem_iff.1 (List.getElem_mem _)
      obtain ⟨j, hj, e2⟩ := List.mem_iff_getElem.1 hm
      have := (mn_le (Nat.le_refl _) hj).1
      rw [e2] at this
      have e3 := packT_perm hp
      have e4 : packT b = b[0].2 + packT (b.drop (0 + 1)) := by
        have : b = b[0] :: b.drop (0 + 1) := by rw [← List.drop_eq_getElem_cons hlb, List.drop_zero]
        conv => lhs; rw [this]
        rfl
      simp [cookT] at e
      simp at e4
      omega
    have c3 : mxB l l.length ≤ timeS b := by
      rcases mx_at (l := l) (Nat.le_refl _) with e | ⟨j, hj, e⟩
      · omega
      · have hm : l[j] ∈ b := hp.mem_iff.2 (List.getElem_mem _)
        obtain ⟨i, hi, e2⟩ := List.mem_iff_getElem.1 hm
        have g := t1 i hi
        have s := sumK_step (b := b) (k := i) hi
        have p1 : 0 ≤ cookT (b.take i) := by
          have : ∀ c : List Bt, OkL c → 0 ≤ cookT c := fun c hc => by
            induction c with
            | nil => exact Int.le_refl _
            | cons x c ih => have := ih fun y hy => hc y (by simp [hy]); have := hc x (by simp); simp only [cookT]; omega
          exact this _ fun x hx => hb x (List.mem_of_mem_take hx)
        have p2 : 0 ≤ packT (b.drop (i + 1)) := by
          have : ∀ c : List Bt, OkL c → 0 ≤ packT c := fun c hc => by
            induction c with
            | nil => exact Int.le_refl _
            | cons x c ih => have := ih fun y hy => hc y (by simp [hy]); have := hc x (by simp); simp only [packT]; omega
          exact this _ fun x hx => hb x (List.mem_of_mem_drop hx)
        rw [e2] at s
        omega
    omega
end Go.Proofs.Ytoegemlpboeodaa
