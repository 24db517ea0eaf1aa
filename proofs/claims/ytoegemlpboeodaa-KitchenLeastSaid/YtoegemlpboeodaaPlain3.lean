/- The longest path through the two lines is the time: no program. -/
import Derived.Test.YtoegemlpboeodaaPlain2
namespace Go.Proofs.Ytoegemlpboeodaa

/-- The Cook of the batches up to place k, and the Pack of those from it on; the first batch has place i. -/
def sumF (k : Nat) : Nat → List Bt → Int
  | _, [] => 0
  | i, x :: xs => (if i ≤ k then x.1 else 0) + (if k ≤ i then x.2 else 0) + sumF k (i + 1) xs
theorem sumF_append (k : Nat) : ∀ (b c : List Bt) (i : Nat), sumF k i (b ++ c) = sumF k i b + sumF k (i + b.length) c
  | [], c, i => by simp [sumF]
  | x :: b, c, i => by
    simp only [List.cons_append, sumF, sumF_append k b c (i + 1), List.length_cons]
    rw [show i + 1 + b.length = i + (b.length + 1) by omega]; omega
def sumK (b : List Bt) (k : Nat) : Int := sumF k 0 b
def smAt (b : List Bt) (k i : Nat) : Int := sumF k 0 (b.take i)
theorem smAt_zero (b : List Bt) (k : Nat) : smAt b k 0 = 0 := by simp [smAt, sumF]
theorem smAt_succ (b : List Bt) (k : Nat) {i : Nat} (hi : i < b.length) : smAt b k (i + 1) = smAt b k i + (if i ≤ k then b[i].1 else 0) + (if k ≤ i then b[i].2 else 0) := by
  unfold smAt
  rw [List.take_succ_eq_append_getElem hi, sumF_append]
  have : (b.take i).length = i := by simp; omega
  simp only [this, Nat.zero_add, sumF]; omega
theorem smAt_all (b : List Bt) (k : Nat) : smAt b k b.length = sumK b k := by simp [smAt, sumK]

def OkL (b : List Bt) : Prop := ∀ x ∈ b, 0 ≤ x.1 ∧ x.1 ≤ 1000 ∧ 0 ≤ x.2 ∧ x.2 ≤ 1000
theorem OkL.get {b : List Bt} (h : OkL b) {i : Nat} (hi : i < b.length) : 0 ≤ b[i].1 ∧ b[i].1 ≤ 1000 ∧ 0 ≤ b[i].2 ∧ b[i].2 ≤ 1000 := h _ (List.getElem_mem hi)
theorem bts_ok {l : List Bt} (hv : valB l = 0) (o : List Int) : OkL (bts l o) := by
  intro x hx
  simp only [bts, List.mem_map] at hx
  obtain ⟨i, _, rfl⟩ := hx
  exact bt_bd hv i
theorem smAt_bd {b : List Bt} (h : OkL b) (k : Nat) {i : Nat} (hi : i ≤ b.length) : 0 ≤ smAt b k i ∧ smAt b k i ≤ 2000 * (i : Int) := by
  induction i with
  | zero => simp [smAt_zero]
  | succ i ih =>
    have := ih (by omega)
    have hg := h.get (i := i) (by omega)
    rw [smAt_succ b k (by omega)]
    split <;> split <;> omega
theorem sumK_bd {b : List Bt} (h : OkL b) (k : Nat) : 0 ≤ sumK b k ∧ sumK b k ≤ 2000 * (b.length : Int) := by
  rw [← smAt_all]; exact smAt_bd h k (Nat.le_refl _)

def cookT : List Bt → Int
  | [] => 0
  | x :: xs => x.1 + cookT xs
def packT : List Bt → Int
  | [] => 0
  | x :: xs => x.2 + packT xs
theorem cookT_append (b c : List Bt) : cookT (b ++ c) = cookT b + cookT c := by
  induction b with
  | nil => simp [cookT]
  | cons x b ih => simp [cookT, ih]; omega
theorem packT_append (b c : List Bt) : packT (b ++ c) = packT b + packT c := by
  induction b with
  | nil => simp [packT]
  | cons x b ih => simp [packT, ih]; omega
theorem packT_perm {b c : List Bt} (h : b.Perm c) : packT b = packT c := by
  induction h with
  | nil => rfl
  | cons x _ ih => simp [packT, ih]
  | swap x y l => simp [packT]; omega
  | trans _ _ h1 h2 => exact h1.trans h2
theorem cookT_perm {b c : List Bt} (h : b.Perm c) : cookT b = cookT c := by
  induction h with
  | nil => rfl
  | cons x _ ih => simp [cookT, ih]
  | swap x y l => simp [cookT]; omega
  | trans _ _ h1 h2 => exact h1.trans h2

theorem fold_cook (b : List Bt) (s : Int × Int) : (b.foldl stp s).1 = s.1 + cookT b := by
  induction b generalizing s with
  | nil => simp [cookT]
  | cons x b ih => rw [List.foldl_cons, ih]; simp [stp, cookT]; omega
theorem timeS_snoc (b : List Bt) (x : Bt) : timeS (b ++ [x]) = max (cookT b + x.1) (timeS b) + x.2 := by
  unfold timeS
  rw [List.foldl_append]
  simp only [List.foldl_cons, List.foldl_nil, stp, fold_cook]
  simp
/-- All places lie ahead of k. -/
theorem sumF_before (k : Nat) : ∀ (b : List Bt) (i : Nat), i + b.length ≤ k → sumF k i b = cookT b
  | [], _, _ => rfl
  | x :: b, i, h => by
    simp only [List.length_cons] at h
    simp only [sumF, cookT, sumF_before k b (i + 1) (by omega)]
    rw [if_pos (by omega), if_neg (by omega)]; omega
theorem sumK_snoc (b : List Bt) (x : Bt) {k : Nat} (hk : k < b.length) : sumK (b ++ [x]) k = sumK b k + x.2 := by
  unfold sumK
  rw [sumF_append]; simp only [sumF, Nat.zero_add]
  rw [if_neg (by omega), if_pos (by omega)]; omega
theorem sumK_last (b : List Bt) (x : Bt) : sumK (b ++ [x]) b.length = cookT b + x.1 + x.2 := by
  unfold sumK
  rw [sumF_append, sumF_before _ _ _ (by omega)]; simp [sumF]; omega

theorem snoc_ind {α : Type} {p : List α → Prop} (h0 : p []) (h1 : ∀ b x, p b → p (b ++ [x])) (b : List α) : p b := by
  have : ∀ n (b : List α), b.length = n → p b := by
    intro n
    induction n with
    | zero => intro b hb; rw [List.eq_nil_of_length_eq_zero hb]; exact h0
    | succ n ih =>
      intro b hb
      have hne : b ≠ [] := fun e => by rw [e] at hb; cases hb
      rw [← List.dropLast_concat_getLast hne]
      exact h1 _ _ (ih _ (by simp [hb]))
  exact this _ b rfl

/-- No path is longer than the time; one is as long. -/
theorem time_paths (b : List Bt) : OkL b → (∀ k, k < b.length → sumK b k ≤ timeS b) ∧ (0 < b.length → ∃ k, k < b.length ∧ sumK b k = timeS b) ∧ 0 ≤ timeS b ∧ (b.length = 0 → timeS b = 0) := by
  induction b using snoc_ind with
  | h0 => intro _; simp [timeS]
  | h1 b x ih =>
    intro h
    have hb : OkL b := fun y hy => h y (by simp [hy])
    have hx := h x (by simp)
    obtain ⟨i1, i2, i3, i4⟩ := ih hb
    rw [timeS_snoc]
    refine ⟨fun k hk => ?_, fun _ => ?_, by omega, fun h => by simp at h⟩
    · simp only [List.length_append, List.length_cons, List.length_nil, Nat.zero_add] at hk
      by_cases hkb : k < b.length
      · rw [sumK_snoc b x hkb]; have := i1 k hkb; omega
      · obtain rfl : k = b.length := by omega
        rw [sumK_last]; omega
    · by_cases hle : timeS b ≤ cookT b + x.1
      · exact ⟨b.length, by simp, by rw [sumK_last]; omega⟩
      · have hlen : 0 < b.length := by
          rcases Nat.eq_zero_or_pos b.length with h0 | h0
          · have e := i4 h0
            have : b = [] := List.eq_nil_of_length_eq_zero h0
            subst this
            simp [cookT] at hle; omega
          · exact h0
        obtain ⟨k, hk, e⟩ := i2 hlen
        exact ⟨k, by simp; omega, by rw [sumK_snoc b x hk, e]; omega⟩

/-- The greatest of the first k sums, and the first place that has it, as the reference finds them. -/
def lonAt (b : List Bt) : Nat → Int × Int
  | 0 => (0, 0)
  | k + 1 => if k = 0 ∨ (lonAt b k).1 < sumK b k then (sumK b k, (k : Int)) else lonAt b k
theorem lon_spec (b : List Bt) (k : Nat) : ∃ a : Nat, (lonAt b (k + 1)).2 = (a : Int) ∧ a ≤ k ∧ sumK b a = (lonAt b (k + 1)).1 ∧ (∀ j, j ≤ k → sumK b j ≤ (lonAt b (k + 1)).1) ∧ ∀ j, j < a → sumK b j < (lonAt b (k + 1)).1 := by
  induction k with
  | zero =>
    refine ⟨0, by simp [lonAt], Nat.le_refl _, by simp [lonAt], fun j hj => ?_, fun j hj => by omega⟩
    obtain rfl : j = 0 := by omega
    simp [lonAt]
  | succ k ih =>
    obtain ⟨a, h1, h2, h3, h4, h5⟩ := ih
    rw [lonAt]
    by_cases hc : (lonAt b (k + 1)).1 < sumK b (k + 1)
    · rw [if_pos (.inr hc)]
      refine ⟨k + 1, rfl, Nat.le_refl _, rfl, fun j hj => ?_, fun j hj => ?_⟩
      · rcases Nat.lt_or_ge j (k + 1) with h | h
        · have := h4 j (by omega); dsimp only; omega
        · obtain rfl : j = k + 1 := by omega
          exact Int.le_refl _
      · have := h4 j (by omega); dsimp only; omega
    · rw [if_neg (by omega)]
      refine ⟨a, h1, by omega, h3, fun j hj => ?_, h5⟩
      rcases Nat.lt_or_ge j (k + 1) with h | h
      · exact h4 j (by omega)
      · obtain rfl : j = k + 1 := by omega
        omega
theorem lon_time {b : List Bt} (h : OkL b) : (lonAt b b.length).1 = timeS b := by
  obtain ⟨t1, t2, _, t4⟩ := time_paths b h
  cases hn : b.length with
  | zero => rw [t4 hn]; rfl
  | succ n =>
    obtain ⟨a, h1, h2, h3, h4, h5⟩ := lon_spec b n
    obtain ⟨k, hk, e⟩ := t2 (by omega)
    have g1 := h4 k (by omega)
    have g2 := t1 a (by omega)
    omega
/-- The first place whose sum is the time. -/
def critS (b : List Bt) : Int := (lonAt b b.length).2
theorem crit_first {b : List Bt} (h : OkL b) {k : Nat} (hk : k < b.length) (he : sumK b k = timeS b) (hf : ∀ j, j < k → sumK b j ≠ timeS b) : critS b = (k : Int) := by
  have ht := lon_time h
  unfold critS
  cases hn : b.length with
  | zero => omega
  | succ n =>
    rw [hn] at ht
    obtain ⟨a, h1, h2, h3, h4, h5⟩ := lon_spec b n
    rw [h1]
    rcases Nat.lt_trichotomy a k with h | h | h
    · exact absurd (h3.trans ht) (hf a h)
    · rw [h]
    · have := h5 k h; omega
theorem crit_at {b : List Bt} (h : OkL b) (h0 : 0 < b.length) : ∃ k : Nat, critS b = (k : Int) ∧ k < b.length ∧ sumK b k = timeS b := by
  have ht := lon_time h
  unfold critS
  cases hn : b.length with
  | zero => omega
  | succ n =>
    rw [hn] at ht
    obtain ⟨a, h1, h2, h3, h4, h5⟩ := lon_spec b n
    exact ⟨a, h1, by omega, h3.trans ht⟩
/-- The sum with which the program comes to place k. -/
theorem sumK_step {b : List Bt} {k : Nat} (hk : k < b.length) : sumK b k = cookT (b.take k) + b[k].1 + b[k].2 + packT (b.drop (k + 1)) := by
  have e : b = b.take k ++ b[k] :: b.drop (k + 1) := by rw [← List.drop_eq_getElem_cons hk, List.take_append_drop]
  have hl : (b.take k).length = k := by simp; omega
  have e2 : sumK b k = sumF k 0 (b.take k ++ b[k] :: b.drop (k + 1)) := by rw [← e]; rfl
  rw [e2, sumF_append, sumF_before _ _ _ (by omega), hl]
  simp only [sumF, Nat.zero_add]
  rw [if_pos (Nat.le_refl _), if_pos (Nat.le_refl _)]
  have key : ∀ (c : List Bt) (i : Nat), k < i → sumF k i c = packT c := by
    intro c
    induction c with
    | nil => intro i _; rfl
    | cons x c ih => intro i hi; simp only [sumF, packT, ih (i + 1) (by omega)]; rw [if_neg (by omega), if_pos (by omega)]; omega
  rw [key _ _ (Nat.lt_succ_self _)]; omega
end Go.Proofs.Ytoegemlpboeodaa
