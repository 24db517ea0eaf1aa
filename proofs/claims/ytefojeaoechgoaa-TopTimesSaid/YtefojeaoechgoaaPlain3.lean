/- The compact facts: no program. -/
import Derived.Test.YtefojeaoechgoaaTimG
namespace Go.Proofs.Ytefojeaoechgoaa

theorem okF_of {x : Fc} (h : 0 ≤ x.a ∧ x.a ≤ 1440000 ∧ 0 ≤ x.c ∧ x.c ≤ 99 ∧ 0 ≤ x.f ∧ x.f < x.t ∧ x.t ≤ 1000 ∧ 0 ≤ x.m ∧ x.m ≤ 9) : okF x = true := by simpa [okF] using h
theorem cov_iff {x : Fc} {ch d : Int} : cov x ch d = true ↔ x.c = ch ∧ x.f ≤ d ∧ d < x.t := by simp [cov]
theorem inS_iff {x : Sp} {d : Int} : inS x d = true ↔ x.f ≤ d ∧ d < x.t := by simp [inS]
def ofSp (ch : Int) (s : Sp) : Fc := ⟨0, ch, s.f, s.t, s.m⟩
/-- The facts of the first k children. -/
def cmpS (l : List Fc) (at_ : Int) (k : Nat) : List Fc := (List.range k).flatMap fun ch : Nat => (ordS l at_ ch).map (ofSp ch)
theorem cmpS_succ (l : List Fc) (at_ : Int) (k : Nat) : cmpS l at_ (k + 1) = cmpS l at_ k ++ (ordS l at_ k).map (ofSp k) := by
  simp [cmpS, List.range_succ]
theorem ordS_length (l : List Fc) (at_ ch : Int) : (ordS l at_ ch).length ≤ 1000 := spanS_length _ _ _
theorem cmpS_length (l : List Fc) (at_ : Int) : ∀ k, (cmpS l at_ k).length ≤ 1000 * k
  | 0 => by simp [cmpS]
  | k + 1 => by
    have h1 := cmpS_length l at_ k
    have h2 := ordS_length l at_ k
    rw [cmpS_succ, List.length_append, List.length_map]; omega
theorem ordS_ok (l : List Fc) (at_ ch : Int) : SpOk (fun d => decide (0 < kn l at_ ch d)) (kn l at_ ch) 1000 (ordS l at_ ch) := spanS_ok _ _ _
theorem kn_bd {l : List Fc} (hok : Ok l) (at_ ch : Int) (d : Nat) : 0 ≤ kn l at_ ch d ∧ kn l at_ ch d ≤ 9 := by
  refine mealOf_bd (fun x hx => ?_) ch d
  obtain ⟨i, hi, rfl⟩ := List.getElem_of_mem hx
  exact (hok.take _).ok hi
/-- What is known by the spans. -/
theorem ordS_in {l : List Fc} (hok : Ok l) (at_ ch : Int) {d : Nat} (hd : d < 1000) : inM (ordS l at_ ch) d = kn l at_ ch d := by
  have h1 := inM_of (ordS_ok l at_ ch) hd
  have h2 := kn_bd hok at_ ch d
  rw [h1]
  split
  · rfl
  · rename_i h; simp at h; omega
theorem cmpS_mem {l : List Fc} {at_ : Int} {k : Nat} {x : Fc} (h : x ∈ cmpS l at_ k) : ∃ ch : Nat, ch < k ∧ ∃ s ∈ ordS l at_ ch, x = ofSp ch s := by
  simp only [cmpS, List.mem_flatMap, List.mem_range, List.mem_map] at h
  obtain ⟨ch, h1, s, h2, rfl⟩ := h
  exact ⟨ch, h1, s, h2, rfl⟩
theorem cmpS_a {l : List Fc} {at_ : Int} {k : Nat} {x : Fc} (h : x ∈ cmpS l at_ k) : x.a = 0 := by
  obtain ⟨ch, _, s, _, rfl⟩ := cmpS_mem h; rfl
theorem cmpS_ok {l : List Fc} (hok : Ok l) (at_ : Int) (hl : (cmpS l at_ 100).length ≤ 60) : Ok (cmpS l at_ 100) := by
  refine ⟨hl, fun i hi _ => ?_, fun i hi _ => ?_⟩
  · obtain ⟨ch, h1, s, h2, e⟩ := cmpS_mem (List.getElem_mem hi)
    rw [e]
    have h3 := (ordS_ok l at_ ch).pos s h2
    obtain ⟨d, h4, h5, h6, h7⟩ := (ordS_ok l at_ ch).own s h2 s.f (inS_iff.2 (by omega))
    have h8 := kn_bd hok at_ ch d
    refine okF_of ?_
    show (0 : Int) ≤ 0 ∧ (0 : Int) ≤ 1440000 ∧ (0 : Int) ≤ ch ∧ (ch : Int) ≤ 99 ∧ 0 ≤ s.f ∧ s.f < s.t ∧ s.t ≤ 1000 ∧ 0 ≤ s.m ∧ s.m ≤ 9
    omega
  · rw [cmpS_a (List.getElem_mem _), cmpS_a (List.getElem_mem _)]; exact Int.le_refl _
theorem unt_all {l : List Fc} {t : Int} (h : ∀ x ∈ l, x.a ≤ t) : unt l t = l := by
  have : cnt l t = l.length := cnt_of (Nat.le_refl _) (fun i hi _ => h _ (List.getElem_mem hi)) (fun h => by omega)
  unfold unt; rw [this, List.take_length]
/-- The meal of a child and a day, by facts of which one alone tells. -/
theorem mealOf_only {l : List Fc} {ch d m : Int} (h1 : ∃ x ∈ l, cov x ch d = true) (h2 : ∀ x ∈ l, cov x ch d = true → x.m = m) : mealOf l ch d = m := by
  induction l with
  | nil => obtain ⟨x, hx, _⟩ := h1; simp at hx
  | cons y l ih =>
    simp only [mealOf]
    by_cases hany : l.any (fun y => cov y ch d) = true
    · rw [if_pos hany]
      obtain ⟨x, hx, hc⟩ := List.any_eq_true.1 hany
      exact ih ⟨x, hx, hc⟩ (fun x hx hc => h2 x (by simp [hx]) hc)
    · rw [if_neg hany]
      obtain ⟨x, hx, hc⟩ := h1
      rcases List.mem_cons.1 hx with rfl | hx
      · rw [if_pos hc]; exact h2 x (by simp) hc
      · exact absurd (List.any_eq_true.2 ⟨x, hx, hc⟩) hany
theorem cmpS_kn {l : List Fc} (hok : Ok l) (at_ : Int) {ch : Nat} (hch : ch < 100) {d : Nat} (hd : d < 1000) : mealOf (cmpS l at_ 100) ch d = kn l at_ ch d := by
  have hk := kn_bd hok at_ ch d
  have key : ∀ x ∈ cmpS l at_ 100, cov x ch d = true → x.m = kn l at_ ch d ∧ 0 < kn l at_ ch d := by
    intro x hx hc
    obtain ⟨c2, h1, s, h2, rfl⟩ := cmpS_mem hx
    obtain ⟨q1, q2, q3⟩ := cov_iff.1 hc
    change (c2 : Int) = ch at q1
    obtain rfl : c2 = ch := by omega
    obtain ⟨e, h4, h5, h6, h7⟩ := (ordS_ok l at_ c2).own s h2 d (inS_iff.2 ⟨q2, q3⟩)
    obtain rfl : d = e := by omega
    exact ⟨h7.symm, by simpa using h6⟩
  by_cases h0 : 0 < kn l at_ ch d
  · obtain ⟨s, hs, hi⟩ := (ordS_ok l at_ ch).has d hd (by simpa using h0)
    refine mealOf_only ⟨ofSp ch s, ?_, ?_⟩ (fun x hx hc => (key x hx hc).1)
    · simp only [cmpS, List.mem_flatMap, List.mem_range, List.mem_map]
      exact ⟨ch, hch, s, hs, rfl⟩
    · exact cov_iff.2 ⟨rfl, inS_iff.1 hi⟩
  · rw [mealOf_none]
    · omega
    · intro x hx
      cases hc : cov x ch d
      · rfl
      · exact absurd (key x hx hc).2 h0
/-- The compact facts have the same spans. -/
theorem cmpS_ord {l : List Fc} (hok : Ok l) (at_ : Int) {ch : Nat} (hch : ch < 100) : ordS (cmpS l at_ 100) 0 ch = ordS l at_ ch := by
  have e : ∀ d, d < 1000 → kn (cmpS l at_ 100) 0 ch d = kn l at_ ch d := by
    intro d hd
    unfold kn
    rw [unt_all (fun x hx => by rw [cmpS_a hx]; exact Int.le_refl _)]
    exact cmpS_kn hok at_ hch hd
  exact spanS_congr 1000 fun d hd => ⟨by simp only [e d hd], e d hd⟩
/-- What is changed. -/
theorem chgS_ok (l : List Fc) (a b ch : Int) : SpOk (fun d => kn l a ch d != kn l b ch d) (kn l b ch) 1000 (chgS l a b ch) := spanS_ok _ _ _
theorem chgS_length (l : List Fc) (a b ch : Int) : (chgS l a b ch).length ≤ 1000 := spanS_length _ _ _
theorem chgS_any (l : List Fc) (a b ch : Int) {d : Nat} (hd : d < 1000) : (chgS l a b ch).any (fun s => inS s d && (s.m == kn l b ch d)) = (kn l a ch d != kn l b ch d) := by
  have ok := chgS_ok l a b ch
  cases h : (kn l a ch d != kn l b ch d)
  · rw [List.any_eq_false]
    intro s hs hc
    simp only [Bool.and_eq_true] at hc
    obtain ⟨e, h1, h2, h3, h4⟩ := ok.own s hs d hc.1
    obtain rfl : d = e := by omega
    rw [h] at h3; cases h3
  · obtain ⟨s, hs, hi⟩ := ok.has d hd h
    rw [List.any_eq_true]
    obtain ⟨e, h1, h2, h3, h4⟩ := ok.own s hs d hi
    obtain rfl : d = e := by omega
    exact ⟨s, hs, by simp [hi, h4]⟩
/-- Known before the facts that are written. -/
theorem kn_before {l : List Fc} {f : Fc} {t : Int} (h : t < f.a) : unt (l ++ [f]) t = unt l t := by
  have key : ∀ l : List Fc, cnt (l ++ [f]) t = cnt l t := by
    intro l
    induction l with
    | nil => simp [cnt]; omega
    | cons x l ih => simp only [List.cons_append, cnt, ih]
  unfold unt
  rw [key, List.take_append_of_le_length (cnt_le l t)]
/-- The facts that are written at a minute, at the last minute. -/
theorem unt_unt {l : List Fc} (hok : Ok l) (t : Int) : unt (unt l t) 1440000 = unt l t := by
  refine unt_all fun x hx => ?_
  obtain ⟨i, hi, rfl⟩ := List.getElem_of_mem hx
  exact (okF_iff ((hok.take _).ok hi)).2.1
end Go.Proofs.Ytefojeaoechgoaa
