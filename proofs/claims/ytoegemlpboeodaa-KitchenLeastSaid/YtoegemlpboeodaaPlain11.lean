/- All orders, and the least time of them: no program. -/
import Derived.Test.YtoegemlpboeodaaPlain8
import Derived.Test.YtoegemlpboeodaaKitL
namespace Go.Proofs.Ytoegemlpboeodaa

/-- An order with a number put in at a place. -/
def insA (o : List Int) (k : Int) (a : Nat) : List Int := o.take a ++ k :: o.drop a
/-- The orders that come from one by a number more, the first m of them. -/
def insTo (o : List Int) (k : Int) (m : Nat) : List (List Int) := (List.range m).map (insA o k)
/-- The orders that come from the first m ones. -/
def nextTo (out : List (List Int)) (k : Int) (m : Nat) : List (List Int) := (out.take m).flatMap fun o => insTo o k (o.length + 1)
def ordS : Nat → List (List Int)
  | 0 => [[]]
  | k + 1 => nextTo (ordS k) k (ordS k).length
theorem insTo_succ (o : List Int) (k : Int) (m : Nat) : insTo o k (m + 1) = insTo o k m ++ [insA o k m] := by simp [insTo, List.range_succ]
theorem nextTo_succ (out : List (List Int)) (k : Int) {m : Nat} (hm : m < out.length) : nextTo out k (m + 1) = nextTo out k m ++ insTo out[m] k (out[m].length + 1) := by
  unfold nextTo
  rw [List.take_succ_eq_append_getElem hm, List.flatMap_append, List.flatMap_cons, List.flatMap_nil, List.append_nil]
theorem insA_perm (o : List Int) (k : Int) (a : Nat) : (insA o k a).Perm (k :: o) := by
  unfold insA
  refine List.perm_middle.trans ?_
  rw [List.take_append_drop]
theorem insA_length (o : List Int) (k : Int) (a : Nat) : (insA o k a).length = o.length + 1 := (insA_perm o k a).length_eq
theorem ordS_perm : ∀ (n : Nat) (o : List Int), o ∈ ordS n ↔ o.Perm (iota n)
  | 0, o => by
    simp only [ordS, List.mem_singleton]
    constructor
    · rintro rfl; exact List.Perm.refl _
    · intro h; exact h.eq_nil
  | n + 1, o => by
    simp only [ordS, nextTo, List.take_length, List.mem_flatMap, insTo, List.mem_map, List.mem_range]
    rw [iota_succ]
    constructor
    · rintro ⟨p, hp, a, _, rfl⟩
      have hpp := (ordS_perm n p).1 hp
      exact (insA_perm p n a).trans (((List.perm_cons _).2 hpp).trans (List.perm_append_singleton _ _).symm)
    · intro h
      have hn : (n : Int) ∈ o := h.mem_iff.2 (by simp)
      obtain ⟨s, t, rfl⟩ := List.append_of_mem hn
      refine ⟨s ++ t, (ordS_perm n _).2 ?_, s.length, by simp; omega, ?_⟩
      · have h1 : ((n : Int) :: (s ++ t)).Perm ((n : Int) :: iota n) := List.perm_middle.symm.trans (h.trans (List.perm_append_singleton _ _))
        exact (List.perm_cons _).1 h1
      · simp [insA]
theorem ordS_length {n : Nat} {o : List Int} (h : o ∈ ordS n) : o.length = n := by
  rw [((ordS_perm n o).1 h).length_eq, iota_length]
theorem ordS_pos (n : Nat) : 0 < (ordS n).length := List.length_pos_of_mem ((ordS_perm n (iota n)).2 (List.Perm.refl _))
theorem sum_const {α : Type} (f : α → List (List Int)) (m : Nat) : ∀ (l : List α), (∀ x ∈ l, (f x).length = m) → (l.flatMap f).length = l.length * m
  | [], _ => by simp
  | x :: l, h => by
    rw [List.flatMap_cons, List.length_append, h x (by simp), sum_const f m l (fun y hy => h y (by simp [hy])), List.length_cons, Nat.succ_mul]; omega
theorem nextTo_length (n : Nat) (m : Nat) (hm : m ≤ (ordS n).length) : (nextTo (ordS n) n m).length = m * (n + 1) := by
  unfold nextTo
  rw [sum_const _ (n + 1) _ (fun o ho => by
    rw [insTo, List.length_map, List.length_range, ordS_length (List.mem_of_mem_take ho)]), List.length_take, Nat.min_eq_left hm]
theorem ordS_succ_length (n : Nat) : (ordS (n + 1)).length = (ordS n).length * (n + 1) := nextTo_length n _ (Nat.le_refl _)
theorem ordS_next (n m : Nat) (h : m = n + 1) : (ordS m).length = (ordS n).length * m := by subst h; exact ordS_succ_length n
theorem ordS_bd {n : Nat} (h : n ≤ 7) : (ordS n).length ≤ 5040 := by
  have h1 : (ordS 1).length = (ordS 0).length * 1 := ordS_next 0 1 (by rfl)
  have h2 : (ordS 2).length = (ordS 1).length * 2 := ordS_next 1 2 (by rfl)
  have h3 : (ordS 3).length = (ordS 2).length * 3 := ordS_next 2 3 (by rfl)
  have h4 : (ordS 4).length = (ordS 3).length * 4 := ordS_next 3 4 (by rfl)
  have h5 : (ordS 5).length = (ordS 4).length * 5 := ordS_next 4 5 (by rfl)
  have h6 : (ordS 6).length = (ordS 5).length * 6 := ordS_next 5 6 (by rfl)
  have h7 : (ordS 7).length = (ordS 6).length * 7 := ordS_next 6 7 (by rfl)
  have h0 : (ordS 0).length = 1 := rfl
  match n, h with
  | 0, _ => omega
  | 1, _ => omega
  | 2, _ => omega
  | 3, _ => omega
  | 4, _ => omega
  | 5, _ => omega
  | 6, _ => omega
  | 7, _ => omega
  | n + 8, h => omega
/-- The least time of the first m orders. -/
def minO (l : List Bt) : List (List Int) → Int
  | [] => 0
  | o :: os => os.foldl (fun t o => min t (timeS (bts l o))) (timeS (bts l o))
def minTo (l : List Bt) (m : Nat) : Int := minO l ((ordS l.length).take m)
theorem minO_one (l : List Bt) : ∀ (os : List (List Int)) (h : 0 < os.length), minO l (os.take 1) = timeS (bts l os[0])
  | [], h => by simp at h
  | o :: os, _ => by simp [minO]
theorem minO_succ (l : List Bt) : ∀ (os : List (List Int)) (m : Nat) (_ : 1 ≤ m) (hm : m < os.length), minO l (os.take (m + 1)) = min (minO l (os.take m)) (timeS (bts l os[m]))
  | [], _, _, hm => by simp at hm
  | o :: os, m + 1, _, hm => by
    simp only [List.length_cons, Nat.add_lt_add_iff_right] at hm
    simp only [List.take_succ_cons, minO, List.getElem_cons_succ]
    rw [List.take_succ_eq_append_getElem hm, List.foldl_append]; rfl
theorem minTo_one (l : List Bt) : minTo l 1 = timeS (bts l ((ordS l.length)[0]'(ordS_pos _))) := minO_one l _ _
theorem minTo_succ (l : List Bt) {m : Nat} (h1 : 1 ≤ m) (hm : m < (ordS l.length).length) : minTo l (m + 1) = min (minTo l m) (timeS (bts l (ordS l.length)[m])) := minO_succ l _ m h1 hm
theorem min_fold (l : List Bt) : ∀ (os : List (List Int)) (t : Int), os.foldl (fun t o => min t (timeS (bts l o))) t ≤ t ∧ (∀ o ∈ os, os.foldl (fun t o => min t (timeS (bts l o))) t ≤ timeS (bts l o)) ∧
    (os.foldl (fun t o => min t (timeS (bts l o))) t = t ∨ ∃ o ∈ os, os.foldl (fun t o => min t (timeS (bts l o))) t = timeS (bts l o))
  | [], t => ⟨Int.le_refl _, by simp, .inl rfl⟩
  | o :: os, t => by
    obtain ⟨h1, h2, h3⟩ := min_fold l os (min t (timeS (bts l o)))
    rw [List.foldl_cons]
    refine ⟨by omega, fun p hp => ?_, ?_⟩
    · rcases List.mem_cons.1 hp with rfl | hp
      · omega
      · exact h2 p hp
    · rcases h3 with h3 | ⟨p, hp, h3⟩
      · rw [h3]
        rcases Int.min_def t (timeS (bts l o)) with _
        by_cases ht : t ≤ timeS (bts l o)
        · exact .inl (by omega)
        · exact .inr ⟨o, by simp, by omega⟩
      · exact .inr ⟨p, by simp [hp], h3⟩
theorem minTo_all {l : List Bt} (hv : valB l = 0) : minTo l (ordS l.length).length = leastR l := by
  rw [leastR, if_pos hv]
  unfold minTo
  rw [List.take_length]
  have hp := ordS_pos l.length
  have hm := ordS_perm l.length
  generalize ordS l.length = os at hp hm ⊢
  cases os with
  | nil => simp at hp
  | cons o os =>
    obtain ⟨h1, h2, h3⟩ := min_fold l os (timeS (bts l o))
    symm
    refine best_eq hv ?_ fun p hpp => ?_
    · rcases h3 with h3 | ⟨p, hp, h3⟩
      · exact ⟨o, (hm o).1 (by simp), h3.symm⟩
      · exact ⟨p, (hm p).1 (by simp [hp]), h3.symm⟩
    · rcases List.mem_cons.1 ((hm p).2 hpp) with rfl | hp
      · exact h1
      · exact h2 p hp
end Go.Proofs.Ytoegemlpboeodaa
