/- Which batches are late: no program. -/
import Derived.Test.YtoegemlpboeodaaPlain4
namespace Go.Proofs.Ytoegemlpboeodaa

/-- Is the batch at place i of the order packed after its due? -/
def isLate (l : List Bt) (o d : List Int) (i : Nat) : Bool := decide (d[(o[i]?.getD 0).toNat]?.getD 0 < (stp (stAt l o i) (bt l (o[i]?.getD 0))).2)
/-- The late ones of the first k, in the order. -/
def lateP (l : List Bt) (o d : List Int) (k : Nat) : List Int := ((List.range k).filter (isLate l o d)).map fun i => o[i]?.getD 0
theorem lateP_succ (l : List Bt) (o d : List Int) {k : Nat} (hk : k < o.length) : lateP l o d (k + 1) = if isLate l o d k then lateP l o d k ++ [o[k]] else lateP l o d k := by
  unfold lateP
  rw [List.range_succ, List.filter_append, List.map_append]
  cases h : isLate l o d k <;> simp [h, hk]
theorem lateP_length (l : List Bt) (o d : List Int) (k : Nat) : (lateP l o d k).length ≤ k := by
  unfold lateP; rw [List.length_map]
  exact Nat.le_trans (List.length_filter_le _ _) (by simp)
/-- As the reference collects them: by number, then by place. -/
def lateN (l : List Bt) (o d : List Int) (n j : Nat) : List Int := ((List.range j).filter fun i => decide (o[i]?.getD 0 = (n : Int)) && isLate l o d i).map fun _ => (n : Int)
def lateQ (l : List Bt) (o d : List Int) (k : Nat) : List Int := (List.range k).flatMap fun n => lateN l o d n o.length
theorem lateN_succ (l : List Bt) (o d : List Int) (n : Nat) {j : Nat} (hj : j < o.length) : lateN l o d n (j + 1) = if o[j] = (n : Int) ∧ isLate l o d j = true then lateN l o d n j ++ [(n : Int)] else lateN l o d n j := by
  unfold lateN
  rw [List.range_succ, List.filter_append, List.map_append]
  have e : o[j]?.getD 0 = o[j] := by simp [hj]
  by_cases h : o[j] = (n : Int) ∧ isLate l o d j = true
  · rw [if_pos h]; simp [e, h.1, h.2]
  · rw [if_neg h]
    have : (decide (o[j]?.getD 0 = (n : Int)) && isLate l o d j) = false := by
      rw [e, Bool.and_eq_false_iff, decide_eq_false_iff_not]
      rcases Classical.em (o[j] = (n : Int)) with h1 | h1
      · exact .inr (by simpa using fun h2 => h ⟨h1, h2⟩)
      · exact .inl h1
    simp [this]
theorem lateQ_succ (l : List Bt) (o d : List Int) (k : Nat) : lateQ l o d (k + 1) = lateQ l o d k ++ lateN l o d k o.length := by
  simp [lateQ, List.range_succ]
theorem lateN_length (l : List Bt) (o d : List Int) (n j : Nat) : (lateN l o d n j).length ≤ j := by
  unfold lateN; rw [List.length_map]
  exact Nat.le_trans (List.length_filter_le _ _) (by simp)
theorem lateQ_length (l : List Bt) (o d : List Int) (k : Nat) : (lateQ l o d k).length ≤ k * o.length := by
  induction k with
  | zero => simp [lateQ]
  | succ k ih =>
    rw [lateQ_succ, List.length_append, Nat.succ_mul]
    have := lateN_length l o d k o.length
    omega

theorem sum_ite {L : List Nat} (hn : L.Nodup) (v : Nat) (c : Nat) : (L.map fun m => if m = v then c else 0).sum = if v ∈ L then c else 0 := by
  induction L with
  | nil => simp
  | cons x L ih =>
    have hx := List.nodup_cons.1 hn
    rw [List.map_cons, List.sum_cons, ih hx.2]
    by_cases h : x = v
    · subst h; simp [hx.1]
    · have h' : ¬ v = x := fun e => h e.symm
      simp [h, h']
theorem lateN_count (l : List Bt) (o d : List Int) (n : Nat) (v : Int) : (lateN l o d n o.length).count v = if (n : Int) = v then (lateP l o d o.length).count v else 0 := by
  unfold lateN lateP
  rw [List.count_eq_countP, List.count_eq_countP, List.countP_map, List.countP_map, List.countP_filter, List.countP_filter]
  split
  · rename_i h
    subst h
    apply List.countP_congr
    intro i _
    simp
  · rename_i h
    rw [List.countP_eq_zero]
    intro i _
    simp [h]
theorem lateQ_perm {l : List Bt} {o d : List Int} (hp : o.Perm (iota l.length)) : (lateQ l o d l.length).Perm (lateP l o d o.length) := by
  rw [List.perm_iff_count]
  intro v
  unfold lateQ
  rw [List.count_flatMap]
  by_cases hv : v ∈ lateP l o d o.length
  · have hm : v ∈ o := by
      simp only [lateP, List.mem_map, List.mem_filter, List.mem_range] at hv
      obtain ⟨i, ⟨hi, _⟩, rfl⟩ := hv
      simp [hi]
    obtain ⟨v0, v1⟩ := mem_iota.1 (hp.mem_iff.1 hm)
    obtain ⟨u, rfl⟩ := Int.eq_ofNat_of_zero_le v0
    have e : ((fun x => List.count (u : Int) x) ∘ fun n => lateN l o d n o.length) = fun m => if m = u then (lateP l o d o.length).count (u : Int) else 0 := by
      funext m
      simp only [Function.comp]
      rw [lateN_count]
      by_cases h : m = u
      · subst h; simp
      · rw [if_neg (by omega), if_neg h]
    have e2 := sum_ite (List.nodup_range (n := l.length)) u ((lateP l o d o.length).count (u : Int))
    rw [if_pos (List.mem_range.2 (by omega))] at e2
    rw [← e2, ← e]
  · rw [List.count_eq_zero.2 hv]
    have : ∀ m ∈ List.range l.length, ((fun x => List.count v x) ∘ fun n => lateN l o d n o.length) m = 0 := by
      intro m _
      simp only [Function.comp]
      rw [lateN_count, List.count_eq_zero.2 hv]; simp
    have e0 : ∀ L : List Nat, (∀ m ∈ L, ((fun x => List.count v x) ∘ fun n => lateN l o d n o.length) m = 0) → (L.map ((fun x => List.count v x) ∘ fun n => lateN l o d n o.length)).sum = 0 := by
      intro L
      induction L with
      | nil => intro _; rfl
      | cons x L ih => intro h; rw [List.map_cons, List.sum_cons, h x (by simp), ih fun m hm => h m (by simp [hm])]
    exact e0 _ this
theorem lateQ_sorted (l : List Bt) (o d : List Int) (k : Nat) : (lateQ l o d k).Pairwise (· ≤ ·) := by
  unfold lateQ
  rw [List.pairwise_flatMap]
  refine ⟨fun n _ => ?_, ?_⟩
  · unfold lateN
    rw [List.pairwise_map]
    exact List.pairwise_of_forall fun _ _ => Int.le_refl _
  · refine (List.pairwise_lt_range (n := k)).imp fun {a b} hab x hx y hy => ?_
    simp only [lateN, List.mem_map] at hx hy
    obtain ⟨_, _, rfl⟩ := hx
    obtain ⟨_, _, rfl⟩ := hy
    omega
/-- What Late returns. -/
def lateE (l : List Bt) (o d : List Int) : Int := if exB l o = 0 then (if d.length = l.length then 0 else 1) else exB l o
end Go.Proofs.Ytoegemlpboeodaa
