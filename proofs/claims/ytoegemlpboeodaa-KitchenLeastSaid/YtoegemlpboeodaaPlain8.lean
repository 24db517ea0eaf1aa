/- One batch more: no program. -/
import Derived.Test.YtoegemlpboeodaaPlain7
namespace Go.Proofs.Ytoegemlpboeodaa

theorem iota_succ (n : Nat) : iota (n + 1) = iota n ++ [(n : Int)] := by simp [iota, List.range_succ]
theorem bt_old {l : List Bt} (x : Bt) {i : Int} (h : i ∈ iota l.length) : bt (l ++ [x]) i = bt l i := by
  obtain ⟨h0, h1⟩ := mem_iota.1 h
  unfold bt
  rw [List.getElem?_append_left (by omega)]
theorem bt_new (l : List Bt) (x : Bt) : bt (l ++ [x]) (l.length : Int) = x := by simp [bt]
theorem bts_old {l : List Bt} (x : Bt) {o : List Int} (h : ∀ i ∈ o, i ∈ iota l.length) : bts (l ++ [x]) o = bts l o := by
  unfold bts
  exact List.map_congr_left fun i hi => bt_old x (h i hi)
theorem fold_12 (b : List Bt) (h : OkL b) (s : Int × Int) (hs : s.1 ≤ s.2) : (b.foldl stp s).1 ≤ (b.foldl stp s).2 := by
  induction b generalizing s with
  | nil => exact hs
  | cons x b ih =>
    have hx := h x (by simp)
    refine ih (fun y hy => h y (by simp [hy])) (stp s x) ?_
    simp only [stp]; omega
theorem more_least {l : List Bt} {x : Bt} (hv : valB l = 0) (hv' : valB (l ++ [x]) = 0) : (bestS l).1 ≤ (bestS (l ++ [x])).1 ∧ (bestS (l ++ [x])).1 ≤ (bestS l).1 + x.1 + x.2 := by
  obtain ⟨p1, t1, _, m1⟩ := best_spec hv
  obtain ⟨p2, t2, _, m2⟩ := best_spec hv'
  have hx := (valB_zero hv').2 x (by simp)
  have hl : (l ++ [x]).length = l.length + 1 := by simp
  constructor
  · generalize (bestS (l ++ [x])).2 = o at p2 t2
    have hn : (l.length : Int) ∈ o := p2.mem_iff.2 (mem_iota.2 ⟨by omega, by rw [hl]; omega⟩)
    obtain ⟨P, Q, rfl⟩ := List.append_of_mem hn
    have hpp : (P ++ Q).Perm (iota l.length) := by
      have h1 : (P ++ (l.length : Int) :: Q).Perm ((l.length : Int) :: (P ++ Q)) := List.perm_middle
      rw [hl, iota_succ] at p2
      have h2 : (iota l.length ++ [(l.length : Int)]).Perm ((l.length : Int) :: iota l.length) := by simp
      exact (List.perm_cons _).1 (h1.symm.trans (p2.trans h2))
    have := m1 _ hpp
    refine Int.le_trans this ?_
    rw [← t2, bts_append, bts_append]
    have e : bts (l ++ [x]) ((l.length : Int) :: Q) = x :: bts (l ++ [x]) Q := by simp [bts, bt_new]
    rw [e, bts_old x (fun i hi => hpp.mem_iff.1 (by simp [hi])), bts_old x (fun i hi => hpp.mem_iff.1 (by simp [hi]))]
    unfold timeS
    rw [List.foldl_append, List.foldl_append, List.foldl_cons]
    refine (leS.fold ?_ _).2
    constructor <;> simp only [stp] <;> omega
  · generalize (bestS l).2 = o at p1 t1
    have hpp : (o ++ [(l.length : Int)]).Perm (iota (l ++ [x]).length) := by
      rw [hl, iota_succ]; exact p1.append_right _
    have := m2 _ hpp
    refine Int.le_trans this ?_
    rw [bts_append, bts_old x (fun i hi => p1.mem_iff.1 hi), show bts (l ++ [x]) [(l.length : Int)] = [x] by simp [bts, bt_new]]
    rw [timeS_snoc, t1]
    have h1 := fold_12 (bts l o) (bts_ok hv o) (0, 0) (Int.le_refl _)
    rw [fold_cook] at h1
    have h2 : (0 : Int) + cookT (bts l o) ≤ timeS (bts l o) := h1
    rw [t1] at h2
    omega
end Go.Proofs.Ytoegemlpboeodaa
