/- The batches with both lines exchanged: no program. -/
import Derived.Test.YtoegemlpboeodaaKitL
import Derived.Test.YtoegemlpboeodaaKitF
import Derived.Test.YtoegemlpboeodaaPlain7
namespace Go.Proofs.Ytoegemlpboeodaa

def swB (x : Bt) : Bt := (x.2, x.1)
def rvB (l : List Bt) : List Bt := l.map swB
theorem rvB_length (l : List Bt) : (rvB l).length = l.length := by simp [rvB]
theorem okB_sw (x : Bt) : okB (swB x) = okB x := by unfold okB swB; exact Bool.and_comm _ _
theorem valB_rv (l : List Bt) : valB (rvB l) = valB l := by
  have e : (l.map swB).all okB = l.all okB := by
    rw [List.all_map]; exact congrArg (fun f => l.all f) (funext okB_sw)
  unfold valB rvB
  rw [e, List.length_map]
theorem bt_rv (l : List Bt) (i : Int) : bt (rvB l) i = swB (bt l i) := by
  simp only [bt, rvB, List.getElem?_map]
  cases l[i.toNat]? <;> rfl
theorem bts_rv (l : List Bt) (o : List Int) : bts (rvB l) o = (bts l o).map swB := by simp [bts, bt_rv]
theorem isOrd_rev (n : Nat) (o : List Int) : isOrd n o.reverse = isOrd n o := by
  unfold isOrd
  exact decide_eq_decide.2 ⟨fun h => (List.reverse_perm o).symm.trans h, fun h => (List.reverse_perm o).trans h⟩
theorem exB_rv (l : List Bt) (o : List Int) : exB (rvB l) o.reverse = exB l o := by
  simp only [exB, valB_rv, rvB_length, isOrd_rev]
theorem sumF_rv : ∀ (b : List Bt) (i k j : Nat), k + j + 1 = i + b.length → sumF k 0 (b.reverse.map swB) = sumF j i b
  | [], _, _, _, _ => rfl
  | x :: b, i, k, j, h => by
    simp only [List.length_cons] at h
    rw [List.reverse_cons, List.map_append, sumF_append, sumF_rv b (i + 1) k j (by omega)]
    simp only [List.map_cons, List.map_nil, sumF, List.length_map, List.length_reverse, swB, Nat.zero_add]
    have e1 : (b.length ≤ k) = (j ≤ i) := propext ⟨fun _ => by omega, fun _ => by omega⟩
    have e2 : (k ≤ b.length) = (i ≤ j) := propext ⟨fun _ => by omega, fun _ => by omega⟩
    simp only [e1, e2]
    omega
theorem rv_ok {b : List Bt} (h : OkL b) : OkL (b.reverse.map swB) := by
  intro x hx
  simp only [List.mem_map, List.mem_reverse] at hx
  obtain ⟨y, hy, rfl⟩ := hx
  have := h y hy
  exact ⟨this.2.2.1, this.2.2.2, this.1, this.2.1⟩
theorem time_rv {b : List Bt} (h : OkL b) : timeS (b.reverse.map swB) = timeS b := by
  obtain ⟨p1, p2, _, p4⟩ := time_paths b h
  obtain ⟨r1, r2, _, r4⟩ := time_paths _ (rv_ok h)
  simp only [List.length_map, List.length_reverse] at r1 r2 r4
  by_cases h0 : b.length = 0
  · rw [p4 h0, r4 h0]
  · obtain ⟨k, hk, ek⟩ := p2 (by omega)
    obtain ⟨j, hj, ej⟩ := r2 (by omega)
    have a1 := p1 (b.length - 1 - j) (by omega)
    have a2 := r1 (b.length - 1 - k) (by omega)
    have s1 : sumK (b.reverse.map swB) j = sumK b (b.length - 1 - j) := sumF_rv b 0 j (b.length - 1 - j) (by omega)
    have s2 : sumK (b.reverse.map swB) (b.length - 1 - k) = sumK b k := sumF_rv b 0 (b.length - 1 - k) k (by omega)
    omega
theorem bts_rev (l : List Bt) (o : List Int) : bts (rvB l) o.reverse = (bts l o).reverse.map swB := by
  rw [bts_rv]; simp [bts]
theorem time_rev {l : List Bt} (hv : valB l = 0) (o : List Int) : timeS (bts (rvB l) o.reverse) = timeS (bts l o) := by
  rw [bts_rev, time_rv (bts_ok hv o)]
theorem timeR_rv (l : List Bt) (o : List Int) : timeR (rvB l) o.reverse = timeR l o := by
  simp only [timeR, exB_rv]
  split
  · rw [time_rev (exB_zero ‹_›).1]
  · rfl
theorem leastR_rv (l : List Bt) : leastR (rvB l) = leastR l := by
  simp only [leastR, valB_rv]
  split
  · rename_i hv
    obtain ⟨p1, t1, _, m1⟩ := best_spec hv
    refine best_eq (by rw [valB_rv]; exact hv) ⟨(bestS l).2.reverse, ?_, ?_⟩ fun o ho => ?_
    · rw [rvB_length]; exact (List.reverse_perm _).trans p1
    · rw [time_rev hv, t1]
    · rw [rvB_length] at ho
      have := m1 o.reverse ((List.reverse_perm _).trans ho)
      have e := time_rev hv o.reverse
      rw [List.reverse_reverse] at e
      rw [e]; exact this
  · rfl
end Go.Proofs.Ytoegemlpboeodaa
