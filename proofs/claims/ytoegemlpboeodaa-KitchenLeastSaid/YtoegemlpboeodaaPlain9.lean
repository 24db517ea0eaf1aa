/- What TopKitchen asks of orders: no program. -/
import Derived.Test.YtoegemlpboeodaaKitL
import Derived.Test.YtoegemlpboeodaaKitF
import Derived.Test.YtoegemlpboeodaaLawE
namespace Go.Proofs.Ytoegemlpboeodaa
open Go.RowKit

theorem fold_pack (b : List Bt) (s : Int × Int) : s.2 + packT b ≤ (b.foldl stp s).2 := by
  induction b generalizing s with
  | nil => simp [packT]
  | cons x b ih =>
    have := ih (stp s x)
    rw [List.foldl_cons]
    simp only [stp, packT] at this ⊢
    omega
/-- At the place where the longest path goes over, nothing waits. -/
theorem crit_wait {b : List Bt} {k : Nat} (hk : k < b.length) (h : sumK b k = timeS b) : ((b.take k).foldl stp (0, 0)).2 ≤ ((b.take k).foldl stp (0, 0)).1 + b[k].1 := by
  have e : b = b.take k ++ b[k] :: b.drop (k + 1) := by rw [← List.drop_eq_getElem_cons hk, List.take_append_drop]
  have h1 : timeS b = ((b.drop (k + 1)).foldl stp (stp ((b.take k).foldl stp (0, 0)) b[k])).2 := by
    have : timeS b = timeS (b.take k ++ b[k] :: b.drop (k + 1)) := congrArg timeS e
    rw [this, timeS, List.foldl_append, List.foldl_cons]
  have h2 := fold_pack (b.drop (k + 1)) (stp ((b.take k).foldl stp (0, 0)) b[k])
  rw [← h1, ← h, sumK_step hk] at h2
  have h3 := fold_cook (b.take k) (0, 0)
  simp only [stp] at h2
  generalize (b.take k).foldl stp (0, 0) = s at h2 h3 ⊢
  simp only at h3
  omega
theorem idle_pack (l : List Bt) (o : List Int) {k : Nat} (hk : k ≤ o.length) : idAt l o k + packT ((bts l o).take k) = (stAt l o k).2 := by
  induction k with
  | zero => simp [idAt, packT, stAt]
  | succ k ih =>
    have h1 := ih (by omega)
    have h2 : (bts l o)[k]'(by rw [bts_length]; omega) = bt l o[k] := by simp [bts]
    rw [stAt_succ l o (by omega), packT_take (by rw [bts_length]; omega), h2]
    simp only [idAt, stp, show o[k]?.getD 0 = o[k] by simp [show k < o.length by omega]]
    omega
theorem idle_all {l : List Bt} {o : List Int} (hx : exB l o = 0) : idR l o + packT l = timeR l o := by
  obtain ⟨hv, hp⟩ := exB_zero hx
  have := idle_pack l o (Nat.le_refl _)
  rw [idR, if_pos hx, timeR, if_pos hx, ← stAt_all, ← this, ← packT_perm (bts_perm hp)]
  rw [← bts_length l o, List.take_length]
theorem run_row {l : List Bt} {o : List Int} {k : Nat} (hk : k < o.length) : (runS l o)[k]?.getD [] = shR o[k] (stAt l o k) (bt l o[k]) := by
  simp [runS, runAt, hk]
theorem run_last {l : List Bt} {o : List Int} {k : Nat} (hk : k + 1 = o.length) (hx : exB l o = 0) : ((runS l o)[k]?.getD [])[4]?.getD 0 = timeR l o := by
  have e : (stAt l o o.length).2 = (stp (stAt l o k) (bt l (o[k]'(by omega)))).2 := by
    have := stAt_succ l o (k := k) (by omega)
    rw [hk] at this; rw [this]
  rw [run_row (by omega), timeR, if_pos hx, ← stAt_all, e]
  rfl
theorem run_crit {l : List Bt} {o : List Int} (hx : exB l o = 0) (h0 : 0 < l.length) : ∃ k : Nat, crR l o = (k : Int) ∧ crE l o = 0 ∧ k < o.length ∧ ((runS l o)[k]?.getD [])[3]?.getD 0 = ((runS l o)[k]?.getD [])[2]?.getD 0 := by
  obtain ⟨hv, hp⟩ := exB_zero hx
  have hol := ord_length hp
  obtain ⟨k, h1, h2, h3⟩ := crit_at (bts_ok hv o) (by rw [bts_length]; omega)
  rw [bts_length] at h2
  refine ⟨k, by rw [crR, if_pos hx, if_neg (by omega), h1], by rw [crE, if_pos hx, if_neg (by omega)], h2, ?_⟩
  have hw := crit_wait (b := bts l o) (by rw [bts_length]; exact h2) h3
  have h4 : (bts l o)[k]'(by rw [bts_length]; omega) = bt l o[k] := by simp [bts]
  rw [h4] at hw
  rw [run_row h2]
  show max ((stAt l o k).1 + (bt l o[k]).1) (stAt l o k).2 = (stAt l o k).1 + (bt l o[k]).1
  have : ((bts l o).take k).foldl stp (0, 0) = stAt l o k := rfl
  rw [this] at hw
  omega
/-- What holds of the best. -/
theorem best_top {l : List Bt} (hv : valB l = 0) : exB l (bestR l) = 0 ∧ timeR l (bestR l) = leastR l ∧ bndR l ≤ leastR l := by
  obtain ⟨p1, t1, _, _⟩ := best_spec hv
  have e : bestR l = (bestS l).2 := if_pos hv
  have hx : exB l (bestR l) = 0 := by
    rw [e, exB, if_pos hv, if_pos (by simpa [isOrd] using p1)]
  have ht : timeR l (bestR l) = leastR l := by rw [timeR, if_pos hx, e, t1, leastR, if_pos hv]
  exact ⟨hx, ht, ht ▸ bnd_time hx⟩
theorem time_top {l : List Bt} {o : List Int} (hx : exB l o = 0) : leastR l ≤ timeR l o := by
  obtain ⟨hv, hp⟩ := exB_zero hx
  rw [leastR, if_pos hv, timeR, if_pos hx]
  exact (best_spec hv).2.2.2 o hp
theorem exB_other {l : List Bt} {o : List Int} (hv : valB l = 0) (hx : ¬ exB l o = 0) : exB l o = 1 := by
  unfold exB at hx ⊢
  rw [if_pos hv] at hx ⊢
  split at hx
  · exact absurd rfl hx
  · rw [if_neg ‹_›]
end Go.Proofs.Ytoegemlpboeodaa
