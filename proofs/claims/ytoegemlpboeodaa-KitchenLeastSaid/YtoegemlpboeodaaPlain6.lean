/- The search for the least time, in plain words. -/
import Derived.Test.YtoegemlpboeodaaPlain2
namespace Go.Proofs.Ytoegemlpboeodaa

/-- One batch more on a beginning. -/
def tryB (l : List Bt) (f : List Int → Int → Int → Int × List Int → Int × List Int) (p : List Int) (c e : Int) (s : Int × List Int) (i : Int) : Int × List Int :=
  if p.contains i then s else f (p ++ [i]) (c + (bt l i).1) (max (c + (bt l i).1) e + (bt l i).2) s
/-- The search below a beginning that leaves m batches. -/
def tryS (l : List Bt) : Nat → List Int → Int → Int → Int × List Int → Int × List Int
  | 0, p, _, e, s => if 0 ≤ s.1 ∧ s.1 ≤ e then s else (e, p)
  | m + 1, p, c, e, s => if 0 ≤ s.1 ∧ s.1 ≤ e then s else (iota l.length).foldl (tryB l (tryS l m) p c e) s
def tryTo (l : List Bt) (m : Nat) (p : List Int) (c e : Int) (s : Int × List Int) (k : Nat) : Int × List Int := ((iota l.length).take k).foldl (tryB l (tryS l m) p c e) s
def bestS (l : List Bt) : Int × List Int := tryS l l.length [] 0 0 (-1, [])
theorem tryTo_zero (l : List Bt) (m : Nat) (p : List Int) (c e : Int) (s : Int × List Int) : tryTo l m p c e s 0 = s := rfl
theorem tryTo_succ (l : List Bt) (m : Nat) (p : List Int) (c e : Int) (s : Int × List Int) {k : Nat} (hk : k < l.length) : tryTo l m p c e s (k + 1) = tryB l (tryS l m) p c e (tryTo l m p c e s k) (k : Int) := by
  unfold tryTo
  rw [List.take_succ_eq_append_getElem (by rw [iota_length]; exact hk), List.foldl_append, iota_get]
  rfl
theorem tryTo_all (l : List Bt) (m : Nat) (p : List Int) (c e : Int) (s : Int × List Int) (h : ¬ (0 ≤ s.1 ∧ s.1 ≤ e)) : tryTo l m p c e s l.length = tryS l (m + 1) p c e s := by
  unfold tryTo
  rw [tryS, if_neg h, List.take_of_length_le (by rw [iota_length]; exact Nat.le_refl _)]
end Go.Proofs.Ytoegemlpboeodaa
