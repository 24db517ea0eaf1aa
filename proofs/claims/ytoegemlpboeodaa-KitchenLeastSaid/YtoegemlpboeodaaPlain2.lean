/- Plain words for the shifts, sums and bounds: no program. -/
import Derived.Test.YtoegemlpboeodaaPlain
namespace Go.Proofs.Ytoegemlpboeodaa

/-- When a batch is cooked and packed: its number, when it begins to be cooked, is cooked, begins to be packed, is packed. -/
def shR (n : Int) (s : Int × Int) (b : Bt) : List Int := [n, s.1, s.1 + b.1, max (s.1 + b.1) s.2, max (s.1 + b.1) s.2 + b.2]
def runAt (l : List Bt) (o : List Int) (k : Nat) : List (List Int) := (List.range k).map fun i => shR (o[i]?.getD 0) (stAt l o i) (bt l (o[i]?.getD 0))
def runS (l : List Bt) (o : List Int) : List (List Int) := runAt l o o.length
theorem runAt_length (l : List Bt) (o : List Int) (k : Nat) : (runAt l o k).length = k := by simp [runAt]
theorem runAt_succ (l : List Bt) (o : List Int) {k : Nat} (hk : k < o.length) : runAt l o (k + 1) = runAt l o k ++ [shR o[k] (stAt l o k) (bt l o[k])] := by
  simp [runAt, List.range_succ, hk]
theorem runAt_row (l : List Bt) (o : List Int) (k : Nat) : ∀ r ∈ runAt l o k, r.length = 5 := by
  intro r hr
  simp only [runAt, List.mem_map] at hr
  obtain ⟨i, _, rfl⟩ := hr
  rfl
end Go.Proofs.Ytoegemlpboeodaa
