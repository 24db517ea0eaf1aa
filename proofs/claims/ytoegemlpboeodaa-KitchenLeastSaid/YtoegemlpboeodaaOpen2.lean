/- A slice of pairs that came in. -/
import Derived.Test.YtoegemlpboeodaaOpen
namespace Go.Proofs.Ytoegemlpboeodaa
open Go.RowKit

theorem pairs_of_rows {B n : Nat} {w : World} {A : Option Addr} {f : Nat → Nat → Int} (h : ElsAt B w A 2 n (fun k j => .int .i64 (f k j))) : ∃ l : List (Int × Int), n = l.length ∧ PairsAt B w A l := by
  refine ⟨(List.range n).map fun k => (f k 0, f k 1), by simp, ?_⟩
  unfold PairsAt
  simp only [List.length_map, List.length_range]
  refine h.congr fun k j hk hj => ?_
  have : j = 0 ∨ j = 1 := by omega
  rcases this with rfl | rfl <;> simp [hk]
end Go.Proofs.Ytoegemlpboeodaa
