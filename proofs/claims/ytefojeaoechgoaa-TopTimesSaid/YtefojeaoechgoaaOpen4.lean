/- A slice of facts that came in, with its capacity. -/
import Derived.Test.YtefojeaoechgoaaOpen
import Derived.Test.YtefojeaoechgoaaRecs
namespace Go.Proofs.Ytefojeaoechgoaa
open Go.RowKit Go.ChangeShapes Go.WideShapes Go.ChangeAt Go.Deep
section
variable {H : Type} {enc : TypeId × Value → H} {P : Program} {W : World} {base : Nat} {sp : Nat → Bool} {held : Bool} {fuel : Nat} {t e : TypeId} {cs : List Value} {x : DataW H × List MemPlace}
/-- A slice of structs of ints that came in. -/
theorem open_rowsCap {fs : Array Field} (ht : P.underlying t = some (.slice e)) (hs : P.underlying e = some (.struct fs)) (hone : oneCellFields P fs = true) (hC : P.cellsOf e = fs.size) (h0 : 0 < fs.size)
    (hint : ∀ f ∈ fs.toList, P.underlying f.type = some (.int .i64)) (h : DataW.trod enc P W base sp held fuel t cs = some x) :
    ∃ A c n, ∃ f : Nat → Nat → Int, cs = [.slice A n c] ∧ ElsAt W.heap.size W A fs.size n (fun k j => .int .i64 (f k j)) ∧ (∀ k j, k < n → j < fs.size → I64 (f k j)) ∧ n ≤ maxLen ∧ n ≤ c ∧ c ≤ maxLen := by
  rcases open_slice ht h with ⟨hcs, _⟩ | ⟨a, len, cap, m, n, D, Pl, hcs, _, hl, hm, hmm, _, hel⟩
  · exact ⟨none, 0, 0, fun _ _ => 0, hcs, ElsAt.nil _ _ _ _ _, fun k j hk => by omega, Nat.zero_le _, Nat.le_refl _, Nat.zero_le _⟩
  · have hlm : len ≤ m := by rw [hmm]; split <;> omega
    have key : ∀ k, ∃ g : Nat → Int, k < len → ∀ j, j < fs.size → W.cell? (a.add (k * fs.size + j)) = some (.int .i64 (g j)) ∧ I64 (g j) := by
      intro k
      by_cases hk : k < len
      · obtain ⟨cs', hc, htr⟩ := hel k (by omega)
        obtain ⟨hlen, hz⟩ := struct_ints hs hone hC hint htr
        obtain ⟨_, _, hat⟩ := World.cells?_some hc
        rw [hC] at hat
        have : ∀ j, ∃ z, j < fs.size → cs'[j]? = some (.int .i64 z) ∧ I64 z := fun j => by
          by_cases hj : j < fs.size
          · obtain ⟨z, h1, h2⟩ := hz j hj; exact ⟨z, fun _ => ⟨h1, h2⟩⟩
          · exact ⟨0, fun h => absurd h hj⟩
        refine ⟨fun j => Classical.choose (this j), fun _ j hj => ?_⟩
        obtain ⟨h1, h2⟩ := Classical.choose_spec (this j) hj
        refine ⟨?_, h2⟩
        rw [← Go.Deep.add_add, hat j hj]; exact h1
      · exact ⟨fun _ => 0, fun h => absurd h hk⟩
    refine ⟨some a, cap, len, fun k => Classical.choose (key k), hcs, ElsAt.of_add h0 (fun k hk j hj => (Classical.choose_spec (key k) hk j hj).1) (fun h0' => ?_), fun k j hk hj => (Classical.choose_spec (key k) hk j hj).2, by omega, by omega, by omega⟩
    have := spot_none (Classical.choose_spec (key 0) h0' 0 h0).1
    unfold Addr.add at this
    simpa using this

end
theorem facts_of_rows {B n : Nat} {w : World} {A : Option Addr} {f : Nat → Nat → Int} (h : ElsAt B w A 5 n (fun k j => .int .i64 (f k j))) : ∃ l : List Fc, n = l.length ∧ FactsAt B w A l := by
  refine ⟨(List.range n).map fun k => ⟨f k 0, f k 1, f k 2, f k 3, f k 4⟩, by simp, fun k hk => ?_⟩
  simp only [List.length_map, List.length_range] at hk
  obtain ⟨b, off, e, hb, hc⟩ := h k hk
  refine ⟨b, off, e, hb, fun j hj => ?_⟩
  rw [hc j hj]
  simp only [List.getElem_map, List.getElem_range]
  match j, hj with
  | 0, _ => rfl
  | 1, _ => rfl
  | 2, _ => rfl
  | 3, _ => rfl
  | 4, _ => rfl
end Go.Proofs.Ytefojeaoechgoaa
