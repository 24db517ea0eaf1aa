/- A table that came in. -/
import Derived.Test.YtmodbpglopfghaaOpen
import Derived.Test.YtmodbpglopfghaaVanA
set_option linter.unusedVariables false
namespace Go.Proofs.Ytmodbpglopfghaa
open Go.RowKit Go.ChangeShapes Go.WideShapes Go.ChangeAt Go.Deep
section
variable {H : Type} {enc : TypeId × Value → H} {P : Program} {W : World} {base : Nat} {sp : Nat → Bool} {held : Bool} {fuel : Nat} {t e i : TypeId} {cs : List Value} {x : DataW H × List MemPlace}
theorem open_tblAt (ht : P.underlying t = some (.slice e)) (he : P.underlying e = some (.slice i)) (hi : P.underlying i = some (.int .i64)) (hc : P.cellsOf e = 1) (hc' : P.cellsOf i = 1) (h : DataW.trod enc P W base sp held fuel t cs = some x) :
    ∃ A c rows, cs = [.slice A rows.length c] ∧ TblAt W.heap.size W A rows ∧ rows.length ≤ maxLen := by
  rcases open_slice ht h with ⟨hcs, _⟩ | ⟨a, len, cap, m, n, D, Pl, hcs, _, hl, hm, hmm, _, hel⟩
  · exact ⟨none, 0, [], hcs, fun k hk => by simp at hk, Nat.zero_le _⟩
  · have hlm : len ≤ m := by rw [hmm]; split <;> omega
    have key : ∀ k, ∃ r : List Int, k < len → ∃ A1 c1, W.cell? (a.add k) = some (.slice A1 r.length c1) ∧ IntsAt W.heap.size W A1 r := fun k => by
      by_cases hk : k < len
      · obtain ⟨cs', hcl, htr⟩ := hel k (by omega)
        obtain ⟨A1, c1, r, rfl, h1, _, _⟩ := open_intsAt he hi hc' htr
        obtain ⟨_, _, hat⟩ := World.cells?_some hcl
        rw [hc, Nat.mul_one] at hat
        refine ⟨r, fun _ => ⟨A1, c1, ?_, h1⟩⟩
        have := hat 0 (by omega)
        rw [Go.Deep.add_add, Nat.add_zero] at this
        exact this
      · exact ⟨[], fun h => absurd h hk⟩
    obtain ⟨rf, hrf⟩ : ∃ rf : Nat → List Int, ∀ k, k < len → ∃ A1 c1, W.cell? (a.add k) = some (.slice A1 (rf k).length c1) ∧ IntsAt W.heap.size W A1 (rf k) := ⟨fun k => Classical.choose (key k), fun k hk => Classical.choose_spec (key k) hk⟩
    refine ⟨some a, cap, (List.range len).map rf, by simpa using hcs, fun k hk => ?_, by simp; omega⟩
    have hk' : k < len := by simpa using hk
    obtain ⟨A1, c1, h1, h2⟩ := hrf k hk'
    obtain ⟨A0, c0, h0, _⟩ := hrf 0 (by omega)
    have hsp : a.spot = none := by
      have := spot_none h0
      unfold Addr.add at this
      simpa using this
    obtain ⟨b, off, spot⟩ := a
    subst hsp
    rw [Addr.add_lit] at h1
    refine ⟨b, off, A1, c1, rfl, cell_lt h1, ?_, ?_⟩
    · simpa using h1
    · simpa using h2
end
end Go.Proofs.Ytmodbpglopfghaa
