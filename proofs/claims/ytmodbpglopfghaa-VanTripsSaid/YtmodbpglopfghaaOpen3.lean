/- A slice of ints that came in, with its capacity. -/
import Derived.Test.YtmodbpglopfghaaOpen
namespace Go.Proofs.Ytmodbpglopfghaa
open Go.RowKit Go.ChangeShapes Go.WideShapes Go.ChangeAt Go.Deep
section
variable {H : Type} {enc : TypeId × Value → H} {P : Program} {W : World} {base : Nat} {sp : Nat → Bool} {held : Bool} {fuel : Nat} {t e : TypeId} {cs : List Value} {x : DataW H × List MemPlace}
theorem open_intsCap (ht : P.underlying t = some (.slice e)) (he : P.underlying e = some (.int .i64)) (hc : P.cellsOf e = 1) (h : DataW.trod enc P W base sp held fuel t cs = some x) :
    ∃ A c zs, cs = [.slice A zs.length c] ∧ IntsAt W.heap.size W A zs ∧ (∀ z ∈ zs, I64 z) ∧ zs.length ≤ maxLen ∧ zs.length ≤ c ∧ c ≤ maxLen := by
  rcases open_ints ht he hc h with ⟨hcs, _⟩ | ⟨a, len, cap, zs, hcs, _, hl, hm, hz, _, hcell, hwf⟩
  · exact ⟨none, 0, [], hcs, IntsAt.nil _ _ _, by simp, Nat.zero_le _, Nat.le_refl _, Nat.zero_le _⟩
  · have hlz : len ≤ zs.length := by rw [hz]; split <;> omega
    have hlen : (zs.take len).length = len := by simp; omega
    refine ⟨some a, cap, zs.take len, by rw [hlen]; exact hcs, ?_, fun z hz => hwf z (List.mem_of_mem_take hz), by omega, by omega, by omega⟩
    refine ElsAt.of_add (by omega) (fun k hk j hj => ?_) (fun h0 => ?_)
    · rw [hlen] at hk
      obtain rfl : j = 0 := by omega
      have := hcell k (by omega)
      simp only [Nat.mul_one, Nat.add_zero]
      rw [this]; simp [hk]
    · rw [hlen] at h0
      have := spot_none (hcell 0 (by omega))
      unfold Addr.add at this
      simpa using this
end
end Go.Proofs.Ytmodbpglopfghaa
