/- Two operations are ready. -/
import Derived.Test.YtmodbpglopfghaaOrd
namespace Go.Proofs.Ytmodbpglopfghaa
open Go Go.RowKit
section
variable {P : Program} {md : Region.Mode} {ops : Array Oper} {Q : Exit → Act → World → Prop} {S : World → Prop} {E : Nat → Bool}
theorem anyE_two {i j : Nat} {oi oj : Oper} {n : Nat} {listed : Array Bool} {a : Act} {w : World} (hr : Region.ready md ops listed = [i, j]) (hi : ops[i]? = some oi) (hj : ops[j]? = some oj)
    (h1 : ∀ K' : Act → World → Prop, Go.Shut (∀ a w, (E i = false → S w) → anyE P md ops Q S E n (listed.setIfInBounds i true) a w → K' a w) → if Region.wanted oi (yielded ops a.tmps) = true then Oper.wp P oi a w K' Q else K' (a.put oi.dst undef) w)
    (h2 : ∀ K' : Act → World → Prop, Go.Shut (∀ a w, (E j = false → S w) → anyE P md ops Q S E n (listed.setIfInBounds j true) a w → K' a w) → if Region.wanted oj (yielded ops a.tmps) = true then Oper.wp P oj a w K' Q else K' (a.put oj.dst undef) w) :
    anyE P md ops Q S E (n + 1) listed a w :=
  anyE_all hr (by simp) fun q hq => by
    rcases List.mem_cons.1 hq with rfl | hq
    · exact wpOp_step hi fun K' hK => h1 K' fun a w hS hW => hK a w ⟨hS, hW⟩
    · rw [List.mem_singleton] at hq
      subst hq
      exact wpOp_step hj fun K' hK => h2 K' fun a w hS hW => hK a w ⟨hS, hW⟩
end
end Go.Proofs.Ytmodbpglopfghaa
