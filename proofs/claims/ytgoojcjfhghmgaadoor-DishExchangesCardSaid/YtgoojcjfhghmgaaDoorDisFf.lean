/- A region that draws its order: what holds from here on may be more; moves. -/
import Derived.Test.YtgoojcjfhghmgaaDoorDisFe
namespace Go.Proofs.YtgoojcjfhghmgaaDoor
open Go Go.RowKit
section
variable {P : Program} {md : Region.Mode} {ops : Array Oper} {Q : Exit → Act → World → Prop} {S S' : World → Prop} {E : Nat → Bool}
theorem anyE_mono (h : ∀ w, S' w → S w) : ∀ (n : Nat) (listed : Array Bool) (a : Act) (w : World), anyE P md ops Q S' E n listed a w → anyE P md ops Q S E n listed a w
  | 0, _, _, _, H => H
  | n + 1, _, _, _, H => ⟨H.1, fun i hi => wpOp_mono (fun a' w' h' => ⟨fun e => h w' (h'.1 e), anyE_mono h n _ a' w' h'.2⟩) (H.2 i hi)⟩
/-- More holds from here on. -/
theorem anyE_more (T : World → Prop) {n : Nat} {listed : Array Bool} {a : Act} {w : World} (H : anyE P md ops Q (fun w => S w ∧ T w) E n listed a w) : anyE P md ops Q S E n listed a w :=
  anyE_mono (fun _ h => h.1) n listed a w H
/-- Number i is taken first; none is exempt; its place is written out. -/
theorem anyE_tk (i d : Nat) {oi : Oper} {v : Value} {n : Nat} {listed : Array Bool} {a : Act} {w : World} (hi : ops[i]? = some oi) (hd : oi.dst = some d)
    (hs : Region.noSelect ops = true) (hf : Region.free md ops listed i = true) (hr : (Region.ready md ops listed).contains i = true)
    (hQ : ∀ c a w, Q (.panic c) (a.put oi.dst v) w → Q (.panic c) a w) (hy : YieldsIf P ops S oi v a) (hS : S w)
    (h : anyE P md ops Q S (fun _ => false) n (listed.setIfInBounds i true) { a with tmps := a.tmps.setIfInBounds d v } w) : anyE P md ops Q S (fun _ => false) (n + 1) listed a w := by
  refine anyE_first hi (Region.noSelect_spec hs) hQ (N := []) (fun j hj => by cases hj) (fun j hj => by cases hj) n listed a w (Region.free_spec hi hf) (by simpa using hr) (fun k hk => by cases hk) hy hS ?_
  rw [hd]; exact h
end
end Go.Proofs.YtgoojcjfhghmgaaDoor
