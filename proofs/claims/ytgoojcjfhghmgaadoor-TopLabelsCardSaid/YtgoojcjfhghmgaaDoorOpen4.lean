/- What the laid variables give: the library's table. -/
import Derived.Test.YtgoojcjfhghmgaaDoorTie
import Derived.Test.YtgoojcjfhghmgaaDoorDisA
import Derived.ProofKit
import Derived.OpenShut
import Derived.LaidMore
import Derived.Lay
import Derived.SevenTiedAt
import Derived.Stop.Joined
namespace Go.Proofs.YtgoojcjfhghmgaaDoor
open Go.ChangeShapes Go.WideShapes Go.ChangeAt Go.RowKit

theorem own : ownKnob Tryd.prog.godebug = none := by kernel_rfl
theorem laidOut : laidOutB Tryd.prog = true := by kernel_rfl
def laidV : List (String × DataW Unit) := [("math/bits.deBruijn32tab", Rows.laid_math_bits_deBruijn32tab), ("math/bits.deBruijn64tab", Rows.laid_math_bits_deBruijn64tab)]
theorem laid64 : (Rows.laid_math_bits_deBruijn64tab : DataW Unit) = .agg (Lib.deBruijn64tab.map fun n : Nat => .lit (.int .u8 (n : Int))) := by kernel_rfl
theorem tab_of_laid {W : World} (h : laidMetH Tryd.prog laidV W) : Tab W := by
  rw [MakeChecks.laidMetH_plain _ _ _ (by kernel_rfl)] at h
  obtain ⟨ps, ⟨g0, t0, cs0, f0, p0, q0, hg0, ht0, hv0, hd0, ⟨g, t, cs, fuel, p, q, hg, ht, hv, hd, _, _⟩, _⟩, _, _⟩ := h
  clear hd0 hv0 ht0 hg0
  obtain rfl := Option.some.inj ((show Tryd.prog.globalNamed "math/bits.deBruijn64tab" = some 1 by kernel_rfl).symm.trans hg)
  obtain ⟨tt, htt⟩ : ∃ tt, (Tryd.prog.globals[1]?).map (·.type) = some tt ∧ Tryd.prog.underlying tt = some (.array 64 5) := ⟨128, by kernel_rfl, Tryd.underlying128⟩
  obtain rfl := Option.some.inj (htt.1.symm.trans ht)
  obtain ⟨xs, m, _, ex, _, hl, hel⟩ := DataW.trod_array htt.2 hd
  have c5 : Tryd.prog.cellsOf 5 = 1 := by kernel_rfl
  have hlen : Lib.deBruijn64tab.length = 64 := by kernel_rfl
  rw [laid64] at ex
  have e3 : (xs.map (·.1)) = Lib.deBruijn64tab.map fun n : Nat => .lit (.int .u8 (n : Int)) := (DataW.agg.inj (Prod.mk.inj ex).1).symm
  have key : ∀ j, j < 64 → W.cell? ⟨1, j, none⟩ = some (.int .u8 (Lib.deBruijn64tab.getD j 0)) := by
    intro r hr
    have hE := hel r hr
    rw [c5, Nat.mul_one, List.getElem?_eq_getElem (by omega)] at hE
    obtain ⟨z, e1, e2, _⟩ := DataW.trod_int Tryd.underlying5 hE
    have e4 : (xs.map (·.1))[r]? = (Lib.deBruijn64tab.map fun n : Nat => (DataW.lit (.int .u8 (n : Int)) : DataW Unit))[r]? := by rw [e3]
    rw [List.getElem?_map, List.getElem?_map, List.getElem?_eq_getElem (by omega : r < xs.length), List.getElem?_eq_getElem (by omega : r < Lib.deBruijn64tab.length), e2] at e4
    have hz : z = ((Lib.deBruijn64tab.getD r 0 : Nat) : Int) := by
      simp only [Option.map_some, Option.some.injEq, DataW.lit.injEq, Lit.int.injEq, true_and] at e4
      rw [e4, List.getD, List.getElem?_eq_getElem (by omega : r < Lib.deBruijn64tab.length)]; rfl
    rw [World.var?_cell hg hv r, ← hz]
    have : cs.toList[r]? = some (.int .u8 z) := by
      have h0 : ((cs.toList.drop r).take 1)[0]? = some (.int .u8 z) := by rw [e1]; rfl
      simpa using h0
    simpa using this
  exact ⟨fun j hj => key j (by omega), cell_lt (key 0 (by decide))⟩
end Go.Proofs.YtgoojcjfhghmgaaDoor
