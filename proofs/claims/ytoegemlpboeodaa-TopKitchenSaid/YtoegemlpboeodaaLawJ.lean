/- TopKitchen: the call returns true. -/
import Derived.Test.YtoegemlpboeodaaLawI
namespace Go.Proofs.Ytoegemlpboeodaa
open Go.RowKit

theorem top_law (A A' : Option Addr) (c c' : Nat) (l : List Bt) (o : List Int) (w : World) (h : PairsAt w.heap.size w A l) (h' : IntsAt w.heap.size w A' o) (hm : l.length ≤ maxLen) (hm' : o.length ≤ maxLen) (hcap : o.length ≤ c') (hcap2 : c' ≤ maxLen) :
    Calls Try.prog 16 #[.slice A l.length c, .slice A' o.length c'] w fun e w' => e = .returned (.bool true) ∧ Below w.heap.size w w' := by
  by_cases h1 : 100 < l.length
  · exact top_long1 A A' c c' _ _ w hm h1
  by_cases h2 : 100 < o.length
  · exact top_long2 A A' c c' _ _ w hm hm' h1 h2
  by_cases hv : valB l = 0
  · by_cases hx : exB l o = 0
    · by_cases h0 : l.length = 0
      · exact top_none A A' c c' l o w h h' (by omega) (by omega) hcap hcap2 hx h0
      · exact top_some A A' c c' l o w h h' (by omega) hcap hcap2 hx (by omega)
    · exact top_other A A' c c' l o w h h' (by omega) (by omega) hv hx
  · exact top_bad A A' c c' l o w h h' (by omega) (by omega) hv
end Go.Proofs.Ytoegemlpboeodaa
