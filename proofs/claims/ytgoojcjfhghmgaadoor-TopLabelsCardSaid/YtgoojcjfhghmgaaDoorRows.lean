/-
  NARROWER THAN 'FOR EVERY INPUT', by the rows' own cells (each row's printed sentence says how): DishValidates: laid · DishMenus: laid · DishLabels: laid · DishCloses: laid · DishFollows: laid · DishTables: laid · DishExplains: laid · DishPairs: laid · DishProofs: laid · DishReduces: laid · DishExchanges: laid · DishShortest: laid · DishFewest: laid · TopLabels: laid.
  DERIVED. THE GIVEN ROWS OF THIS SEAT. 14 by the template 'for every input the law returns true; each argument reads behind the call as it read before'; 0 by the template 'total and deterministic' (their statements: YtgoojcjfhghmgaaDoorTotals.lean).
  GIVEN WITH THE SEED: the statements are not yours to turn. If you find one false, say at which input.
  Laid BY PROGRAM, IN A SANDBOX (cutbox-rows.mjs): the forced cells as the released guide's own fill.sh prints them over the translation ea9d5794a020968c… (all of the seat's roots in one cut). By AI agents, Wed Nov 11 2026. No macro, syntax, notation, axiom, sorry.
-/
import Derived.Test.YtgoojcjfhghmgaaDoorChecked
import GoSem.Claim
import GoSem.ClaimJoined
import GoSem.ClaimMapViews
import Derived.JoinedTies
import Derived.KernelRfl
namespace Go.Proofs.YtgoojcjfhghmgaaDoor
/- THE CELL 'sum', in the pinned program and in every row, IS THE sha256 OF THE DUMP (.gsa) THAT YtgoojcjfhghmgaaDoorProg.lean LOADS. Nothing in Lean hashes anything: it is a label: what it is worth is what the hold of that sum in a sandbox is worth. -/
noncomputable def Tryd.pinned : Pinned := { name := "ytgoojcjfhghmgaadoor", sum := "ea9d5794a020968c1088774236d41ebb059b9f5009becf435fb97f162afd0ff5", checked := Tryd.checked }
namespace Rows
def none {H : Type} : Left H := { results := [], args := [] }

/- WHAT THE LISTED PACKAGE-LEVEL VARIABLES READ AS WHEN THE CALL BEGINS. Each datum BY PROGRAM (the guide's laid-datum.mjs) off the statement by which the dump's own 'gosem.cut.vars' lays the variable. In a bare row this is a premise. The card (YtgoojcjfhghmgaaDoorCards.lean) ties it to the program's text. -/
def laid_math_bits_deBruijn32tab {H : Type} : DataW H := .agg [.lit (.int .u8 0), .lit (.int .u8 1), .lit (.int .u8 28), .lit (.int .u8 2), .lit (.int .u8 29), .lit (.int .u8 14), .lit (.int .u8 24), .lit (.int .u8 3), .lit (.int .u8 30), .lit (.int .u8 22), .lit (.int .u8 20), .lit (.int .u8 15), .lit (.int .u8 25), .lit (.int .u8 17), .lit (.int .u8 4), .lit (.int .u8 8), .lit (.int .u8 31), .lit (.int .u8 27), .lit (.int .u8 13), .lit (.int .u8 23), .lit (.int .u8 21), .lit (.int .u8 19), .lit (.int .u8 16), .lit (.int .u8 7), .lit (.int .u8 26), .lit (.int .u8 12), .lit (.int .u8 18), .lit (.int .u8 6), .lit (.int .u8 11), .lit (.int .u8 5), .lit (.int .u8 10), .lit (.int .u8 9)]
def laid_math_bits_deBruijn64tab {H : Type} : DataW H := .agg [.lit (.int .u8 0), .lit (.int .u8 1), .lit (.int .u8 56), .lit (.int .u8 2), .lit (.int .u8 57), .lit (.int .u8 49), .lit (.int .u8 28), .lit (.int .u8 3), .lit (.int .u8 61), .lit (.int .u8 58), .lit (.int .u8 42), .lit (.int .u8 50), .lit (.int .u8 38), .lit (.int .u8 29), .lit (.int .u8 17), .lit (.int .u8 4), .lit (.int .u8 62), .lit (.int .u8 47), .lit (.int .u8 59), .lit (.int .u8 36), .lit (.int .u8 45), .lit (.int .u8 43), .lit (.int .u8 51), .lit (.int .u8 22), .lit (.int .u8 53), .lit (.int .u8 39), .lit (.int .u8 33), .lit (.int .u8 30), .lit (.int .u8 24), .lit (.int .u8 18), .lit (.int .u8 12), .lit (.int .u8 5), .lit (.int .u8 63), .lit (.int .u8 55), .lit (.int .u8 48), .lit (.int .u8 27), .lit (.int .u8 60), .lit (.int .u8 41), .lit (.int .u8 37), .lit (.int .u8 16), .lit (.int .u8 46), .lit (.int .u8 35), .lit (.int .u8 44), .lit (.int .u8 21), .lit (.int .u8 52), .lit (.int .u8 32), .lit (.int .u8 23), .lit (.int .u8 11), .lit (.int .u8 54), .lit (.int .u8 26), .lit (.int .u8 40), .lit (.int .u8 15), .lit (.int .u8 34), .lit (.int .u8 20), .lit (.int .u8 31), .lit (.int .u8 10), .lit (.int .u8 25), .lit (.int .u8 14), .lit (.int .u8 19), .lit (.int .u8 9), .lit (.int .u8 13), .lit (.int .u8 8), .lit (.int .u8 7), .lit (.int .u8 6)]

/-- 'canteenlaw02.DishValidates': WHATEVER THE INPUT: true; the input reads as it did. -/
def dishValidatesSpec : ChangeSpec := { name := "dishValidates", fn := fun _ => fun
  | [d] => { results := [.lit (.bool true)], args := [d] }
  | _ => none }
def dishValidatesRow : OpenClaim := { program := "ytgoojcjfhghmgaadoor", sum := "ea9d5794a020968c1088774236d41ebb059b9f5009becf435fb97f162afd0ff5", func := "canteen/canteenlaw02.DishValidates", spec := "dishValidates", unfollowed := true, recurses := true, named := ["math/bits.deBruijn32tab", "math/bits.deBruijn64tab"], apart := false, laid := [("math/bits.deBruijn32tab", laid_math_bits_deBruijn32tab), ("math/bits.deBruijn64tab", laid_math_bits_deBruijn64tab)] }
def DishValidatesSaid : Prop := dishValidatesRow.holds Tryd.pinned (OpenSpec.ofChange dishValidatesSpec)

/-- ITS FALSE NEIGHBOUR: 'it returns false'. Refute it at one input. -/
def dishValidatesWrong : ChangeSpec := { name := "dishValidates", fn := fun _ => fun
  | [d] => { results := [.lit (.bool false)], args := [d] }
  | _ => none }
def DishValidatesWrongFalsely : Prop := dishValidatesRow.holds Tryd.pinned (OpenSpec.ofChange dishValidatesWrong)

/-- 'canteenlaw02.DishMenus': WHATEVER THE INPUT: true; the input reads as it did. -/
def dishMenusSpec : ChangeSpec := { name := "dishMenus", fn := fun _ => fun
  | [d1, d2] => { results := [.lit (.bool true)], args := [d1, d2] }
  | _ => none }
def dishMenusRow : OpenClaim := { program := "ytgoojcjfhghmgaadoor", sum := "ea9d5794a020968c1088774236d41ebb059b9f5009becf435fb97f162afd0ff5", func := "canteen/canteenlaw02.DishMenus", spec := "dishMenus", unfollowed := true, recurses := true, named := ["math/bits.deBruijn32tab", "math/bits.deBruijn64tab"], apart := false, laid := [("math/bits.deBruijn32tab", laid_math_bits_deBruijn32tab), ("math/bits.deBruijn64tab", laid_math_bits_deBruijn64tab)] }
def DishMenusSaid : Prop := dishMenusRow.holds Tryd.pinned (OpenSpec.ofChange dishMenusSpec)

/-- ITS FALSE NEIGHBOUR: 'it returns false'. Refute it at one input. -/
def dishMenusWrong : ChangeSpec := { name := "dishMenus", fn := fun _ => fun
  | [d1, d2] => { results := [.lit (.bool false)], args := [d1, d2] }
  | _ => none }
def DishMenusWrongFalsely : Prop := dishMenusRow.holds Tryd.pinned (OpenSpec.ofChange dishMenusWrong)

/-- 'canteenlaw02.DishLabels': WHATEVER THE INPUT: true; the input reads as it did. -/
def dishLabelsSpec : ChangeSpec := { name := "dishLabels", fn := fun _ => fun
  | [d1, d2] => { results := [.lit (.bool true)], args := [d1, d2] }
  | _ => none }
def dishLabelsRow : OpenClaim := { program := "ytgoojcjfhghmgaadoor", sum := "ea9d5794a020968c1088774236d41ebb059b9f5009becf435fb97f162afd0ff5", func := "canteen/canteenlaw02.DishLabels", spec := "dishLabels", unfollowed := true, recurses := true, named := ["math/bits.deBruijn32tab", "math/bits.deBruijn64tab"], apart := false, laid := [("math/bits.deBruijn32tab", laid_math_bits_deBruijn32tab), ("math/bits.deBruijn64tab", laid_math_bits_deBruijn64tab)] }
def DishLabelsSaid : Prop := dishLabelsRow.holds Tryd.pinned (OpenSpec.ofChange dishLabelsSpec)

/-- ITS FALSE NEIGHBOUR: 'it returns false'. Refute it at one input. -/
def dishLabelsWrong : ChangeSpec := { name := "dishLabels", fn := fun _ => fun
  | [d1, d2] => { results := [.lit (.bool false)], args := [d1, d2] }
  | _ => none }
def DishLabelsWrongFalsely : Prop := dishLabelsRow.holds Tryd.pinned (OpenSpec.ofChange dishLabelsWrong)

/-- 'canteenlaw02.DishCloses': WHATEVER THE INPUT: true; the input reads as it did. -/
def dishClosesSpec : ChangeSpec := { name := "dishCloses", fn := fun _ => fun
  | [d1, d2] => { results := [.lit (.bool true)], args := [d1, d2] }
  | _ => none }
def dishClosesRow : OpenClaim := { program := "ytgoojcjfhghmgaadoor", sum := "ea9d5794a020968c1088774236d41ebb059b9f5009becf435fb97f162afd0ff5", func := "canteen/canteenlaw02.DishCloses", spec := "dishCloses", unfollowed := true, recurses := true, named := ["math/bits.deBruijn32tab", "math/bits.deBruijn64tab"], apart := false, laid := [("math/bits.deBruijn32tab", laid_math_bits_deBruijn32tab), ("math/bits.deBruijn64tab", laid_math_bits_deBruijn64tab)] }
def DishClosesSaid : Prop := dishClosesRow.holds Tryd.pinned (OpenSpec.ofChange dishClosesSpec)

/-- ITS FALSE NEIGHBOUR: 'it returns false'. Refute it at one input. -/
def dishClosesWrong : ChangeSpec := { name := "dishCloses", fn := fun _ => fun
  | [d1, d2] => { results := [.lit (.bool false)], args := [d1, d2] }
  | _ => none }
def DishClosesWrongFalsely : Prop := dishClosesRow.holds Tryd.pinned (OpenSpec.ofChange dishClosesWrong)

/-- 'canteenlaw02.DishFollows': WHATEVER THE INPUT: true; the input reads as it did. -/
def dishFollowsSpec : ChangeSpec := { name := "dishFollows", fn := fun _ => fun
  | [d1, d2, d3] => { results := [.lit (.bool true)], args := [d1, d2, d3] }
  | _ => none }
def dishFollowsRow : OpenClaim := { program := "ytgoojcjfhghmgaadoor", sum := "ea9d5794a020968c1088774236d41ebb059b9f5009becf435fb97f162afd0ff5", func := "canteen/canteenlaw02.DishFollows", spec := "dishFollows", unfollowed := true, recurses := true, named := ["math/bits.deBruijn32tab", "math/bits.deBruijn64tab"], apart := false, laid := [("math/bits.deBruijn32tab", laid_math_bits_deBruijn32tab), ("math/bits.deBruijn64tab", laid_math_bits_deBruijn64tab)] }
def DishFollowsSaid : Prop := dishFollowsRow.holds Tryd.pinned (OpenSpec.ofChange dishFollowsSpec)

/-- ITS FALSE NEIGHBOUR: 'it returns false'. Refute it at one input. -/
def dishFollowsWrong : ChangeSpec := { name := "dishFollows", fn := fun _ => fun
  | [d1, d2, d3] => { results := [.lit (.bool false)], args := [d1, d2, d3] }
  | _ => none }
def DishFollowsWrongFalsely : Prop := dishFollowsRow.holds Tryd.pinned (OpenSpec.ofChange dishFollowsWrong)

/-- 'canteenlaw02.DishTables': WHATEVER THE INPUT: true; the input reads as it did. -/
def dishTablesSpec : ChangeSpec := { name := "dishTables", fn := fun _ => fun
  | [d1, d2, d3] => { results := [.lit (.bool true)], args := [d1, d2, d3] }
  | _ => none }
def dishTablesRow : OpenClaim := { program := "ytgoojcjfhghmgaadoor", sum := "ea9d5794a020968c1088774236d41ebb059b9f5009becf435fb97f162afd0ff5", func := "canteen/canteenlaw02.DishTables", spec := "dishTables", unfollowed := true, recurses := true, named := ["math/bits.deBruijn32tab", "math/bits.deBruijn64tab"], apart := false, laid := [("math/bits.deBruijn32tab", laid_math_bits_deBruijn32tab), ("math/bits.deBruijn64tab", laid_math_bits_deBruijn64tab)] }
def DishTablesSaid : Prop := dishTablesRow.holds Tryd.pinned (OpenSpec.ofChange dishTablesSpec)

/-- ITS FALSE NEIGHBOUR: 'it returns false'. Refute it at one input. -/
def dishTablesWrong : ChangeSpec := { name := "dishTables", fn := fun _ => fun
  | [d1, d2, d3] => { results := [.lit (.bool false)], args := [d1, d2, d3] }
  | _ => none }
def DishTablesWrongFalsely : Prop := dishTablesRow.holds Tryd.pinned (OpenSpec.ofChange dishTablesWrong)

/-- 'canteenlaw02.DishExplains': WHATEVER THE INPUT: true; the input reads as it did. -/
def dishExplainsSpec : ChangeSpec := { name := "dishExplains", fn := fun _ => fun
  | [d1, d2] => { results := [.lit (.bool true)], args := [d1, d2] }
  | _ => none }
def dishExplainsRow : OpenClaim := { program := "ytgoojcjfhghmgaadoor", sum := "ea9d5794a020968c1088774236d41ebb059b9f5009becf435fb97f162afd0ff5", func := "canteen/canteenlaw02.DishExplains", spec := "dishExplains", unfollowed := true, recurses := true, named := ["math/bits.deBruijn32tab", "math/bits.deBruijn64tab"], apart := false, laid := [("math/bits.deBruijn32tab", laid_math_bits_deBruijn32tab), ("math/bits.deBruijn64tab", laid_math_bits_deBruijn64tab)] }
def DishExplainsSaid : Prop := dishExplainsRow.holds Tryd.pinned (OpenSpec.ofChange dishExplainsSpec)

/-- ITS FALSE NEIGHBOUR: 'it returns false'. Refute it at one input. -/
def dishExplainsWrong : ChangeSpec := { name := "dishExplains", fn := fun _ => fun
  | [d1, d2] => { results := [.lit (.bool false)], args := [d1, d2] }
  | _ => none }
def DishExplainsWrongFalsely : Prop := dishExplainsRow.holds Tryd.pinned (OpenSpec.ofChange dishExplainsWrong)

/-- 'canteenlaw02.DishPairs': WHATEVER THE INPUT: true; the input reads as it did. -/
def dishPairsSpec : ChangeSpec := { name := "dishPairs", fn := fun _ => fun
  | [d1, d2, d3] => { results := [.lit (.bool true)], args := [d1, d2, d3] }
  | _ => none }
def dishPairsRow : OpenClaim := { program := "ytgoojcjfhghmgaadoor", sum := "ea9d5794a020968c1088774236d41ebb059b9f5009becf435fb97f162afd0ff5", func := "canteen/canteenlaw02.DishPairs", spec := "dishPairs", unfollowed := true, recurses := true, named := ["math/bits.deBruijn32tab", "math/bits.deBruijn64tab"], apart := false, laid := [("math/bits.deBruijn32tab", laid_math_bits_deBruijn32tab), ("math/bits.deBruijn64tab", laid_math_bits_deBruijn64tab)] }
def DishPairsSaid : Prop := dishPairsRow.holds Tryd.pinned (OpenSpec.ofChange dishPairsSpec)

/-- ITS FALSE NEIGHBOUR: 'it returns false'. Refute it at one input. -/
def dishPairsWrong : ChangeSpec := { name := "dishPairs", fn := fun _ => fun
  | [d1, d2, d3] => { results := [.lit (.bool false)], args := [d1, d2, d3] }
  | _ => none }
def DishPairsWrongFalsely : Prop := dishPairsRow.holds Tryd.pinned (OpenSpec.ofChange dishPairsWrong)

/-- 'canteenlaw02.DishProofs': WHATEVER THE INPUT: true; the input reads as it did. -/
def dishProofsSpec : ChangeSpec := { name := "dishProofs", fn := fun _ => fun
  | [d1, d2, d3] => { results := [.lit (.bool true)], args := [d1, d2, d3] }
  | _ => none }
def dishProofsRow : OpenClaim := { program := "ytgoojcjfhghmgaadoor", sum := "ea9d5794a020968c1088774236d41ebb059b9f5009becf435fb97f162afd0ff5", func := "canteen/canteenlaw02.DishProofs", spec := "dishProofs", unfollowed := true, recurses := true, named := ["math/bits.deBruijn32tab", "math/bits.deBruijn64tab"], apart := false, laid := [("math/bits.deBruijn32tab", laid_math_bits_deBruijn32tab), ("math/bits.deBruijn64tab", laid_math_bits_deBruijn64tab)] }
def DishProofsSaid : Prop := dishProofsRow.holds Tryd.pinned (OpenSpec.ofChange dishProofsSpec)

/-- ITS FALSE NEIGHBOUR: 'it returns false'. Refute it at one input. -/
def dishProofsWrong : ChangeSpec := { name := "dishProofs", fn := fun _ => fun
  | [d1, d2, d3] => { results := [.lit (.bool false)], args := [d1, d2, d3] }
  | _ => none }
def DishProofsWrongFalsely : Prop := dishProofsRow.holds Tryd.pinned (OpenSpec.ofChange dishProofsWrong)

/-- 'canteenlaw02.DishReduces': WHATEVER THE INPUT: true; the input reads as it did. -/
def dishReducesSpec : ChangeSpec := { name := "dishReduces", fn := fun _ => fun
  | [d1, d2] => { results := [.lit (.bool true)], args := [d1, d2] }
  | _ => none }
def dishReducesRow : OpenClaim := { program := "ytgoojcjfhghmgaadoor", sum := "ea9d5794a020968c1088774236d41ebb059b9f5009becf435fb97f162afd0ff5", func := "canteen/canteenlaw02.DishReduces", spec := "dishReduces", unfollowed := true, recurses := true, named := ["math/bits.deBruijn32tab", "math/bits.deBruijn64tab"], apart := false, laid := [("math/bits.deBruijn32tab", laid_math_bits_deBruijn32tab), ("math/bits.deBruijn64tab", laid_math_bits_deBruijn64tab)] }
def DishReducesSaid : Prop := dishReducesRow.holds Tryd.pinned (OpenSpec.ofChange dishReducesSpec)

/-- ITS FALSE NEIGHBOUR: 'it returns false'. Refute it at one input. -/
def dishReducesWrong : ChangeSpec := { name := "dishReduces", fn := fun _ => fun
  | [d1, d2] => { results := [.lit (.bool false)], args := [d1, d2] }
  | _ => none }
def DishReducesWrongFalsely : Prop := dishReducesRow.holds Tryd.pinned (OpenSpec.ofChange dishReducesWrong)

/-- 'canteenlaw02.DishExchanges': WHATEVER THE INPUT: true; the input reads as it did. -/
def dishExchangesSpec : ChangeSpec := { name := "dishExchanges", fn := fun _ => fun
  | [d1, d2] => { results := [.lit (.bool true)], args := [d1, d2] }
  | _ => none }
def dishExchangesRow : OpenClaim := { program := "ytgoojcjfhghmgaadoor", sum := "ea9d5794a020968c1088774236d41ebb059b9f5009becf435fb97f162afd0ff5", func := "canteen/canteenlaw02.DishExchanges", spec := "dishExchanges", unfollowed := true, recurses := true, named := ["math/bits.deBruijn32tab", "math/bits.deBruijn64tab"], apart := false, laid := [("math/bits.deBruijn32tab", laid_math_bits_deBruijn32tab), ("math/bits.deBruijn64tab", laid_math_bits_deBruijn64tab)] }
def DishExchangesSaid : Prop := dishExchangesRow.holds Tryd.pinned (OpenSpec.ofChange dishExchangesSpec)

/-- ITS FALSE NEIGHBOUR: 'it returns false'. Refute it at one input. -/
def dishExchangesWrong : ChangeSpec := { name := "dishExchanges", fn := fun _ => fun
  | [d1, d2] => { results := [.lit (.bool false)], args := [d1, d2] }
  | _ => none }
def DishExchangesWrongFalsely : Prop := dishExchangesRow.holds Tryd.pinned (OpenSpec.ofChange dishExchangesWrong)

/-- 'canteenlaw02.DishShortest': WHATEVER THE INPUT: true; the input reads as it did. -/
def dishShortestSpec : ChangeSpec := { name := "dishShortest", fn := fun _ => fun
  | [d1, d2] => { results := [.lit (.bool true)], args := [d1, d2] }
  | _ => none }
def dishShortestRow : OpenClaim := { program := "ytgoojcjfhghmgaadoor", sum := "ea9d5794a020968c1088774236d41ebb059b9f5009becf435fb97f162afd0ff5", func := "canteen/canteenlaw02.DishShortest", spec := "dishShortest", unfollowed := true, recurses := true, named := ["math/bits.deBruijn32tab", "math/bits.deBruijn64tab"], apart := false, laid := [("math/bits.deBruijn32tab", laid_math_bits_deBruijn32tab), ("math/bits.deBruijn64tab", laid_math_bits_deBruijn64tab)] }
def DishShortestSaid : Prop := dishShortestRow.holds Tryd.pinned (OpenSpec.ofChange dishShortestSpec)

/-- ITS FALSE NEIGHBOUR: 'it returns false'. Refute it at one input. -/
def dishShortestWrong : ChangeSpec := { name := "dishShortest", fn := fun _ => fun
  | [d1, d2] => { results := [.lit (.bool false)], args := [d1, d2] }
  | _ => none }
def DishShortestWrongFalsely : Prop := dishShortestRow.holds Tryd.pinned (OpenSpec.ofChange dishShortestWrong)

/-- 'canteenlaw02.DishFewest': WHATEVER THE INPUT: true; the input reads as it did. -/
def dishFewestSpec : ChangeSpec := { name := "dishFewest", fn := fun _ => fun
  | [d1, d2, d3] => { results := [.lit (.bool true)], args := [d1, d2, d3] }
  | _ => none }
def dishFewestRow : OpenClaim := { program := "ytgoojcjfhghmgaadoor", sum := "ea9d5794a020968c1088774236d41ebb059b9f5009becf435fb97f162afd0ff5", func := "canteen/canteenlaw02.DishFewest", spec := "dishFewest", unfollowed := true, recurses := true, named := ["math/bits.deBruijn32tab", "math/bits.deBruijn64tab"], apart := false, laid := [("math/bits.deBruijn32tab", laid_math_bits_deBruijn32tab), ("math/bits.deBruijn64tab", laid_math_bits_deBruijn64tab)] }
def DishFewestSaid : Prop := dishFewestRow.holds Tryd.pinned (OpenSpec.ofChange dishFewestSpec)

/-- ITS FALSE NEIGHBOUR: 'it returns false'. Refute it at one input. -/
def dishFewestWrong : ChangeSpec := { name := "dishFewest", fn := fun _ => fun
  | [d1, d2, d3] => { results := [.lit (.bool false)], args := [d1, d2, d3] }
  | _ => none }
def DishFewestWrongFalsely : Prop := dishFewestRow.holds Tryd.pinned (OpenSpec.ofChange dishFewestWrong)

/-- 'canteentop.TopLabels': WHATEVER THE INPUT: true; the input reads as it did. -/
def topLabelsSpec : ChangeSpec := { name := "topLabels", fn := fun _ => fun
  | [d1, d2, d3] => { results := [.lit (.bool true)], args := [d1, d2, d3] }
  | _ => none }
def topLabelsRow : OpenClaim := { program := "ytgoojcjfhghmgaadoor", sum := "ea9d5794a020968c1088774236d41ebb059b9f5009becf435fb97f162afd0ff5", func := "canteen/canteentop.TopLabels", spec := "topLabels", unfollowed := true, recurses := true, named := ["math/bits.deBruijn32tab", "math/bits.deBruijn64tab"], apart := false, laid := [("math/bits.deBruijn32tab", laid_math_bits_deBruijn32tab), ("math/bits.deBruijn64tab", laid_math_bits_deBruijn64tab)] }
def TopLabelsSaid : Prop := topLabelsRow.holds Tryd.pinned (OpenSpec.ofChange topLabelsSpec)

/-- ITS FALSE NEIGHBOUR: 'it returns false'. Refute it at one input. -/
def topLabelsWrong : ChangeSpec := { name := "topLabels", fn := fun _ => fun
  | [d1, d2, d3] => { results := [.lit (.bool false)], args := [d1, d2, d3] }
  | _ => none }
def TopLabelsWrongFalsely : Prop := topLabelsRow.holds Tryd.pinned (OpenSpec.ofChange topLabelsWrong)

/- THE SECOND FORM. 'bulk': how many values and letters a reading holds, each counted each time it is reached (what is shared counts as often as it is met; a slice's spare places count too). A statement '..UptoSaid' is the law's where the arguments, and the package variables that the reading takes, are together of bulk at most 1048576: NARROWER than '..Said'. Prove '..Said' where nothing that the law and all that it calls make is longer than what came in: it says more and counts as full. Else prove '..UptoSaid'. A law counts once. -/
mutual
def uptoBulk {H : Type} : DataW H → Nat
  | .lit (.string bytes) => bytes.length + 1
  | .lit _ => 1
  | .nil => 1
  | .ptr d => uptoBulk d + 1
  | .slice elems spare => uptoBulkAll elems + uptoBulkAll spare + 1
  | .agg parts => uptoBulkAll parts + 1
  | .iface _ d => uptoBulk d + 1
  | .map entries => uptoBulkEntries entries + 1
  | .held _ => 1
def uptoBulkAll {H : Type} : List (DataW H) → Nat
  | [] => 0
  | d :: r => uptoBulk d + uptoBulkAll r
def uptoBulkEntries {H : Type} : List (Lit × DataW H) → Nat
  | [] => 0
  | x :: r => uptoBulkEntry x + uptoBulkEntries r
def uptoBulkEntry {H : Type} : Lit × DataW H → Nat
  | (.string bytes, d) => bytes.length + uptoBulk d + 1
  | (_, d) => uptoBulk d + 1
 end
def uptoSmall : (H : Type) → List (DataW H) → Bool := fun _ ds => decide (uptoBulkAll ds ≤ 1048576)
def OpenSpec.upto (s : _root_.Go.ChangeSpec) : _root_.Go.OpenSpec := { _root_.Go.OpenSpec.ofChange s with cond := some uptoSmall }

/-- 'canteenlaw02.DishValidates', WHERE WHAT IT READS IS OF BULK AT MOST 1048576: true; the input reads as it did. -/
def dishValidatesUptoRow : OpenClaim := { program := "ytgoojcjfhghmgaadoor", sum := "ea9d5794a020968c1088774236d41ebb059b9f5009becf435fb97f162afd0ff5", func := "canteen/canteenlaw02.DishValidates", spec := "dishValidates", unfollowed := true, recurses := true, named := ["math/bits.deBruijn32tab", "math/bits.deBruijn64tab"], apart := false, laid := [("math/bits.deBruijn32tab", laid_math_bits_deBruijn32tab), ("math/bits.deBruijn64tab", laid_math_bits_deBruijn64tab)], narrowed := true }
def DishValidatesUptoSaid : Prop := dishValidatesUptoRow.holds Tryd.pinned (OpenSpec.upto dishValidatesSpec)

/-- 'canteenlaw02.DishMenus', WHERE WHAT IT READS IS OF BULK AT MOST 1048576: true; the input reads as it did. -/
def dishMenusUptoRow : OpenClaim := { program := "ytgoojcjfhghmgaadoor", sum := "ea9d5794a020968c1088774236d41ebb059b9f5009becf435fb97f162afd0ff5", func := "canteen/canteenlaw02.DishMenus", spec := "dishMenus", unfollowed := true, recurses := true, named := ["math/bits.deBruijn32tab", "math/bits.deBruijn64tab"], apart := false, laid := [("math/bits.deBruijn32tab", laid_math_bits_deBruijn32tab), ("math/bits.deBruijn64tab", laid_math_bits_deBruijn64tab)], narrowed := true }
def DishMenusUptoSaid : Prop := dishMenusUptoRow.holds Tryd.pinned (OpenSpec.upto dishMenusSpec)

/-- 'canteenlaw02.DishLabels', WHERE WHAT IT READS IS OF BULK AT MOST 1048576: true; the input reads as it did. -/
def dishLabelsUptoRow : OpenClaim := { program := "ytgoojcjfhghmgaadoor", sum := "ea9d5794a020968c1088774236d41ebb059b9f5009becf435fb97f162afd0ff5", func := "canteen/canteenlaw02.DishLabels", spec := "dishLabels", unfollowed := true, recurses := true, named := ["math/bits.deBruijn32tab", "math/bits.deBruijn64tab"], apart := false, laid := [("math/bits.deBruijn32tab", laid_math_bits_deBruijn32tab), ("math/bits.deBruijn64tab", laid_math_bits_deBruijn64tab)], narrowed := true }
def DishLabelsUptoSaid : Prop := dishLabelsUptoRow.holds Tryd.pinned (OpenSpec.upto dishLabelsSpec)

/-- 'canteenlaw02.DishCloses', WHERE WHAT IT READS IS OF BULK AT MOST 1048576: true; the input reads as it did. -/
def dishClosesUptoRow : OpenClaim := { program := "ytgoojcjfhghmgaadoor", sum := "ea9d5794a020968c1088774236d41ebb059b9f5009becf435fb97f162afd0ff5", func := "canteen/canteenlaw02.DishCloses", spec := "dishCloses", unfollowed := true, recurses := true, named := ["math/bits.deBruijn32tab", "math/bits.deBruijn64tab"], apart := false, laid := [("math/bits.deBruijn32tab", laid_math_bits_deBruijn32tab), ("math/bits.deBruijn64tab", laid_math_bits_deBruijn64tab)], narrowed := true }
def DishClosesUptoSaid : Prop := dishClosesUptoRow.holds Tryd.pinned (OpenSpec.upto dishClosesSpec)

/-- 'canteenlaw02.DishFollows', WHERE WHAT IT READS IS OF BULK AT MOST 1048576: true; the input reads as it did. -/
def dishFollowsUptoRow : OpenClaim := { program := "ytgoojcjfhghmgaadoor", sum := "ea9d5794a020968c1088774236d41ebb059b9f5009becf435fb97f162afd0ff5", func := "canteen/canteenlaw02.DishFollows", spec := "dishFollows", unfollowed := true, recurses := true, named := ["math/bits.deBruijn32tab", "math/bits.deBruijn64tab"], apart := false, laid := [("math/bits.deBruijn32tab", laid_math_bits_deBruijn32tab), ("math/bits.deBruijn64tab", laid_math_bits_deBruijn64tab)], narrowed := true }
def DishFollowsUptoSaid : Prop := dishFollowsUptoRow.holds Tryd.pinned (OpenSpec.upto dishFollowsSpec)

/-- 'canteenlaw02.DishTables', WHERE WHAT IT READS IS OF BULK AT MOST 1048576: true; the input reads as it did. -/
def dishTablesUptoRow : OpenClaim := { program := "ytgoojcjfhghmgaadoor", sum := "ea9d5794a020968c1088774236d41ebb059b9f5009becf435fb97f162afd0ff5", func := "canteen/canteenlaw02.DishTables", spec := "dishTables", unfollowed := true, recurses := true, named := ["math/bits.deBruijn32tab", "math/bits.deBruijn64tab"], apart := false, laid := [("math/bits.deBruijn32tab", laid_math_bits_deBruijn32tab), ("math/bits.deBruijn64tab", laid_math_bits_deBruijn64tab)], narrowed := true }
def DishTablesUptoSaid : Prop := dishTablesUptoRow.holds Tryd.pinned (OpenSpec.upto dishTablesSpec)

/-- 'canteenlaw02.DishExplains', WHERE WHAT IT READS IS OF BULK AT MOST 1048576: true; the input reads as it did. -/
def dishExplainsUptoRow : OpenClaim := { program := "ytgoojcjfhghmgaadoor", sum := "ea9d5794a020968c1088774236d41ebb059b9f5009becf435fb97f162afd0ff5", func := "canteen/canteenlaw02.DishExplains", spec := "dishExplains", unfollowed := true, recurses := true, named := ["math/bits.deBruijn32tab", "math/bits.deBruijn64tab"], apart := false, laid := [("math/bits.deBruijn32tab", laid_math_bits_deBruijn32tab), ("math/bits.deBruijn64tab", laid_math_bits_deBruijn64tab)], narrowed := true }
def DishExplainsUptoSaid : Prop := dishExplainsUptoRow.holds Tryd.pinned (OpenSpec.upto dishExplainsSpec)

/-- 'canteenlaw02.DishPairs', WHERE WHAT IT READS IS OF BULK AT MOST 1048576: true; the input reads as it did. -/
def dishPairsUptoRow : OpenClaim := { program := "ytgoojcjfhghmgaadoor", sum := "ea9d5794a020968c1088774236d41ebb059b9f5009becf435fb97f162afd0ff5", func := "canteen/canteenlaw02.DishPairs", spec := "dishPairs", unfollowed := true, recurses := true, named := ["math/bits.deBruijn32tab", "math/bits.deBruijn64tab"], apart := false, laid := [("math/bits.deBruijn32tab", laid_math_bits_deBruijn32tab), ("math/bits.deBruijn64tab", laid_math_bits_deBruijn64tab)], narrowed := true }
def DishPairsUptoSaid : Prop := dishPairsUptoRow.holds Tryd.pinned (OpenSpec.upto dishPairsSpec)

/-- 'canteenlaw02.DishProofs', WHERE WHAT IT READS IS OF BULK AT MOST 1048576: true; the input reads as it did. -/
def dishProofsUptoRow : OpenClaim := { program := "ytgoojcjfhghmgaadoor", sum := "ea9d5794a020968c1088774236d41ebb059b9f5009becf435fb97f162afd0ff5", func := "canteen/canteenlaw02.DishProofs", spec := "dishProofs", unfollowed := true, recurses := true, named := ["math/bits.deBruijn32tab", "math/bits.deBruijn64tab"], apart := false, laid := [("math/bits.deBruijn32tab", laid_math_bits_deBruijn32tab), ("math/bits.deBruijn64tab", laid_math_bits_deBruijn64tab)], narrowed := true }
def DishProofsUptoSaid : Prop := dishProofsUptoRow.holds Tryd.pinned (OpenSpec.upto dishProofsSpec)

/-- 'canteenlaw02.DishReduces', WHERE WHAT IT READS IS OF BULK AT MOST 1048576: true; the input reads as it did. -/
def dishReducesUptoRow : OpenClaim := { program := "ytgoojcjfhghmgaadoor", sum := "ea9d5794a020968c1088774236d41ebb059b9f5009becf435fb97f162afd0ff5", func := "canteen/canteenlaw02.DishReduces", spec := "dishReduces", unfollowed := true, recurses := true, named := ["math/bits.deBruijn32tab", "math/bits.deBruijn64tab"], apart := false, laid := [("math/bits.deBruijn32tab", laid_math_bits_deBruijn32tab), ("math/bits.deBruijn64tab", laid_math_bits_deBruijn64tab)], narrowed := true }
def DishReducesUptoSaid : Prop := dishReducesUptoRow.holds Tryd.pinned (OpenSpec.upto dishReducesSpec)

/-- 'canteenlaw02.DishExchanges', WHERE WHAT IT READS IS OF BULK AT MOST 1048576: true; the input reads as it did. -/
def dishExchangesUptoRow : OpenClaim := { program := "ytgoojcjfhghmgaadoor", sum := "ea9d5794a020968c1088774236d41ebb059b9f5009becf435fb97f162afd0ff5", func := "canteen/canteenlaw02.DishExchanges", spec := "dishExchanges", unfollowed := true, recurses := true, named := ["math/bits.deBruijn32tab", "math/bits.deBruijn64tab"], apart := false, laid := [("math/bits.deBruijn32tab", laid_math_bits_deBruijn32tab), ("math/bits.deBruijn64tab", laid_math_bits_deBruijn64tab)], narrowed := true }
def DishExchangesUptoSaid : Prop := dishExchangesUptoRow.holds Tryd.pinned (OpenSpec.upto dishExchangesSpec)

/-- 'canteenlaw02.DishShortest', WHERE WHAT IT READS IS OF BULK AT MOST 1048576: true; the input reads as it did. -/
def dishShortestUptoRow : OpenClaim := { program := "ytgoojcjfhghmgaadoor", sum := "ea9d5794a020968c1088774236d41ebb059b9f5009becf435fb97f162afd0ff5", func := "canteen/canteenlaw02.DishShortest", spec := "dishShortest", unfollowed := true, recurses := true, named := ["math/bits.deBruijn32tab", "math/bits.deBruijn64tab"], apart := false, laid := [("math/bits.deBruijn32tab", laid_math_bits_deBruijn32tab), ("math/bits.deBruijn64tab", laid_math_bits_deBruijn64tab)], narrowed := true }
def DishShortestUptoSaid : Prop := dishShortestUptoRow.holds Tryd.pinned (OpenSpec.upto dishShortestSpec)

/-- 'canteenlaw02.DishFewest', WHERE WHAT IT READS IS OF BULK AT MOST 1048576: true; the input reads as it did. -/
def dishFewestUptoRow : OpenClaim := { program := "ytgoojcjfhghmgaadoor", sum := "ea9d5794a020968c1088774236d41ebb059b9f5009becf435fb97f162afd0ff5", func := "canteen/canteenlaw02.DishFewest", spec := "dishFewest", unfollowed := true, recurses := true, named := ["math/bits.deBruijn32tab", "math/bits.deBruijn64tab"], apart := false, laid := [("math/bits.deBruijn32tab", laid_math_bits_deBruijn32tab), ("math/bits.deBruijn64tab", laid_math_bits_deBruijn64tab)], narrowed := true }
def DishFewestUptoSaid : Prop := dishFewestUptoRow.holds Tryd.pinned (OpenSpec.upto dishFewestSpec)

/-- 'canteentop.TopLabels', WHERE WHAT IT READS IS OF BULK AT MOST 1048576: true; the input reads as it did. -/
def topLabelsUptoRow : OpenClaim := { program := "ytgoojcjfhghmgaadoor", sum := "ea9d5794a020968c1088774236d41ebb059b9f5009becf435fb97f162afd0ff5", func := "canteen/canteentop.TopLabels", spec := "topLabels", unfollowed := true, recurses := true, named := ["math/bits.deBruijn32tab", "math/bits.deBruijn64tab"], apart := false, laid := [("math/bits.deBruijn32tab", laid_math_bits_deBruijn32tab), ("math/bits.deBruijn64tab", laid_math_bits_deBruijn64tab)], narrowed := true }
def TopLabelsUptoSaid : Prop := topLabelsUptoRow.holds Tryd.pinned (OpenSpec.upto topLabelsSpec)

end Rows
end Go.Proofs.YtgoojcjfhghmgaaDoor
