/-
  DERIVED. GIVEN WITH THE SEED: THE CARDS: each row of YtgoojcjfhghmgaaDoorRows.lean that lists a variable, with what it lists TIED to the program's text (the seventh form; the later family's looks); each row that meets fmt, with fmt's text TOLD by the authors' own Lean function (tested against real Go, not proved from fmt's source: count such statements apart). THE CARD IS WHAT COUNTS. Prove the row's statement (the work); the ties are given (YtgoojcjfhghmgaaDoorTie.lean); close each card by the builder's one call (the guide's Derived/Test/ToyasCard.lean, 'card_holds'). Laid BY PROGRAM, IN A SANDBOX (cutbox-door.mjs). By AI agents, Wed Nov 11 2026. No macro, syntax, notation, axiom, sorry.
-/
import Derived.Test.YtgoojcjfhghmgaaDoorRows
import GoSem.ClaimSeven
namespace Go.Proofs.YtgoojcjfhghmgaaDoor
namespace Rows

/-- THE TIED CARD OF 'canteenlaw02.DishValidates'. -/
def dishValidatesCard : Claim7 := { stood := { row := dishValidatesRow, standIns := [], harness := (true, "8c487879d048aae23dd660c744b71e8b4582616f73d0860a610df5222bf65492"), looks := false }, kinds := [], alts := [], laidByText := true, laidKinds := [.data, .data], laidTests := true, laidLooks := .later }
def DishValidatesCardSaid : Prop := Claim7.holds Tryd.pinned (.plain (OpenSpec.ofChange dishValidatesSpec)) dishValidatesCard

/-- THE TIED CARD OF 'canteenlaw02.DishMenus'. -/
def dishMenusCard : Claim7 := { stood := { row := dishMenusRow, standIns := [], harness := (true, "8c487879d048aae23dd660c744b71e8b4582616f73d0860a610df5222bf65492"), looks := false }, kinds := [], alts := [], laidByText := true, laidKinds := [.data, .data], laidTests := true, laidLooks := .later }
def DishMenusCardSaid : Prop := Claim7.holds Tryd.pinned (.plain (OpenSpec.ofChange dishMenusSpec)) dishMenusCard

/-- THE TIED CARD OF 'canteenlaw02.DishLabels'. -/
def dishLabelsCard : Claim7 := { stood := { row := dishLabelsRow, standIns := [], harness := (true, "8c487879d048aae23dd660c744b71e8b4582616f73d0860a610df5222bf65492"), looks := false }, kinds := [], alts := [], laidByText := true, laidKinds := [.data, .data], laidTests := true, laidLooks := .later }
def DishLabelsCardSaid : Prop := Claim7.holds Tryd.pinned (.plain (OpenSpec.ofChange dishLabelsSpec)) dishLabelsCard

/-- THE TIED CARD OF 'canteenlaw02.DishCloses'. -/
def dishClosesCard : Claim7 := { stood := { row := dishClosesRow, standIns := [], harness := (true, "8c487879d048aae23dd660c744b71e8b4582616f73d0860a610df5222bf65492"), looks := false }, kinds := [], alts := [], laidByText := true, laidKinds := [.data, .data], laidTests := true, laidLooks := .later }
def DishClosesCardSaid : Prop := Claim7.holds Tryd.pinned (.plain (OpenSpec.ofChange dishClosesSpec)) dishClosesCard

/-- THE TIED CARD OF 'canteenlaw02.DishFollows'. -/
def dishFollowsCard : Claim7 := { stood := { row := dishFollowsRow, standIns := [], harness := (true, "8c487879d048aae23dd660c744b71e8b4582616f73d0860a610df5222bf65492"), looks := false }, kinds := [], alts := [], laidByText := true, laidKinds := [.data, .data], laidTests := true, laidLooks := .later }
def DishFollowsCardSaid : Prop := Claim7.holds Tryd.pinned (.plain (OpenSpec.ofChange dishFollowsSpec)) dishFollowsCard

/-- THE TIED CARD OF 'canteenlaw02.DishTables'. -/
def dishTablesCard : Claim7 := { stood := { row := dishTablesRow, standIns := [], harness := (true, "8c487879d048aae23dd660c744b71e8b4582616f73d0860a610df5222bf65492"), looks := false }, kinds := [], alts := [], laidByText := true, laidKinds := [.data, .data], laidTests := true, laidLooks := .later }
def DishTablesCardSaid : Prop := Claim7.holds Tryd.pinned (.plain (OpenSpec.ofChange dishTablesSpec)) dishTablesCard

/-- THE TIED CARD OF 'canteenlaw02.DishExplains'. -/
def dishExplainsCard : Claim7 := { stood := { row := dishExplainsRow, standIns := [], harness := (true, "8c487879d048aae23dd660c744b71e8b4582616f73d0860a610df5222bf65492"), looks := false }, kinds := [], alts := [], laidByText := true, laidKinds := [.data, .data], laidTests := true, laidLooks := .later }
def DishExplainsCardSaid : Prop := Claim7.holds Tryd.pinned (.plain (OpenSpec.ofChange dishExplainsSpec)) dishExplainsCard

/-- THE TIED CARD OF 'canteenlaw02.DishPairs'. -/
def dishPairsCard : Claim7 := { stood := { row := dishPairsRow, standIns := [], harness := (true, "8c487879d048aae23dd660c744b71e8b4582616f73d0860a610df5222bf65492"), looks := false }, kinds := [], alts := [], laidByText := true, laidKinds := [.data, .data], laidTests := true, laidLooks := .later }
def DishPairsCardSaid : Prop := Claim7.holds Tryd.pinned (.plain (OpenSpec.ofChange dishPairsSpec)) dishPairsCard

/-- THE TIED CARD OF 'canteenlaw02.DishProofs'. -/
def dishProofsCard : Claim7 := { stood := { row := dishProofsRow, standIns := [], harness := (true, "8c487879d048aae23dd660c744b71e8b4582616f73d0860a610df5222bf65492"), looks := false }, kinds := [], alts := [], laidByText := true, laidKinds := [.data, .data], laidTests := true, laidLooks := .later }
def DishProofsCardSaid : Prop := Claim7.holds Tryd.pinned (.plain (OpenSpec.ofChange dishProofsSpec)) dishProofsCard

/-- THE TIED CARD OF 'canteenlaw02.DishReduces'. -/
def dishReducesCard : Claim7 := { stood := { row := dishReducesRow, standIns := [], harness := (true, "8c487879d048aae23dd660c744b71e8b4582616f73d0860a610df5222bf65492"), looks := false }, kinds := [], alts := [], laidByText := true, laidKinds := [.data, .data], laidTests := true, laidLooks := .later }
def DishReducesCardSaid : Prop := Claim7.holds Tryd.pinned (.plain (OpenSpec.ofChange dishReducesSpec)) dishReducesCard

/-- THE TIED CARD OF 'canteenlaw02.DishExchanges'. -/
def dishExchangesCard : Claim7 := { stood := { row := dishExchangesRow, standIns := [], harness := (true, "8c487879d048aae23dd660c744b71e8b4582616f73d0860a610df5222bf65492"), looks := false }, kinds := [], alts := [], laidByText := true, laidKinds := [.data, .data], laidTests := true, laidLooks := .later }
def DishExchangesCardSaid : Prop := Claim7.holds Tryd.pinned (.plain (OpenSpec.ofChange dishExchangesSpec)) dishExchangesCard

/-- THE TIED CARD OF 'canteenlaw02.DishShortest'. -/
def dishShortestCard : Claim7 := { stood := { row := dishShortestRow, standIns := [], harness := (true, "8c487879d048aae23dd660c744b71e8b4582616f73d0860a610df5222bf65492"), looks := false }, kinds := [], alts := [], laidByText := true, laidKinds := [.data, .data], laidTests := true, laidLooks := .later }
def DishShortestCardSaid : Prop := Claim7.holds Tryd.pinned (.plain (OpenSpec.ofChange dishShortestSpec)) dishShortestCard

/-- THE TIED CARD OF 'canteenlaw02.DishFewest'. -/
def dishFewestCard : Claim7 := { stood := { row := dishFewestRow, standIns := [], harness := (true, "8c487879d048aae23dd660c744b71e8b4582616f73d0860a610df5222bf65492"), looks := false }, kinds := [], alts := [], laidByText := true, laidKinds := [.data, .data], laidTests := true, laidLooks := .later }
def DishFewestCardSaid : Prop := Claim7.holds Tryd.pinned (.plain (OpenSpec.ofChange dishFewestSpec)) dishFewestCard

/-- THE TIED CARD OF 'canteentop.TopLabels'. -/
def topLabelsCard : Claim7 := { stood := { row := topLabelsRow, standIns := [], harness := (true, "8c487879d048aae23dd660c744b71e8b4582616f73d0860a610df5222bf65492"), looks := false }, kinds := [], alts := [], laidByText := true, laidKinds := [.data, .data], laidTests := true, laidLooks := .later }
def TopLabelsCardSaid : Prop := Claim7.holds Tryd.pinned (.plain (OpenSpec.ofChange topLabelsSpec)) topLabelsCard

/-- THE SECOND FORM's CARD OF 'canteenlaw02.DishValidates'. -/
def dishValidatesUptoCard : Claim7 := { stood := { row := dishValidatesUptoRow, standIns := [], harness := (true, "8c487879d048aae23dd660c744b71e8b4582616f73d0860a610df5222bf65492"), looks := false }, kinds := [], alts := [], laidByText := true, laidKinds := [.data, .data], laidTests := true, laidLooks := .later }
def DishValidatesUptoCardSaid : Prop := Claim7.holds Tryd.pinned (.plain (OpenSpec.upto dishValidatesSpec)) dishValidatesUptoCard

/-- THE SECOND FORM's CARD OF 'canteenlaw02.DishMenus'. -/
def dishMenusUptoCard : Claim7 := { stood := { row := dishMenusUptoRow, standIns := [], harness := (true, "8c487879d048aae23dd660c744b71e8b4582616f73d0860a610df5222bf65492"), looks := false }, kinds := [], alts := [], laidByText := true, laidKinds := [.data, .data], laidTests := true, laidLooks := .later }
def DishMenusUptoCardSaid : Prop := Claim7.holds Tryd.pinned (.plain (OpenSpec.upto dishMenusSpec)) dishMenusUptoCard

/-- THE SECOND FORM's CARD OF 'canteenlaw02.DishLabels'. -/
def dishLabelsUptoCard : Claim7 := { stood := { row := dishLabelsUptoRow, standIns := [], harness := (true, "8c487879d048aae23dd660c744b71e8b4582616f73d0860a610df5222bf65492"), looks := false }, kinds := [], alts := [], laidByText := true, laidKinds := [.data, .data], laidTests := true, laidLooks := .later }
def DishLabelsUptoCardSaid : Prop := Claim7.holds Tryd.pinned (.plain (OpenSpec.upto dishLabelsSpec)) dishLabelsUptoCard

/-- THE SECOND FORM's CARD OF 'canteenlaw02.DishCloses'. -/
def dishClosesUptoCard : Claim7 := { stood := { row := dishClosesUptoRow, standIns := [], harness := (true, "8c487879d048aae23dd660c744b71e8b4582616f73d0860a610df5222bf65492"), looks := false }, kinds := [], alts := [], laidByText := true, laidKinds := [.data, .data], laidTests := true, laidLooks := .later }
def DishClosesUptoCardSaid : Prop := Claim7.holds Tryd.pinned (.plain (OpenSpec.upto dishClosesSpec)) dishClosesUptoCard

/-- THE SECOND FORM's CARD OF 'canteenlaw02.DishFollows'. -/
def dishFollowsUptoCard : Claim7 := { stood := { row := dishFollowsUptoRow, standIns := [], harness := (true, "8c487879d048aae23dd660c744b71e8b4582616f73d0860a610df5222bf65492"), looks := false }, kinds := [], alts := [], laidByText := true, laidKinds := [.data, .data], laidTests := true, laidLooks := .later }
def DishFollowsUptoCardSaid : Prop := Claim7.holds Tryd.pinned (.plain (OpenSpec.upto dishFollowsSpec)) dishFollowsUptoCard

/-- THE SECOND FORM's CARD OF 'canteenlaw02.DishTables'. -/
def dishTablesUptoCard : Claim7 := { stood := { row := dishTablesUptoRow, standIns := [], harness := (true, "8c487879d048aae23dd660c744b71e8b4582616f73d0860a610df5222bf65492"), looks := false }, kinds := [], alts := [], laidByText := true, laidKinds := [.data, .data], laidTests := true, laidLooks := .later }
def DishTablesUptoCardSaid : Prop := Claim7.holds Tryd.pinned (.plain (OpenSpec.upto dishTablesSpec)) dishTablesUptoCard

/-- THE SECOND FORM's CARD OF 'canteenlaw02.DishExplains'. -/
def dishExplainsUptoCard : Claim7 := { stood := { row := dishExplainsUptoRow, standIns := [], harness := (true, "8c487879d048aae23dd660c744b71e8b4582616f73d0860a610df5222bf65492"), looks := false }, kinds := [], alts := [], laidByText := true, laidKinds := [.data, .data], laidTests := true, laidLooks := .later }
def DishExplainsUptoCardSaid : Prop := Claim7.holds Tryd.pinned (.plain (OpenSpec.upto dishExplainsSpec)) dishExplainsUptoCard

/-- THE SECOND FORM's CARD OF 'canteenlaw02.DishPairs'. -/
def dishPairsUptoCard : Claim7 := { stood := { row := dishPairsUptoRow, standIns := [], harness := (true, "8c487879d048aae23dd660c744b71e8b4582616f73d0860a610df5222bf65492"), looks := false }, kinds := [], alts := [], laidByText := true, laidKinds := [.data, .data], laidTests := true, laidLooks := .later }
def DishPairsUptoCardSaid : Prop := Claim7.holds Tryd.pinned (.plain (OpenSpec.upto dishPairsSpec)) dishPairsUptoCard

/-- THE SECOND FORM's CARD OF 'canteenlaw02.DishProofs'. -/
def dishProofsUptoCard : Claim7 := { stood := { row := dishProofsUptoRow, standIns := [], harness := (true, "8c487879d048aae23dd660c744b71e8b4582616f73d0860a610df5222bf65492"), looks := false }, kinds := [], alts := [], laidByText := true, laidKinds := [.data, .data], laidTests := true, laidLooks := .later }
def DishProofsUptoCardSaid : Prop := Claim7.holds Tryd.pinned (.plain (OpenSpec.upto dishProofsSpec)) dishProofsUptoCard

/-- THE SECOND FORM's CARD OF 'canteenlaw02.DishReduces'. -/
def dishReducesUptoCard : Claim7 := { stood := { row := dishReducesUptoRow, standIns := [], harness := (true, "8c487879d048aae23dd660c744b71e8b4582616f73d0860a610df5222bf65492"), looks := false }, kinds := [], alts := [], laidByText := true, laidKinds := [.data, .data], laidTests := true, laidLooks := .later }
def DishReducesUptoCardSaid : Prop := Claim7.holds Tryd.pinned (.plain (OpenSpec.upto dishReducesSpec)) dishReducesUptoCard

/-- THE SECOND FORM's CARD OF 'canteenlaw02.DishExchanges'. -/
def dishExchangesUptoCard : Claim7 := { stood := { row := dishExchangesUptoRow, standIns := [], harness := (true, "8c487879d048aae23dd660c744b71e8b4582616f73d0860a610df5222bf65492"), looks := false }, kinds := [], alts := [], laidByText := true, laidKinds := [.data, .data], laidTests := true, laidLooks := .later }
def DishExchangesUptoCardSaid : Prop := Claim7.holds Tryd.pinned (.plain (OpenSpec.upto dishExchangesSpec)) dishExchangesUptoCard

/-- THE SECOND FORM's CARD OF 'canteenlaw02.DishShortest'. -/
def dishShortestUptoCard : Claim7 := { stood := { row := dishShortestUptoRow, standIns := [], harness := (true, "8c487879d048aae23dd660c744b71e8b4582616f73d0860a610df5222bf65492"), looks := false }, kinds := [], alts := [], laidByText := true, laidKinds := [.data, .data], laidTests := true, laidLooks := .later }
def DishShortestUptoCardSaid : Prop := Claim7.holds Tryd.pinned (.plain (OpenSpec.upto dishShortestSpec)) dishShortestUptoCard

/-- THE SECOND FORM's CARD OF 'canteenlaw02.DishFewest'. -/
def dishFewestUptoCard : Claim7 := { stood := { row := dishFewestUptoRow, standIns := [], harness := (true, "8c487879d048aae23dd660c744b71e8b4582616f73d0860a610df5222bf65492"), looks := false }, kinds := [], alts := [], laidByText := true, laidKinds := [.data, .data], laidTests := true, laidLooks := .later }
def DishFewestUptoCardSaid : Prop := Claim7.holds Tryd.pinned (.plain (OpenSpec.upto dishFewestSpec)) dishFewestUptoCard

/-- THE SECOND FORM's CARD OF 'canteentop.TopLabels'. -/
def topLabelsUptoCard : Claim7 := { stood := { row := topLabelsUptoRow, standIns := [], harness := (true, "8c487879d048aae23dd660c744b71e8b4582616f73d0860a610df5222bf65492"), looks := false }, kinds := [], alts := [], laidByText := true, laidKinds := [.data, .data], laidTests := true, laidLooks := .later }
def TopLabelsUptoCardSaid : Prop := Claim7.holds Tryd.pinned (.plain (OpenSpec.upto topLabelsSpec)) topLabelsUptoCard
end Rows
end Go.Proofs.YtgoojcjfhghmgaaDoor
