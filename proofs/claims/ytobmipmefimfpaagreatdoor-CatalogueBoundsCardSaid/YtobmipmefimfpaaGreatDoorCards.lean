/-
  DERIVED. GIVEN WITH THE SEED: THE CARDS: each row of YtobmipmefimfpaaGreatDoorRows.lean that lists a variable, with what it lists TIED to the program's text (the seventh form; the later family's looks); each row that meets fmt, with fmt's text TOLD by the authors' own Lean function (tested against real Go, not proved from fmt's source: count such statements apart). THE CARD IS WHAT COUNTS. Prove the row's statement (the work); the ties are given (YtobmipmefimfpaaGreatDoorTie.lean); close each card by the builder's one call (the guide's Derived/Test/ToyasCard.lean, 'card_holds'). Laid BY PROGRAM, IN A SANDBOX (cutbox-door.mjs). By AI agents, Wed Nov 11 2026. No macro, syntax, notation, axiom, sorry.
-/
import Derived.Test.YtobmipmefimfpaaGreatDoorRows
import GoSem.ClaimSeven
namespace Go.Proofs.YtobmipmefimfpaaGreatDoor
namespace Rows

/-- THE TIED CARD OF 'linkworklaw49.CatalogueChecks'. -/
def catalogueChecksCard : Claim7 := { stood := { row := catalogueChecksRow, standIns := [], harness := (true, "f3639700fbf7b87d1b178f610e8a2e24e4e8f1ef4a1e540443441ee001b244cf"), looks := true }, kinds := [], alts := [], laidByText := true, laidKinds := [.data, .data, .data], laidTests := true, laidLooks := .later }
def CatalogueChecksCardSaid : Prop := Claim7.holds Tryz.pinned (.plain (OpenSpec.ofChange catalogueChecksSpec)) catalogueChecksCard

/-- THE TIED CARD OF 'linkworklaw49.CatalogueBounds'. -/
def catalogueBoundsCard : Claim7 := { stood := { row := catalogueBoundsRow, standIns := [], harness := (true, "f3639700fbf7b87d1b178f610e8a2e24e4e8f1ef4a1e540443441ee001b244cf"), looks := true }, kinds := [], alts := [], laidByText := true, laidKinds := [.data, .data, .data], laidTests := true, laidLooks := .later }
def CatalogueBoundsCardSaid : Prop := Claim7.holds Tryz.pinned (.plain (OpenSpec.ofChange catalogueBoundsSpec)) catalogueBoundsCard

/-- THE TIED CARD OF 'linkworklaw49.CatalogueBest'. -/
def catalogueBestCard : Claim7 := { stood := { row := catalogueBestRow, standIns := [], harness := (true, "f3639700fbf7b87d1b178f610e8a2e24e4e8f1ef4a1e540443441ee001b244cf"), looks := true }, kinds := [], alts := [], laidByText := true, laidKinds := [.data, .data, .data], laidTests := true, laidLooks := .later }
def CatalogueBestCardSaid : Prop := Claim7.holds Tryz.pinned (.plain (OpenSpec.ofChange catalogueBestSpec)) catalogueBestCard

/-- THE TIED CARD OF 'linkworklaw49.CatalogueVerifies'. -/
def catalogueVerifiesCard : Claim7 := { stood := { row := catalogueVerifiesRow, standIns := [], harness := (true, "f3639700fbf7b87d1b178f610e8a2e24e4e8f1ef4a1e540443441ee001b244cf"), looks := true }, kinds := [], alts := [], laidByText := true, laidKinds := [.data, .data, .data], laidTests := true, laidLooks := .later }
def CatalogueVerifiesCardSaid : Prop := Claim7.holds Tryz.pinned (.plain (OpenSpec.ofChange catalogueVerifiesSpec)) catalogueVerifiesCard

/-- THE TIED CARD OF 'linkworklaw49.CatalogueUnder'. -/
def catalogueUnderCard : Claim7 := { stood := { row := catalogueUnderRow, standIns := [], harness := (true, "f3639700fbf7b87d1b178f610e8a2e24e4e8f1ef4a1e540443441ee001b244cf"), looks := true }, kinds := [], alts := [], laidByText := true, laidKinds := [.data, .data, .data], laidTests := true, laidLooks := .later }
def CatalogueUnderCardSaid : Prop := Claim7.holds Tryz.pinned (.plain (OpenSpec.ofChange catalogueUnderSpec)) catalogueUnderCard

/-- THE TIED CARD OF 'linkworklaw49.CatalogueAccepts'. -/
def catalogueAcceptsCard : Claim7 := { stood := { row := catalogueAcceptsRow, standIns := [], harness := (true, "f3639700fbf7b87d1b178f610e8a2e24e4e8f1ef4a1e540443441ee001b244cf"), looks := true }, kinds := [], alts := [], laidByText := true, laidKinds := [.data, .data, .data], laidTests := true, laidLooks := .later }
def CatalogueAcceptsCardSaid : Prop := Claim7.holds Tryz.pinned (.plain (OpenSpec.ofChange catalogueAcceptsSpec)) catalogueAcceptsCard

/-- THE TIED CARD OF 'linkworklaw49.CatalogueFits'. -/
def catalogueFitsCard : Claim7 := { stood := { row := catalogueFitsRow, standIns := [], harness := (true, "f3639700fbf7b87d1b178f610e8a2e24e4e8f1ef4a1e540443441ee001b244cf"), looks := true }, kinds := [], alts := [], laidByText := true, laidKinds := [.data, .data, .data], laidTests := true, laidLooks := .later }
def CatalogueFitsCardSaid : Prop := Claim7.holds Tryz.pinned (.plain (OpenSpec.ofChange catalogueFitsSpec)) catalogueFitsCard

/-- THE SECOND FORM's CARD OF 'linkworklaw49.CatalogueChecks'. -/
def catalogueChecksUptoCard : Claim7 := { stood := { row := catalogueChecksUptoRow, standIns := [], harness := (true, "f3639700fbf7b87d1b178f610e8a2e24e4e8f1ef4a1e540443441ee001b244cf"), looks := true }, kinds := [], alts := [], laidByText := true, laidKinds := [.data, .data, .data], laidTests := true, laidLooks := .later }
def CatalogueChecksUptoCardSaid : Prop := Claim7.holds Tryz.pinned (.plain (OpenSpec.upto catalogueChecksSpec)) catalogueChecksUptoCard

/-- THE SECOND FORM's CARD OF 'linkworklaw49.CatalogueBounds'. -/
def catalogueBoundsUptoCard : Claim7 := { stood := { row := catalogueBoundsUptoRow, standIns := [], harness := (true, "f3639700fbf7b87d1b178f610e8a2e24e4e8f1ef4a1e540443441ee001b244cf"), looks := true }, kinds := [], alts := [], laidByText := true, laidKinds := [.data, .data, .data], laidTests := true, laidLooks := .later }
def CatalogueBoundsUptoCardSaid : Prop := Claim7.holds Tryz.pinned (.plain (OpenSpec.upto catalogueBoundsSpec)) catalogueBoundsUptoCard

/-- THE SECOND FORM's CARD OF 'linkworklaw49.CatalogueBest'. -/
def catalogueBestUptoCard : Claim7 := { stood := { row := catalogueBestUptoRow, standIns := [], harness := (true, "f3639700fbf7b87d1b178f610e8a2e24e4e8f1ef4a1e540443441ee001b244cf"), looks := true }, kinds := [], alts := [], laidByText := true, laidKinds := [.data, .data, .data], laidTests := true, laidLooks := .later }
def CatalogueBestUptoCardSaid : Prop := Claim7.holds Tryz.pinned (.plain (OpenSpec.upto catalogueBestSpec)) catalogueBestUptoCard

/-- THE SECOND FORM's CARD OF 'linkworklaw49.CatalogueVerifies'. -/
def catalogueVerifiesUptoCard : Claim7 := { stood := { row := catalogueVerifiesUptoRow, standIns := [], harness := (true, "f3639700fbf7b87d1b178f610e8a2e24e4e8f1ef4a1e540443441ee001b244cf"), looks := true }, kinds := [], alts := [], laidByText := true, laidKinds := [.data, .data, .data], laidTests := true, laidLooks := .later }
def CatalogueVerifiesUptoCardSaid : Prop := Claim7.holds Tryz.pinned (.plain (OpenSpec.upto catalogueVerifiesSpec)) catalogueVerifiesUptoCard

/-- THE SECOND FORM's CARD OF 'linkworklaw49.CatalogueUnder'. -/
def catalogueUnderUptoCard : Claim7 := { stood := { row := catalogueUnderUptoRow, standIns := [], harness := (true, "f3639700fbf7b87d1b178f610e8a2e24e4e8f1ef4a1e540443441ee001b244cf"), looks := true }, kinds := [], alts := [], laidByText := true, laidKinds := [.data, .data, .data], laidTests := true, laidLooks := .later }
def CatalogueUnderUptoCardSaid : Prop := Claim7.holds Tryz.pinned (.plain (OpenSpec.upto catalogueUnderSpec)) catalogueUnderUptoCard

/-- THE SECOND FORM's CARD OF 'linkworklaw49.CatalogueAccepts'. -/
def catalogueAcceptsUptoCard : Claim7 := { stood := { row := catalogueAcceptsUptoRow, standIns := [], harness := (true, "f3639700fbf7b87d1b178f610e8a2e24e4e8f1ef4a1e540443441ee001b244cf"), looks := true }, kinds := [], alts := [], laidByText := true, laidKinds := [.data, .data, .data], laidTests := true, laidLooks := .later }
def CatalogueAcceptsUptoCardSaid : Prop := Claim7.holds Tryz.pinned (.plain (OpenSpec.upto catalogueAcceptsSpec)) catalogueAcceptsUptoCard

/-- THE SECOND FORM's CARD OF 'linkworklaw49.CatalogueFits'. -/
def catalogueFitsUptoCard : Claim7 := { stood := { row := catalogueFitsUptoRow, standIns := [], harness := (true, "f3639700fbf7b87d1b178f610e8a2e24e4e8f1ef4a1e540443441ee001b244cf"), looks := true }, kinds := [], alts := [], laidByText := true, laidKinds := [.data, .data, .data], laidTests := true, laidLooks := .later }
def CatalogueFitsUptoCardSaid : Prop := Claim7.holds Tryz.pinned (.plain (OpenSpec.upto catalogueFitsSpec)) catalogueFitsUptoCard
end Rows
end Go.Proofs.YtobmipmefimfpaaGreatDoor
