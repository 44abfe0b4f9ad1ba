/-
  DERIVED. GIVEN WITH THE SEED: THE CARDS: each row of YthccbdlkfiogiaaGreatDoorRows.lean that lists a variable, with what it lists TIED to the program's text (the seventh form; the later family's looks); each row that meets fmt, with fmt's text TOLD by the authors' own Lean function (tested against real Go, not proved from fmt's source: count such statements apart). THE CARD IS WHAT COUNTS. Prove the row's statement (the work); the ties are given (YthccbdlkfiogiaaGreatDoorTie.lean); close each card by the builder's one call (the guide's Derived/Test/ToyasCard.lean, 'card_holds'). Laid BY PROGRAM, IN A SANDBOX (cutbox-door.mjs). By AI agents, Wed Nov 11 2026. No macro, syntax, notation, axiom, sorry.
-/
import Derived.Test.YthccbdlkfiogiaaGreatDoorRows
import GoSem.ClaimSeven
namespace Go.Proofs.YthccbdlkfiogiaaGreatDoor
namespace Rows

/-- THE TIED CARD OF 'linkworklaw45.PolesPairs'. -/
def polesPairsCard : Claim7 := { stood := { row := polesPairsRow, standIns := [], harness := (true, "c70fe34308d0411f8a8309940ab490b7b4d85fcdb9bf2ab715d7308e7377f6cc"), looks := true }, kinds := [], alts := [], laidByText := true, laidKinds := [.data, .data, .data], laidTests := true, laidLooks := .later }
def PolesPairsCardSaid : Prop := Claim7.holds Tryz.pinned (.plain (OpenSpec.ofChange polesPairsSpec)) polesPairsCard

/-- THE TIED CARD OF 'linkworklaw45.PolesCentres'. -/
def polesCentresCard : Claim7 := { stood := { row := polesCentresRow, standIns := [], harness := (true, "c70fe34308d0411f8a8309940ab490b7b4d85fcdb9bf2ab715d7308e7377f6cc"), looks := true }, kinds := [], alts := [], laidByText := true, laidKinds := [.data, .data, .data], laidTests := true, laidLooks := .later }
def PolesCentresCardSaid : Prop := Claim7.holds Tryz.pinned (.plain (OpenSpec.ofChange polesCentresSpec)) polesCentresCard

/-- THE TIED CARD OF 'linkworklaw45.PolesLines'. -/
def polesLinesCard : Claim7 := { stood := { row := polesLinesRow, standIns := [], harness := (true, "c70fe34308d0411f8a8309940ab490b7b4d85fcdb9bf2ab715d7308e7377f6cc"), looks := true }, kinds := [], alts := [], laidByText := true, laidKinds := [.data, .data, .data], laidTests := true, laidLooks := .later }
def PolesLinesCardSaid : Prop := Claim7.holds Tryz.pinned (.plain (OpenSpec.ofChange polesLinesSpec)) polesLinesCard

/-- THE TIED CARD OF 'linkworklaw45.PolesAbout'. -/
def polesAboutCard : Claim7 := { stood := { row := polesAboutRow, standIns := [], harness := (true, "c70fe34308d0411f8a8309940ab490b7b4d85fcdb9bf2ab715d7308e7377f6cc"), looks := true }, kinds := [], alts := [], laidByText := true, laidKinds := [.data, .data, .data], laidTests := true, laidLooks := .later }
def PolesAboutCardSaid : Prop := Claim7.holds Tryz.pinned (.plain (OpenSpec.ofChange polesAboutSpec)) polesAboutCard

/-- THE TIED CARD OF 'linkworklaw45.PolesLists'. -/
def polesListsCard : Claim7 := { stood := { row := polesListsRow, standIns := [], harness := (true, "c70fe34308d0411f8a8309940ab490b7b4d85fcdb9bf2ab715d7308e7377f6cc"), looks := true }, kinds := [], alts := [], laidByText := true, laidKinds := [.data, .data, .data], laidTests := true, laidLooks := .later }
def PolesListsCardSaid : Prop := Claim7.holds Tryz.pinned (.plain (OpenSpec.ofChange polesListsSpec)) polesListsCard

/-- THE TIED CARD OF 'linkworklaw45.PolesStay'. -/
def polesStayCard : Claim7 := { stood := { row := polesStayRow, standIns := [], harness := (true, "c70fe34308d0411f8a8309940ab490b7b4d85fcdb9bf2ab715d7308e7377f6cc"), looks := true }, kinds := [], alts := [], laidByText := true, laidKinds := [.data, .data, .data], laidTests := true, laidLooks := .later }
def PolesStayCardSaid : Prop := Claim7.holds Tryz.pinned (.plain (OpenSpec.ofChange polesStaySpec)) polesStayCard

/-- THE TIED CARD OF 'linkworklaw45.PolesThree'. -/
def polesThreeCard : Claim7 := { stood := { row := polesThreeRow, standIns := [], harness := (true, "c70fe34308d0411f8a8309940ab490b7b4d85fcdb9bf2ab715d7308e7377f6cc"), looks := true }, kinds := [], alts := [], laidByText := true, laidKinds := [.data, .data, .data], laidTests := true, laidLooks := .later }
def PolesThreeCardSaid : Prop := Claim7.holds Tryz.pinned (.plain (OpenSpec.ofChange polesThreeSpec)) polesThreeCard

/-- THE SECOND FORM's CARD OF 'linkworklaw45.PolesPairs'. -/
def polesPairsUptoCard : Claim7 := { stood := { row := polesPairsUptoRow, standIns := [], harness := (true, "c70fe34308d0411f8a8309940ab490b7b4d85fcdb9bf2ab715d7308e7377f6cc"), looks := true }, kinds := [], alts := [], laidByText := true, laidKinds := [.data, .data, .data], laidTests := true, laidLooks := .later }
def PolesPairsUptoCardSaid : Prop := Claim7.holds Tryz.pinned (.plain (OpenSpec.upto polesPairsSpec)) polesPairsUptoCard

/-- THE SECOND FORM's CARD OF 'linkworklaw45.PolesCentres'. -/
def polesCentresUptoCard : Claim7 := { stood := { row := polesCentresUptoRow, standIns := [], harness := (true, "c70fe34308d0411f8a8309940ab490b7b4d85fcdb9bf2ab715d7308e7377f6cc"), looks := true }, kinds := [], alts := [], laidByText := true, laidKinds := [.data, .data, .data], laidTests := true, laidLooks := .later }
def PolesCentresUptoCardSaid : Prop := Claim7.holds Tryz.pinned (.plain (OpenSpec.upto polesCentresSpec)) polesCentresUptoCard

/-- THE SECOND FORM's CARD OF 'linkworklaw45.PolesLines'. -/
def polesLinesUptoCard : Claim7 := { stood := { row := polesLinesUptoRow, standIns := [], harness := (true, "c70fe34308d0411f8a8309940ab490b7b4d85fcdb9bf2ab715d7308e7377f6cc"), looks := true }, kinds := [], alts := [], laidByText := true, laidKinds := [.data, .data, .data], laidTests := true, laidLooks := .later }
def PolesLinesUptoCardSaid : Prop := Claim7.holds Tryz.pinned (.plain (OpenSpec.upto polesLinesSpec)) polesLinesUptoCard

/-- THE SECOND FORM's CARD OF 'linkworklaw45.PolesAbout'. -/
def polesAboutUptoCard : Claim7 := { stood := { row := polesAboutUptoRow, standIns := [], harness := (true, "c70fe34308d0411f8a8309940ab490b7b4d85fcdb9bf2ab715d7308e7377f6cc"), looks := true }, kinds := [], alts := [], laidByText := true, laidKinds := [.data, .data, .data], laidTests := true, laidLooks := .later }
def PolesAboutUptoCardSaid : Prop := Claim7.holds Tryz.pinned (.plain (OpenSpec.upto polesAboutSpec)) polesAboutUptoCard

/-- THE SECOND FORM's CARD OF 'linkworklaw45.PolesLists'. -/
def polesListsUptoCard : Claim7 := { stood := { row := polesListsUptoRow, standIns := [], harness := (true, "c70fe34308d0411f8a8309940ab490b7b4d85fcdb9bf2ab715d7308e7377f6cc"), looks := true }, kinds := [], alts := [], laidByText := true, laidKinds := [.data, .data, .data], laidTests := true, laidLooks := .later }
def PolesListsUptoCardSaid : Prop := Claim7.holds Tryz.pinned (.plain (OpenSpec.upto polesListsSpec)) polesListsUptoCard

/-- THE SECOND FORM's CARD OF 'linkworklaw45.PolesStay'. -/
def polesStayUptoCard : Claim7 := { stood := { row := polesStayUptoRow, standIns := [], harness := (true, "c70fe34308d0411f8a8309940ab490b7b4d85fcdb9bf2ab715d7308e7377f6cc"), looks := true }, kinds := [], alts := [], laidByText := true, laidKinds := [.data, .data, .data], laidTests := true, laidLooks := .later }
def PolesStayUptoCardSaid : Prop := Claim7.holds Tryz.pinned (.plain (OpenSpec.upto polesStaySpec)) polesStayUptoCard

/-- THE SECOND FORM's CARD OF 'linkworklaw45.PolesThree'. -/
def polesThreeUptoCard : Claim7 := { stood := { row := polesThreeUptoRow, standIns := [], harness := (true, "c70fe34308d0411f8a8309940ab490b7b4d85fcdb9bf2ab715d7308e7377f6cc"), looks := true }, kinds := [], alts := [], laidByText := true, laidKinds := [.data, .data, .data], laidTests := true, laidLooks := .later }
def PolesThreeUptoCardSaid : Prop := Claim7.holds Tryz.pinned (.plain (OpenSpec.upto polesThreeSpec)) polesThreeUptoCard
end Rows
end Go.Proofs.YthccbdlkfiogiaaGreatDoor
