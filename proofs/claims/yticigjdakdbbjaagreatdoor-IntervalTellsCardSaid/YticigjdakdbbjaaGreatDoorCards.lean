/-
  DERIVED. GIVEN WITH THE SEED: THE CARDS: each row of YticigjdakdbbjaaGreatDoorRows.lean that lists a variable, with what it lists TIED to the program's text (the seventh form; the later family's looks); each row that meets fmt, with fmt's text TOLD by the authors' own Lean function (tested against real Go, not proved from fmt's source: count such statements apart). THE CARD IS WHAT COUNTS. Prove the row's statement (the work); the ties are given (YticigjdakdbbjaaGreatDoorTie.lean); close each card by the builder's one call (the guide's Derived/Test/ToyasCard.lean, 'card_holds'). Laid BY PROGRAM, IN A SANDBOX (cutbox-door.mjs). By AI agents, Wed Nov 11 2026. No macro, syntax, notation, axiom, sorry.
-/
import Derived.Test.YticigjdakdbbjaaGreatDoorRows
import GoSem.ClaimSeven
namespace Go.Proofs.YticigjdakdbbjaaGreatDoor
namespace Rows

/-- THE TIED CARD OF 'linkworklaw03.IntervalTells'. -/
def intervalTellsCard : Claim7 := { stood := { row := intervalTellsRow, standIns := [], harness := (true, "6a9b80ad2723c86e4607ad5e9b0e48384c8409d97336cbb0ac3dbcdba58c3784"), looks := true }, kinds := [], alts := [], laidByText := true, laidKinds := [.data, .data, .data], laidTests := true, laidLooks := .later }
def IntervalTellsCardSaid : Prop := Claim7.holds Tryz.pinned (.plain (OpenSpec.ofChange intervalTellsSpec)) intervalTellsCard

/-- THE SECOND FORM's CARD OF 'linkworklaw03.IntervalTells'. -/
def intervalTellsUptoCard : Claim7 := { stood := { row := intervalTellsUptoRow, standIns := [], harness := (true, "6a9b80ad2723c86e4607ad5e9b0e48384c8409d97336cbb0ac3dbcdba58c3784"), looks := true }, kinds := [], alts := [], laidByText := true, laidKinds := [.data, .data, .data], laidTests := true, laidLooks := .later }
def IntervalTellsUptoCardSaid : Prop := Claim7.holds Tryz.pinned (.plain (OpenSpec.upto intervalTellsSpec)) intervalTellsUptoCard
end Rows
end Go.Proofs.YticigjdakdbbjaaGreatDoor
