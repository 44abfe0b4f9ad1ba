/-
  DERIVED. GIVEN WITH THE SEED: THE CARDS: each row of YtcdhaaadohmcoaaGreatDoorRows.lean that lists a variable, with what it lists TIED to the program's text (the seventh form; the later family's looks); each row that meets fmt, with fmt's text TOLD by the authors' own Lean function (tested against real Go, not proved from fmt's source: count such statements apart). THE CARD IS WHAT COUNTS. Prove the row's statement (the work); the ties are given (YtcdhaaadohmcoaaGreatDoorTie.lean); close each card by the builder's one call (the guide's Derived/Test/ToyasCard.lean, 'card_holds'). Laid BY PROGRAM, IN A SANDBOX (cutbox-door.mjs). By AI agents, Wed Nov 11 2026. No macro, syntax, notation, axiom, sorry.
-/
import Derived.Test.YtcdhaaadohmcoaaGreatDoorRows
import GoSem.ClaimSeven
namespace Go.Proofs.YtcdhaaadohmcoaaGreatDoor
namespace Rows

/-- THE TIED CARD OF 'linkworklaw03.IntervalRounds'. -/
def intervalRoundsCard : Claim7 := { stood := { row := intervalRoundsRow, standIns := [], harness := (true, "1a3a4dc9db61df20b17cea97fd22a24a2554986b7a9a70922dac804edc7fbfe3"), looks := true }, kinds := [], alts := [], laidByText := true, laidKinds := [.data, .data, .data], laidTests := true, laidLooks := .later }
def IntervalRoundsCardSaid : Prop := Claim7.holds Tryz.pinned (.plain (OpenSpec.ofChange intervalRoundsSpec)) intervalRoundsCard

/-- THE TIED CARD OF 'linkworklaw03.IntervalAttains'. -/
def intervalAttainsCard : Claim7 := { stood := { row := intervalAttainsRow, standIns := [], harness := (true, "1a3a4dc9db61df20b17cea97fd22a24a2554986b7a9a70922dac804edc7fbfe3"), looks := true }, kinds := [], alts := [], laidByText := true, laidKinds := [.data, .data, .data], laidTests := true, laidLooks := .later }
def IntervalAttainsCardSaid : Prop := Claim7.holds Tryz.pinned (.plain (OpenSpec.ofChange intervalAttainsSpec)) intervalAttainsCard

/-- THE TIED CARD OF 'linkworklaw03.IntervalRoots'. -/
def intervalRootsCard : Claim7 := { stood := { row := intervalRootsRow, standIns := [], harness := (true, "1a3a4dc9db61df20b17cea97fd22a24a2554986b7a9a70922dac804edc7fbfe3"), looks := true }, kinds := [], alts := [], laidByText := true, laidKinds := [.data, .data, .data], laidTests := true, laidLooks := .later }
def IntervalRootsCardSaid : Prop := Claim7.holds Tryz.pinned (.plain (OpenSpec.ofChange intervalRootsSpec)) intervalRootsCard

/-- THE TIED CARD OF 'linkworklaw03.IntervalInside'. -/
def intervalInsideCard : Claim7 := { stood := { row := intervalInsideRow, standIns := [], harness := (true, "1a3a4dc9db61df20b17cea97fd22a24a2554986b7a9a70922dac804edc7fbfe3"), looks := true }, kinds := [], alts := [], laidByText := true, laidKinds := [.data, .data, .data], laidTests := true, laidLooks := .later }
def IntervalInsideCardSaid : Prop := Claim7.holds Tryz.pinned (.plain (OpenSpec.ofChange intervalInsideSpec)) intervalInsideCard

/-- THE TIED CARD OF 'linkworklaw03.IntervalComputes'. -/
def intervalComputesCard : Claim7 := { stood := { row := intervalComputesRow, standIns := [], harness := (true, "1a3a4dc9db61df20b17cea97fd22a24a2554986b7a9a70922dac804edc7fbfe3"), looks := true }, kinds := [], alts := [], laidByText := true, laidKinds := [.data, .data, .data], laidTests := true, laidLooks := .later }
def IntervalComputesCardSaid : Prop := Claim7.holds Tryz.pinned (.plain (OpenSpec.ofChange intervalComputesSpec)) intervalComputesCard

/-- THE TIED CARD OF 'linkworklaw03.IntervalTells'. -/
def intervalTellsCard : Claim7 := { stood := { row := intervalTellsRow, standIns := [], harness := (true, "1a3a4dc9db61df20b17cea97fd22a24a2554986b7a9a70922dac804edc7fbfe3"), looks := true }, kinds := [], alts := [], laidByText := true, laidKinds := [.data, .data, .data], laidTests := true, laidLooks := .later }
def IntervalTellsCardSaid : Prop := Claim7.holds Tryz.pinned (.plain (OpenSpec.ofChange intervalTellsSpec)) intervalTellsCard

/-- THE TIED CARD OF 'linkworklaw03.IntervalContains'. -/
def intervalContainsCard : Claim7 := { stood := { row := intervalContainsRow, standIns := [], harness := (true, "1a3a4dc9db61df20b17cea97fd22a24a2554986b7a9a70922dac804edc7fbfe3"), looks := true }, kinds := [], alts := [], laidByText := true, laidKinds := [.data, .data, .data], laidTests := true, laidLooks := .later }
def IntervalContainsCardSaid : Prop := Claim7.holds Tryz.pinned (.plain (OpenSpec.ofChange intervalContainsSpec)) intervalContainsCard

/-- THE SECOND FORM's CARD OF 'linkworklaw03.IntervalRounds'. -/
def intervalRoundsUptoCard : Claim7 := { stood := { row := intervalRoundsUptoRow, standIns := [], harness := (true, "1a3a4dc9db61df20b17cea97fd22a24a2554986b7a9a70922dac804edc7fbfe3"), looks := true }, kinds := [], alts := [], laidByText := true, laidKinds := [.data, .data, .data], laidTests := true, laidLooks := .later }
def IntervalRoundsUptoCardSaid : Prop := Claim7.holds Tryz.pinned (.plain (OpenSpec.upto intervalRoundsSpec)) intervalRoundsUptoCard

/-- THE SECOND FORM's CARD OF 'linkworklaw03.IntervalAttains'. -/
def intervalAttainsUptoCard : Claim7 := { stood := { row := intervalAttainsUptoRow, standIns := [], harness := (true, "1a3a4dc9db61df20b17cea97fd22a24a2554986b7a9a70922dac804edc7fbfe3"), looks := true }, kinds := [], alts := [], laidByText := true, laidKinds := [.data, .data, .data], laidTests := true, laidLooks := .later }
def IntervalAttainsUptoCardSaid : Prop := Claim7.holds Tryz.pinned (.plain (OpenSpec.upto intervalAttainsSpec)) intervalAttainsUptoCard

/-- THE SECOND FORM's CARD OF 'linkworklaw03.IntervalRoots'. -/
def intervalRootsUptoCard : Claim7 := { stood := { row := intervalRootsUptoRow, standIns := [], harness := (true, "1a3a4dc9db61df20b17cea97fd22a24a2554986b7a9a70922dac804edc7fbfe3"), looks := true }, kinds := [], alts := [], laidByText := true, laidKinds := [.data, .data, .data], laidTests := true, laidLooks := .later }
def IntervalRootsUptoCardSaid : Prop := Claim7.holds Tryz.pinned (.plain (OpenSpec.upto intervalRootsSpec)) intervalRootsUptoCard

/-- THE SECOND FORM's CARD OF 'linkworklaw03.IntervalInside'. -/
def intervalInsideUptoCard : Claim7 := { stood := { row := intervalInsideUptoRow, standIns := [], harness := (true, "1a3a4dc9db61df20b17cea97fd22a24a2554986b7a9a70922dac804edc7fbfe3"), looks := true }, kinds := [], alts := [], laidByText := true, laidKinds := [.data, .data, .data], laidTests := true, laidLooks := .later }
def IntervalInsideUptoCardSaid : Prop := Claim7.holds Tryz.pinned (.plain (OpenSpec.upto intervalInsideSpec)) intervalInsideUptoCard

/-- THE SECOND FORM's CARD OF 'linkworklaw03.IntervalComputes'. -/
def intervalComputesUptoCard : Claim7 := { stood := { row := intervalComputesUptoRow, standIns := [], harness := (true, "1a3a4dc9db61df20b17cea97fd22a24a2554986b7a9a70922dac804edc7fbfe3"), looks := true }, kinds := [], alts := [], laidByText := true, laidKinds := [.data, .data, .data], laidTests := true, laidLooks := .later }
def IntervalComputesUptoCardSaid : Prop := Claim7.holds Tryz.pinned (.plain (OpenSpec.upto intervalComputesSpec)) intervalComputesUptoCard

/-- THE SECOND FORM's CARD OF 'linkworklaw03.IntervalTells'. -/
def intervalTellsUptoCard : Claim7 := { stood := { row := intervalTellsUptoRow, standIns := [], harness := (true, "1a3a4dc9db61df20b17cea97fd22a24a2554986b7a9a70922dac804edc7fbfe3"), looks := true }, kinds := [], alts := [], laidByText := true, laidKinds := [.data, .data, .data], laidTests := true, laidLooks := .later }
def IntervalTellsUptoCardSaid : Prop := Claim7.holds Tryz.pinned (.plain (OpenSpec.upto intervalTellsSpec)) intervalTellsUptoCard

/-- THE SECOND FORM's CARD OF 'linkworklaw03.IntervalContains'. -/
def intervalContainsUptoCard : Claim7 := { stood := { row := intervalContainsUptoRow, standIns := [], harness := (true, "1a3a4dc9db61df20b17cea97fd22a24a2554986b7a9a70922dac804edc7fbfe3"), looks := true }, kinds := [], alts := [], laidByText := true, laidKinds := [.data, .data, .data], laidTests := true, laidLooks := .later }
def IntervalContainsUptoCardSaid : Prop := Claim7.holds Tryz.pinned (.plain (OpenSpec.upto intervalContainsSpec)) intervalContainsUptoCard
end Rows
end Go.Proofs.YtcdhaaadohmcoaaGreatDoor
