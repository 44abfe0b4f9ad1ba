/-
  DERIVED. GIVEN WITH THE SEED: THE CARDS: each row of YtfdllnbmjlhliaaGreatDoorRows.lean that lists a variable, with what it lists TIED to the program's text (the seventh form; the later family's looks); each row that meets fmt, with fmt's text TOLD by the authors' own Lean function (tested against real Go, not proved from fmt's source: count such statements apart). THE CARD IS WHAT COUNTS. Prove the row's statement (the work); the ties are given (YtfdllnbmjlhliaaGreatDoorTie.lean); close each card by the builder's one call (the guide's Derived/Test/ToyasCard.lean, 'card_holds'). Laid BY PROGRAM, IN A SANDBOX (cutbox-door.mjs). By AI agents, Wed Nov 11 2026. No macro, syntax, notation, axiom, sorry.
-/
import Derived.Test.YtfdllnbmjlhliaaGreatDoorRows
import GoSem.ClaimSeven
namespace Go.Proofs.YtfdllnbmjlhliaaGreatDoor
namespace Rows

/-- THE TIED CARD OF 'linkworklaw17.PoseImages'. -/
def poseImagesCard : Claim7 := { stood := { row := poseImagesRow, standIns := [], harness := (true, "4fa804040da899b9db12684c6704e750ee85f23406f95fc690ca6d014bbad464"), looks := true }, kinds := [], alts := [], laidByText := true, laidKinds := [.data, .data, .data], laidTests := true, laidLooks := .later }
def PoseImagesCardSaid : Prop := Claim7.holds Tryz.pinned (.plain (OpenSpec.ofChange poseImagesSpec)) poseImagesCard

/-- THE TIED CARD OF 'linkworklaw17.PosePowers'. -/
def posePowersCard : Claim7 := { stood := { row := posePowersRow, standIns := [], harness := (true, "4fa804040da899b9db12684c6704e750ee85f23406f95fc690ca6d014bbad464"), looks := true }, kinds := [], alts := [], laidByText := true, laidKinds := [.data, .data, .data], laidTests := true, laidLooks := .later }
def PosePowersCardSaid : Prop := Claim7.holds Tryz.pinned (.plain (OpenSpec.ofChange posePowersSpec)) posePowersCard

/-- THE TIED CARD OF 'linkworklaw17.PoseFixed'. -/
def poseFixedCard : Claim7 := { stood := { row := poseFixedRow, standIns := [], harness := (true, "4fa804040da899b9db12684c6704e750ee85f23406f95fc690ca6d014bbad464"), looks := true }, kinds := [], alts := [], laidByText := true, laidKinds := [.data, .data, .data], laidTests := true, laidLooks := .later }
def PoseFixedCardSaid : Prop := Claim7.holds Tryz.pinned (.plain (OpenSpec.ofChange poseFixedSpec)) poseFixedCard

/-- THE TIED CARD OF 'linkworklaw17.PoseRigid'. -/
def poseRigidCard : Claim7 := { stood := { row := poseRigidRow, standIns := [], harness := (true, "4fa804040da899b9db12684c6704e750ee85f23406f95fc690ca6d014bbad464"), looks := true }, kinds := [], alts := [], laidByText := true, laidKinds := [.data, .data, .data], laidTests := true, laidLooks := .later }
def PoseRigidCardSaid : Prop := Claim7.holds Tryz.pinned (.plain (OpenSpec.ofChange poseRigidSpec)) poseRigidCard

/-- THE TIED CARD OF 'linkworklaw17.PoseUnit'. -/
def poseUnitCard : Claim7 := { stood := { row := poseUnitRow, standIns := [], harness := (true, "4fa804040da899b9db12684c6704e750ee85f23406f95fc690ca6d014bbad464"), looks := true }, kinds := [], alts := [], laidByText := true, laidKinds := [.data, .data, .data], laidTests := true, laidLooks := .later }
def PoseUnitCardSaid : Prop := Claim7.holds Tryz.pinned (.plain (OpenSpec.ofChange poseUnitSpec)) poseUnitCard

/-- THE TIED CARD OF 'linkworklaw17.PoseJoins'. -/
def poseJoinsCard : Claim7 := { stood := { row := poseJoinsRow, standIns := [], harness := (true, "4fa804040da899b9db12684c6704e750ee85f23406f95fc690ca6d014bbad464"), looks := true }, kinds := [], alts := [], laidByText := true, laidKinds := [.data, .data, .data], laidTests := true, laidLooks := .later }
def PoseJoinsCardSaid : Prop := Claim7.holds Tryz.pinned (.plain (OpenSpec.ofChange poseJoinsSpec)) poseJoinsCard

/-- THE TIED CARD OF 'linkworklaw17.PoseGroup'. -/
def poseGroupCard : Claim7 := { stood := { row := poseGroupRow, standIns := [], harness := (true, "4fa804040da899b9db12684c6704e750ee85f23406f95fc690ca6d014bbad464"), looks := true }, kinds := [], alts := [], laidByText := true, laidKinds := [.data, .data, .data], laidTests := true, laidLooks := .later }
def PoseGroupCardSaid : Prop := Claim7.holds Tryz.pinned (.plain (OpenSpec.ofChange poseGroupSpec)) poseGroupCard

/-- THE SECOND FORM's CARD OF 'linkworklaw17.PoseImages'. -/
def poseImagesUptoCard : Claim7 := { stood := { row := poseImagesUptoRow, standIns := [], harness := (true, "4fa804040da899b9db12684c6704e750ee85f23406f95fc690ca6d014bbad464"), looks := true }, kinds := [], alts := [], laidByText := true, laidKinds := [.data, .data, .data], laidTests := true, laidLooks := .later }
def PoseImagesUptoCardSaid : Prop := Claim7.holds Tryz.pinned (.plain (OpenSpec.upto poseImagesSpec)) poseImagesUptoCard

/-- THE SECOND FORM's CARD OF 'linkworklaw17.PosePowers'. -/
def posePowersUptoCard : Claim7 := { stood := { row := posePowersUptoRow, standIns := [], harness := (true, "4fa804040da899b9db12684c6704e750ee85f23406f95fc690ca6d014bbad464"), looks := true }, kinds := [], alts := [], laidByText := true, laidKinds := [.data, .data, .data], laidTests := true, laidLooks := .later }
def PosePowersUptoCardSaid : Prop := Claim7.holds Tryz.pinned (.plain (OpenSpec.upto posePowersSpec)) posePowersUptoCard

/-- THE SECOND FORM's CARD OF 'linkworklaw17.PoseFixed'. -/
def poseFixedUptoCard : Claim7 := { stood := { row := poseFixedUptoRow, standIns := [], harness := (true, "4fa804040da899b9db12684c6704e750ee85f23406f95fc690ca6d014bbad464"), looks := true }, kinds := [], alts := [], laidByText := true, laidKinds := [.data, .data, .data], laidTests := true, laidLooks := .later }
def PoseFixedUptoCardSaid : Prop := Claim7.holds Tryz.pinned (.plain (OpenSpec.upto poseFixedSpec)) poseFixedUptoCard

/-- THE SECOND FORM's CARD OF 'linkworklaw17.PoseRigid'. -/
def poseRigidUptoCard : Claim7 := { stood := { row := poseRigidUptoRow, standIns := [], harness := (true, "4fa804040da899b9db12684c6704e750ee85f23406f95fc690ca6d014bbad464"), looks := true }, kinds := [], alts := [], laidByText := true, laidKinds := [.data, .data, .data], laidTests := true, laidLooks := .later }
def PoseRigidUptoCardSaid : Prop := Claim7.holds Tryz.pinned (.plain (OpenSpec.upto poseRigidSpec)) poseRigidUptoCard

/-- THE SECOND FORM's CARD OF 'linkworklaw17.PoseUnit'. -/
def poseUnitUptoCard : Claim7 := { stood := { row := poseUnitUptoRow, standIns := [], harness := (true, "4fa804040da899b9db12684c6704e750ee85f23406f95fc690ca6d014bbad464"), looks := true }, kinds := [], alts := [], laidByText := true, laidKinds := [.data, .data, .data], laidTests := true, laidLooks := .later }
def PoseUnitUptoCardSaid : Prop := Claim7.holds Tryz.pinned (.plain (OpenSpec.upto poseUnitSpec)) poseUnitUptoCard

/-- THE SECOND FORM's CARD OF 'linkworklaw17.PoseJoins'. -/
def poseJoinsUptoCard : Claim7 := { stood := { row := poseJoinsUptoRow, standIns := [], harness := (true, "4fa804040da899b9db12684c6704e750ee85f23406f95fc690ca6d014bbad464"), looks := true }, kinds := [], alts := [], laidByText := true, laidKinds := [.data, .data, .data], laidTests := true, laidLooks := .later }
def PoseJoinsUptoCardSaid : Prop := Claim7.holds Tryz.pinned (.plain (OpenSpec.upto poseJoinsSpec)) poseJoinsUptoCard

/-- THE SECOND FORM's CARD OF 'linkworklaw17.PoseGroup'. -/
def poseGroupUptoCard : Claim7 := { stood := { row := poseGroupUptoRow, standIns := [], harness := (true, "4fa804040da899b9db12684c6704e750ee85f23406f95fc690ca6d014bbad464"), looks := true }, kinds := [], alts := [], laidByText := true, laidKinds := [.data, .data, .data], laidTests := true, laidLooks := .later }
def PoseGroupUptoCardSaid : Prop := Claim7.holds Tryz.pinned (.plain (OpenSpec.upto poseGroupSpec)) poseGroupUptoCard
end Rows
end Go.Proofs.YtfdllnbmjlhliaaGreatDoor
