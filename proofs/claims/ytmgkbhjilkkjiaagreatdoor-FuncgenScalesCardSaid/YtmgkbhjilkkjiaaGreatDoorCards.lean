/-
  DERIVED. GIVEN WITH THE SEED: THE CARDS: each row of YtmgkbhjilkkjiaaGreatDoorRows.lean that lists a variable, with what it lists TIED to the program's text (the seventh form; the later family's looks); each row that meets fmt, with fmt's text TOLD by the authors' own Lean function (tested against real Go, not proved from fmt's source: count such statements apart). THE CARD IS WHAT COUNTS. Prove the row's statement (the work); the ties are given (YtmgkbhjilkkjiaaGreatDoorTie.lean); close each card by the builder's one call (the guide's Derived/Test/ToyasCard.lean, 'card_holds'). Laid BY PROGRAM, IN A SANDBOX (cutbox-door.mjs). By AI agents, Wed Nov 11 2026. No macro, syntax, notation, axiom, sorry.
-/
import Derived.Test.YtmgkbhjilkkjiaaGreatDoorRows
import GoSem.ClaimSeven
namespace Go.Proofs.YtmgkbhjilkkjiaaGreatDoor
namespace Rows

/-- THE TIED CARD OF 'linkworklaw48.FuncgenMakes'. -/
def funcgenMakesCard : Claim7 := { stood := { row := funcgenMakesRow, standIns := [], harness := (true, "e77fd2b898f2c83a92d4b8090c7c61b53952f642e0c300b31a596793329709e7"), looks := true }, kinds := [], alts := [], laidByText := true, laidKinds := [.data, .data, .data], laidTests := true, laidLooks := .later }
def FuncgenMakesCardSaid : Prop := Claim7.holds Tryz.pinned (.plain (OpenSpec.ofChange funcgenMakesSpec)) funcgenMakesCard

/-- THE TIED CARD OF 'linkworklaw48.FuncgenFits'. -/
def funcgenFitsCard : Claim7 := { stood := { row := funcgenFitsRow, standIns := [], harness := (true, "e77fd2b898f2c83a92d4b8090c7c61b53952f642e0c300b31a596793329709e7"), looks := true }, kinds := [], alts := [], laidByText := true, laidKinds := [.data, .data, .data], laidTests := true, laidLooks := .later }
def FuncgenFitsCardSaid : Prop := Claim7.holds Tryz.pinned (.plain (OpenSpec.ofChange funcgenFitsSpec)) funcgenFitsCard

/-- THE TIED CARD OF 'linkworklaw48.FuncgenFinds'. -/
def funcgenFindsCard : Claim7 := { stood := { row := funcgenFindsRow, standIns := [], harness := (true, "e77fd2b898f2c83a92d4b8090c7c61b53952f642e0c300b31a596793329709e7"), looks := true }, kinds := [], alts := [], laidByText := true, laidKinds := [.data, .data, .data], laidTests := true, laidLooks := .later }
def FuncgenFindsCardSaid : Prop := Claim7.holds Tryz.pinned (.plain (OpenSpec.ofChange funcgenFindsSpec)) funcgenFindsCard

/-- THE TIED CARD OF 'linkworklaw48.FuncgenMade'. -/
def funcgenMadeCard : Claim7 := { stood := { row := funcgenMadeRow, standIns := [], harness := (true, "e77fd2b898f2c83a92d4b8090c7c61b53952f642e0c300b31a596793329709e7"), looks := true }, kinds := [], alts := [], laidByText := true, laidKinds := [.data, .data, .data], laidTests := true, laidLooks := .later }
def FuncgenMadeCardSaid : Prop := Claim7.holds Tryz.pinned (.plain (OpenSpec.ofChange funcgenMadeSpec)) funcgenMadeCard

/-- THE TIED CARD OF 'linkworklaw48.FuncgenScales'. -/
def funcgenScalesCard : Claim7 := { stood := { row := funcgenScalesRow, standIns := [], harness := (true, "e77fd2b898f2c83a92d4b8090c7c61b53952f642e0c300b31a596793329709e7"), looks := true }, kinds := [], alts := [], laidByText := true, laidKinds := [.data, .data, .data], laidTests := true, laidLooks := .later }
def FuncgenScalesCardSaid : Prop := Claim7.holds Tryz.pinned (.plain (OpenSpec.ofChange funcgenScalesSpec)) funcgenScalesCard

/-- THE TIED CARD OF 'linkworklaw48.FuncgenErrors'. -/
def funcgenErrorsCard : Claim7 := { stood := { row := funcgenErrorsRow, standIns := [], harness := (true, "e77fd2b898f2c83a92d4b8090c7c61b53952f642e0c300b31a596793329709e7"), looks := true }, kinds := [], alts := [], laidByText := true, laidKinds := [.data, .data, .data], laidTests := true, laidLooks := .later }
def FuncgenErrorsCardSaid : Prop := Claim7.holds Tryz.pinned (.plain (OpenSpec.ofChange funcgenErrorsSpec)) funcgenErrorsCard

/-- THE TIED CARD OF 'linkworklaw48.FuncgenDistance'. -/
def funcgenDistanceCard : Claim7 := { stood := { row := funcgenDistanceRow, standIns := [], harness := (true, "e77fd2b898f2c83a92d4b8090c7c61b53952f642e0c300b31a596793329709e7"), looks := true }, kinds := [], alts := [], laidByText := true, laidKinds := [.data, .data, .data], laidTests := true, laidLooks := .later }
def FuncgenDistanceCardSaid : Prop := Claim7.holds Tryz.pinned (.plain (OpenSpec.ofChange funcgenDistanceSpec)) funcgenDistanceCard

/-- THE SECOND FORM's CARD OF 'linkworklaw48.FuncgenMakes'. -/
def funcgenMakesUptoCard : Claim7 := { stood := { row := funcgenMakesUptoRow, standIns := [], harness := (true, "e77fd2b898f2c83a92d4b8090c7c61b53952f642e0c300b31a596793329709e7"), looks := true }, kinds := [], alts := [], laidByText := true, laidKinds := [.data, .data, .data], laidTests := true, laidLooks := .later }
def FuncgenMakesUptoCardSaid : Prop := Claim7.holds Tryz.pinned (.plain (OpenSpec.upto funcgenMakesSpec)) funcgenMakesUptoCard

/-- THE SECOND FORM's CARD OF 'linkworklaw48.FuncgenFits'. -/
def funcgenFitsUptoCard : Claim7 := { stood := { row := funcgenFitsUptoRow, standIns := [], harness := (true, "e77fd2b898f2c83a92d4b8090c7c61b53952f642e0c300b31a596793329709e7"), looks := true }, kinds := [], alts := [], laidByText := true, laidKinds := [.data, .data, .data], laidTests := true, laidLooks := .later }
def FuncgenFitsUptoCardSaid : Prop := Claim7.holds Tryz.pinned (.plain (OpenSpec.upto funcgenFitsSpec)) funcgenFitsUptoCard

/-- THE SECOND FORM's CARD OF 'linkworklaw48.FuncgenFinds'. -/
def funcgenFindsUptoCard : Claim7 := { stood := { row := funcgenFindsUptoRow, standIns := [], harness := (true, "e77fd2b898f2c83a92d4b8090c7c61b53952f642e0c300b31a596793329709e7"), looks := true }, kinds := [], alts := [], laidByText := true, laidKinds := [.data, .data, .data], laidTests := true, laidLooks := .later }
def FuncgenFindsUptoCardSaid : Prop := Claim7.holds Tryz.pinned (.plain (OpenSpec.upto funcgenFindsSpec)) funcgenFindsUptoCard

/-- THE SECOND FORM's CARD OF 'linkworklaw48.FuncgenMade'. -/
def funcgenMadeUptoCard : Claim7 := { stood := { row := funcgenMadeUptoRow, standIns := [], harness := (true, "e77fd2b898f2c83a92d4b8090c7c61b53952f642e0c300b31a596793329709e7"), looks := true }, kinds := [], alts := [], laidByText := true, laidKinds := [.data, .data, .data], laidTests := true, laidLooks := .later }
def FuncgenMadeUptoCardSaid : Prop := Claim7.holds Tryz.pinned (.plain (OpenSpec.upto funcgenMadeSpec)) funcgenMadeUptoCard

/-- THE SECOND FORM's CARD OF 'linkworklaw48.FuncgenScales'. -/
def funcgenScalesUptoCard : Claim7 := { stood := { row := funcgenScalesUptoRow, standIns := [], harness := (true, "e77fd2b898f2c83a92d4b8090c7c61b53952f642e0c300b31a596793329709e7"), looks := true }, kinds := [], alts := [], laidByText := true, laidKinds := [.data, .data, .data], laidTests := true, laidLooks := .later }
def FuncgenScalesUptoCardSaid : Prop := Claim7.holds Tryz.pinned (.plain (OpenSpec.upto funcgenScalesSpec)) funcgenScalesUptoCard

/-- THE SECOND FORM's CARD OF 'linkworklaw48.FuncgenErrors'. -/
def funcgenErrorsUptoCard : Claim7 := { stood := { row := funcgenErrorsUptoRow, standIns := [], harness := (true, "e77fd2b898f2c83a92d4b8090c7c61b53952f642e0c300b31a596793329709e7"), looks := true }, kinds := [], alts := [], laidByText := true, laidKinds := [.data, .data, .data], laidTests := true, laidLooks := .later }
def FuncgenErrorsUptoCardSaid : Prop := Claim7.holds Tryz.pinned (.plain (OpenSpec.upto funcgenErrorsSpec)) funcgenErrorsUptoCard

/-- THE SECOND FORM's CARD OF 'linkworklaw48.FuncgenDistance'. -/
def funcgenDistanceUptoCard : Claim7 := { stood := { row := funcgenDistanceUptoRow, standIns := [], harness := (true, "e77fd2b898f2c83a92d4b8090c7c61b53952f642e0c300b31a596793329709e7"), looks := true }, kinds := [], alts := [], laidByText := true, laidKinds := [.data, .data, .data], laidTests := true, laidLooks := .later }
def FuncgenDistanceUptoCardSaid : Prop := Claim7.holds Tryz.pinned (.plain (OpenSpec.upto funcgenDistanceSpec)) funcgenDistanceUptoCard
end Rows
end Go.Proofs.YtmgkbhjilkkjiaaGreatDoor
