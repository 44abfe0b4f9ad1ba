/-
  NARROWER THAN 'FOR EVERY INPUT', by the rows' own cells (each row's printed sentence says how): PolesPairs: laid · PolesCentres: laid · PolesLines: laid · PolesAbout: laid · PolesLists: laid · PolesStay: laid · PolesThree: laid.
  DERIVED. THE GIVEN ROWS OF THIS SEAT. 7 by the template 'for every input the law returns true; each argument reads behind the call as it read before'; 0 by the template 'total and deterministic' (their statements: YthccbdlkfiogiaaGreatDoorTotals.lean).
  GIVEN WITH THE SEED: the statements are not yours to turn. If you find one false, say at which input.
  Laid BY PROGRAM, IN A SANDBOX (cutbox-rows.mjs): the forced cells as the released guide's own fill.sh prints them over the translation 6ab29d187b5a94e0… (all of the seat's roots in one cut). By AI agents, Wed Nov 11 2026. No macro, syntax, notation, axiom, sorry.
-/
import Derived.Test.YthccbdlkfiogiaaGreatDoorChecked
import GoSem.Claim
import GoSem.ClaimJoined
import GoSem.ClaimMapViews
import Derived.JoinedTies
import Derived.KernelRfl
namespace Go.Proofs.YthccbdlkfiogiaaGreatDoor
/- THE CELL 'sum', in the pinned program and in every row, IS THE sha256 OF THE DUMP (.gsa) THAT YthccbdlkfiogiaaGreatDoorProg.lean LOADS. Nothing in Lean hashes anything: it is a label: what it is worth is what the hold of that sum in a sandbox is worth. -/
noncomputable def Tryz.pinned : Pinned := { name := "ythccbdlkfiogiaagreatdoor", sum := "6ab29d187b5a94e07b85f0d4de87bf4e3fc1183e08e4e3f3a80c2fa1a145c996", checked := Tryz.checked }
namespace Rows
def none {H : Type} : Left H := { results := [], args := [] }

/- WHAT THE LISTED PACKAGE-LEVEL VARIABLES READ AS WHEN THE CALL BEGINS. Each datum BY PROGRAM (the guide's laid-datum.mjs) off the statement by which the dump's own 'gosem.cut.vars' lays the variable. In a bare row this is a premise. The card (YthccbdlkfiogiaaGreatDoorCards.lean) ties it to the program's text. -/
def laid_math_bits_deBruijn32tab {H : Type} : DataW H := .agg [.lit (.int .u8 0), .lit (.int .u8 1), .lit (.int .u8 28), .lit (.int .u8 2), .lit (.int .u8 29), .lit (.int .u8 14), .lit (.int .u8 24), .lit (.int .u8 3), .lit (.int .u8 30), .lit (.int .u8 22), .lit (.int .u8 20), .lit (.int .u8 15), .lit (.int .u8 25), .lit (.int .u8 17), .lit (.int .u8 4), .lit (.int .u8 8), .lit (.int .u8 31), .lit (.int .u8 27), .lit (.int .u8 13), .lit (.int .u8 23), .lit (.int .u8 21), .lit (.int .u8 19), .lit (.int .u8 16), .lit (.int .u8 7), .lit (.int .u8 26), .lit (.int .u8 12), .lit (.int .u8 18), .lit (.int .u8 6), .lit (.int .u8 11), .lit (.int .u8 5), .lit (.int .u8 10), .lit (.int .u8 9)]
def laid_math_bits_deBruijn64tab {H : Type} : DataW H := .agg [.lit (.int .u8 0), .lit (.int .u8 1), .lit (.int .u8 56), .lit (.int .u8 2), .lit (.int .u8 57), .lit (.int .u8 49), .lit (.int .u8 28), .lit (.int .u8 3), .lit (.int .u8 61), .lit (.int .u8 58), .lit (.int .u8 42), .lit (.int .u8 50), .lit (.int .u8 38), .lit (.int .u8 29), .lit (.int .u8 17), .lit (.int .u8 4), .lit (.int .u8 62), .lit (.int .u8 47), .lit (.int .u8 59), .lit (.int .u8 36), .lit (.int .u8 45), .lit (.int .u8 43), .lit (.int .u8 51), .lit (.int .u8 22), .lit (.int .u8 53), .lit (.int .u8 39), .lit (.int .u8 33), .lit (.int .u8 30), .lit (.int .u8 24), .lit (.int .u8 18), .lit (.int .u8 12), .lit (.int .u8 5), .lit (.int .u8 63), .lit (.int .u8 55), .lit (.int .u8 48), .lit (.int .u8 27), .lit (.int .u8 60), .lit (.int .u8 41), .lit (.int .u8 37), .lit (.int .u8 16), .lit (.int .u8 46), .lit (.int .u8 35), .lit (.int .u8 44), .lit (.int .u8 21), .lit (.int .u8 52), .lit (.int .u8 32), .lit (.int .u8 23), .lit (.int .u8 11), .lit (.int .u8 54), .lit (.int .u8 26), .lit (.int .u8 40), .lit (.int .u8 15), .lit (.int .u8 34), .lit (.int .u8 20), .lit (.int .u8 31), .lit (.int .u8 10), .lit (.int .u8 25), .lit (.int .u8 14), .lit (.int .u8 19), .lit (.int .u8 9), .lit (.int .u8 13), .lit (.int .u8 8), .lit (.int .u8 7), .lit (.int .u8 6)]
def laid_internal_strconv_uint64pow10 {H : Type} : DataW H := .agg [.lit (.int .u64 1), .lit (.int .u64 10), .lit (.int .u64 100), .lit (.int .u64 1000), .lit (.int .u64 10000), .lit (.int .u64 100000), .lit (.int .u64 1000000), .lit (.int .u64 10000000), .lit (.int .u64 100000000), .lit (.int .u64 1000000000), .lit (.int .u64 10000000000), .lit (.int .u64 100000000000), .lit (.int .u64 1000000000000), .lit (.int .u64 10000000000000), .lit (.int .u64 100000000000000), .lit (.int .u64 1000000000000000), .lit (.int .u64 10000000000000000), .lit (.int .u64 100000000000000000), .lit (.int .u64 1000000000000000000), .lit (.int .u64 10000000000000000000)]

/-- 'linkworklaw45.PolesPairs': WHATEVER THE INPUT: true; the input reads as it did. -/
def polesPairsSpec : ChangeSpec := { name := "polesPairs", fn := fun _ => fun
  | [d1, d2] => { results := [.lit (.bool true)], args := [d1, d2] }
  | _ => none }
def polesPairsRow : OpenClaim := { program := "ythccbdlkfiogiaagreatdoor", sum := "6ab29d187b5a94e07b85f0d4de87bf4e3fc1183e08e4e3f3a80c2fa1a145c996", func := "linkwork/linkworklaw45.PolesPairs", spec := "polesPairs", inPlace := ["internal/abi.NoEscape", "internal/bytealg.MakeNoZero"], recurses := true, named := ["internal/strconv.uint64pow10", "math/bits.deBruijn32tab", "math/bits.deBruijn64tab"], apart := false, laid := [("math/bits.deBruijn32tab", laid_math_bits_deBruijn32tab), ("math/bits.deBruijn64tab", laid_math_bits_deBruijn64tab), ("internal/strconv.uint64pow10", laid_internal_strconv_uint64pow10)] }
def PolesPairsSaid : Prop := polesPairsRow.holds Tryz.pinned (OpenSpec.ofChange polesPairsSpec)

/-- ITS FALSE NEIGHBOUR: 'it returns false'. Refute it at one input. -/
def polesPairsWrong : ChangeSpec := { name := "polesPairs", fn := fun _ => fun
  | [d1, d2] => { results := [.lit (.bool false)], args := [d1, d2] }
  | _ => none }
def PolesPairsWrongFalsely : Prop := polesPairsRow.holds Tryz.pinned (OpenSpec.ofChange polesPairsWrong)

/-- 'linkworklaw45.PolesCentres': WHATEVER THE INPUT: true; the input reads as it did. -/
def polesCentresSpec : ChangeSpec := { name := "polesCentres", fn := fun _ => fun
  | [d1, d2, d3] => { results := [.lit (.bool true)], args := [d1, d2, d3] }
  | _ => none }
def polesCentresRow : OpenClaim := { program := "ythccbdlkfiogiaagreatdoor", sum := "6ab29d187b5a94e07b85f0d4de87bf4e3fc1183e08e4e3f3a80c2fa1a145c996", func := "linkwork/linkworklaw45.PolesCentres", spec := "polesCentres", inPlace := ["internal/abi.NoEscape", "internal/bytealg.MakeNoZero"], recurses := true, named := ["internal/strconv.uint64pow10", "math/bits.deBruijn32tab", "math/bits.deBruijn64tab"], apart := false, laid := [("math/bits.deBruijn32tab", laid_math_bits_deBruijn32tab), ("math/bits.deBruijn64tab", laid_math_bits_deBruijn64tab), ("internal/strconv.uint64pow10", laid_internal_strconv_uint64pow10)] }
def PolesCentresSaid : Prop := polesCentresRow.holds Tryz.pinned (OpenSpec.ofChange polesCentresSpec)

/-- ITS FALSE NEIGHBOUR: 'it returns false'. Refute it at one input. -/
def polesCentresWrong : ChangeSpec := { name := "polesCentres", fn := fun _ => fun
  | [d1, d2, d3] => { results := [.lit (.bool false)], args := [d1, d2, d3] }
  | _ => none }
def PolesCentresWrongFalsely : Prop := polesCentresRow.holds Tryz.pinned (OpenSpec.ofChange polesCentresWrong)

/-- 'linkworklaw45.PolesLines': WHATEVER THE INPUT: true; the input reads as it did. -/
def polesLinesSpec : ChangeSpec := { name := "polesLines", fn := fun _ => fun
  | [d1, d2, d3] => { results := [.lit (.bool true)], args := [d1, d2, d3] }
  | _ => none }
def polesLinesRow : OpenClaim := { program := "ythccbdlkfiogiaagreatdoor", sum := "6ab29d187b5a94e07b85f0d4de87bf4e3fc1183e08e4e3f3a80c2fa1a145c996", func := "linkwork/linkworklaw45.PolesLines", spec := "polesLines", inPlace := ["internal/abi.NoEscape", "internal/bytealg.MakeNoZero"], recurses := true, named := ["internal/strconv.uint64pow10", "math/bits.deBruijn32tab", "math/bits.deBruijn64tab"], apart := false, laid := [("math/bits.deBruijn32tab", laid_math_bits_deBruijn32tab), ("math/bits.deBruijn64tab", laid_math_bits_deBruijn64tab), ("internal/strconv.uint64pow10", laid_internal_strconv_uint64pow10)] }
def PolesLinesSaid : Prop := polesLinesRow.holds Tryz.pinned (OpenSpec.ofChange polesLinesSpec)

/-- ITS FALSE NEIGHBOUR: 'it returns false'. Refute it at one input. -/
def polesLinesWrong : ChangeSpec := { name := "polesLines", fn := fun _ => fun
  | [d1, d2, d3] => { results := [.lit (.bool false)], args := [d1, d2, d3] }
  | _ => none }
def PolesLinesWrongFalsely : Prop := polesLinesRow.holds Tryz.pinned (OpenSpec.ofChange polesLinesWrong)

/-- 'linkworklaw45.PolesAbout': WHATEVER THE INPUT: true; the input reads as it did. -/
def polesAboutSpec : ChangeSpec := { name := "polesAbout", fn := fun _ => fun
  | [d1, d2] => { results := [.lit (.bool true)], args := [d1, d2] }
  | _ => none }
def polesAboutRow : OpenClaim := { program := "ythccbdlkfiogiaagreatdoor", sum := "6ab29d187b5a94e07b85f0d4de87bf4e3fc1183e08e4e3f3a80c2fa1a145c996", func := "linkwork/linkworklaw45.PolesAbout", spec := "polesAbout", inPlace := ["internal/abi.NoEscape", "internal/bytealg.MakeNoZero"], recurses := true, named := ["internal/strconv.uint64pow10", "math/bits.deBruijn32tab", "math/bits.deBruijn64tab"], apart := false, laid := [("math/bits.deBruijn32tab", laid_math_bits_deBruijn32tab), ("math/bits.deBruijn64tab", laid_math_bits_deBruijn64tab), ("internal/strconv.uint64pow10", laid_internal_strconv_uint64pow10)] }
def PolesAboutSaid : Prop := polesAboutRow.holds Tryz.pinned (OpenSpec.ofChange polesAboutSpec)

/-- ITS FALSE NEIGHBOUR: 'it returns false'. Refute it at one input. -/
def polesAboutWrong : ChangeSpec := { name := "polesAbout", fn := fun _ => fun
  | [d1, d2] => { results := [.lit (.bool false)], args := [d1, d2] }
  | _ => none }
def PolesAboutWrongFalsely : Prop := polesAboutRow.holds Tryz.pinned (OpenSpec.ofChange polesAboutWrong)

/-- 'linkworklaw45.PolesLists': WHATEVER THE INPUT: true; the input reads as it did. -/
def polesListsSpec : ChangeSpec := { name := "polesLists", fn := fun _ => fun
  | [d] => { results := [.lit (.bool true)], args := [d] }
  | _ => none }
def polesListsRow : OpenClaim := { program := "ythccbdlkfiogiaagreatdoor", sum := "6ab29d187b5a94e07b85f0d4de87bf4e3fc1183e08e4e3f3a80c2fa1a145c996", func := "linkwork/linkworklaw45.PolesLists", spec := "polesLists", inPlace := ["internal/abi.NoEscape", "internal/bytealg.MakeNoZero"], recurses := true, named := ["internal/strconv.uint64pow10", "math/bits.deBruijn32tab", "math/bits.deBruijn64tab"], apart := false, laid := [("math/bits.deBruijn32tab", laid_math_bits_deBruijn32tab), ("math/bits.deBruijn64tab", laid_math_bits_deBruijn64tab), ("internal/strconv.uint64pow10", laid_internal_strconv_uint64pow10)] }
def PolesListsSaid : Prop := polesListsRow.holds Tryz.pinned (OpenSpec.ofChange polesListsSpec)

/-- ITS FALSE NEIGHBOUR: 'it returns false'. Refute it at one input. -/
def polesListsWrong : ChangeSpec := { name := "polesLists", fn := fun _ => fun
  | [d] => { results := [.lit (.bool false)], args := [d] }
  | _ => none }
def PolesListsWrongFalsely : Prop := polesListsRow.holds Tryz.pinned (OpenSpec.ofChange polesListsWrong)

/-- 'linkworklaw45.PolesStay': WHATEVER THE INPUT: true; the input reads as it did. -/
def polesStaySpec : ChangeSpec := { name := "polesStay", fn := fun _ => fun
  | [d1, d2] => { results := [.lit (.bool true)], args := [d1, d2] }
  | _ => none }
def polesStayRow : OpenClaim := { program := "ythccbdlkfiogiaagreatdoor", sum := "6ab29d187b5a94e07b85f0d4de87bf4e3fc1183e08e4e3f3a80c2fa1a145c996", func := "linkwork/linkworklaw45.PolesStay", spec := "polesStay", inPlace := ["internal/abi.NoEscape", "internal/bytealg.MakeNoZero"], recurses := true, named := ["internal/strconv.uint64pow10", "math/bits.deBruijn32tab", "math/bits.deBruijn64tab"], apart := false, laid := [("math/bits.deBruijn32tab", laid_math_bits_deBruijn32tab), ("math/bits.deBruijn64tab", laid_math_bits_deBruijn64tab), ("internal/strconv.uint64pow10", laid_internal_strconv_uint64pow10)] }
def PolesStaySaid : Prop := polesStayRow.holds Tryz.pinned (OpenSpec.ofChange polesStaySpec)

/-- ITS FALSE NEIGHBOUR: 'it returns false'. Refute it at one input. -/
def polesStayWrong : ChangeSpec := { name := "polesStay", fn := fun _ => fun
  | [d1, d2] => { results := [.lit (.bool false)], args := [d1, d2] }
  | _ => none }
def PolesStayWrongFalsely : Prop := polesStayRow.holds Tryz.pinned (OpenSpec.ofChange polesStayWrong)

/-- 'linkworklaw45.PolesThree': WHATEVER THE INPUT: true; the input reads as it did. -/
def polesThreeSpec : ChangeSpec := { name := "polesThree", fn := fun _ => fun
  | [d] => { results := [.lit (.bool true)], args := [d] }
  | _ => none }
def polesThreeRow : OpenClaim := { program := "ythccbdlkfiogiaagreatdoor", sum := "6ab29d187b5a94e07b85f0d4de87bf4e3fc1183e08e4e3f3a80c2fa1a145c996", func := "linkwork/linkworklaw45.PolesThree", spec := "polesThree", inPlace := ["internal/abi.NoEscape", "internal/bytealg.MakeNoZero"], recurses := true, named := ["internal/strconv.uint64pow10", "math/bits.deBruijn32tab", "math/bits.deBruijn64tab"], apart := false, laid := [("math/bits.deBruijn32tab", laid_math_bits_deBruijn32tab), ("math/bits.deBruijn64tab", laid_math_bits_deBruijn64tab), ("internal/strconv.uint64pow10", laid_internal_strconv_uint64pow10)] }
def PolesThreeSaid : Prop := polesThreeRow.holds Tryz.pinned (OpenSpec.ofChange polesThreeSpec)

/-- ITS FALSE NEIGHBOUR: 'it returns false'. Refute it at one input. -/
def polesThreeWrong : ChangeSpec := { name := "polesThree", fn := fun _ => fun
  | [d] => { results := [.lit (.bool false)], args := [d] }
  | _ => none }
def PolesThreeWrongFalsely : Prop := polesThreeRow.holds Tryz.pinned (OpenSpec.ofChange polesThreeWrong)

/- THE SECOND FORM. 'bulk': how many values and letters a reading holds, each counted each time it is reached (what is shared counts as often as it is met; a slice's spare places count too). A statement '..UptoSaid' is the law's where the arguments, and the package variables that the reading takes, are together of bulk at most 1048576: NARROWER than '..Said'. Prove '..Said' where nothing that the law and all that it calls make is longer than what came in: it says more and counts as full. Else prove '..UptoSaid'. A law counts once. -/
mutual
def uptoBulk {H : Type} : DataW H → Nat
  | .lit (.string bytes) => bytes.length + 1
  | .lit _ => 1
  | .nil => 1
  | .ptr d => uptoBulk d + 1
  | .slice elems spare => uptoBulkAll elems + uptoBulkAll spare + 1
  | .agg parts => uptoBulkAll parts + 1
  | .iface _ d => uptoBulk d + 1
  | .map entries => uptoBulkEntries entries + 1
  | .held _ => 1
def uptoBulkAll {H : Type} : List (DataW H) → Nat
  | [] => 0
  | d :: r => uptoBulk d + uptoBulkAll r
def uptoBulkEntries {H : Type} : List (Lit × DataW H) → Nat
  | [] => 0
  | x :: r => uptoBulkEntry x + uptoBulkEntries r
def uptoBulkEntry {H : Type} : Lit × DataW H → Nat
  | (.string bytes, d) => bytes.length + uptoBulk d + 1
  | (_, d) => uptoBulk d + 1
 end
def uptoSmall : (H : Type) → List (DataW H) → Bool := fun _ ds => decide (uptoBulkAll ds ≤ 1048576)
def OpenSpec.upto (s : _root_.Go.ChangeSpec) : _root_.Go.OpenSpec := { _root_.Go.OpenSpec.ofChange s with cond := some uptoSmall }

/-- 'linkworklaw45.PolesPairs', WHERE WHAT IT READS IS OF BULK AT MOST 1048576: true; the input reads as it did. -/
def polesPairsUptoRow : OpenClaim := { program := "ythccbdlkfiogiaagreatdoor", sum := "6ab29d187b5a94e07b85f0d4de87bf4e3fc1183e08e4e3f3a80c2fa1a145c996", func := "linkwork/linkworklaw45.PolesPairs", spec := "polesPairs", inPlace := ["internal/abi.NoEscape", "internal/bytealg.MakeNoZero"], recurses := true, named := ["internal/strconv.uint64pow10", "math/bits.deBruijn32tab", "math/bits.deBruijn64tab"], apart := false, laid := [("math/bits.deBruijn32tab", laid_math_bits_deBruijn32tab), ("math/bits.deBruijn64tab", laid_math_bits_deBruijn64tab), ("internal/strconv.uint64pow10", laid_internal_strconv_uint64pow10)], narrowed := true }
def PolesPairsUptoSaid : Prop := polesPairsUptoRow.holds Tryz.pinned (OpenSpec.upto polesPairsSpec)

/-- 'linkworklaw45.PolesCentres', WHERE WHAT IT READS IS OF BULK AT MOST 1048576: true; the input reads as it did. -/
def polesCentresUptoRow : OpenClaim := { program := "ythccbdlkfiogiaagreatdoor", sum := "6ab29d187b5a94e07b85f0d4de87bf4e3fc1183e08e4e3f3a80c2fa1a145c996", func := "linkwork/linkworklaw45.PolesCentres", spec := "polesCentres", inPlace := ["internal/abi.NoEscape", "internal/bytealg.MakeNoZero"], recurses := true, named := ["internal/strconv.uint64pow10", "math/bits.deBruijn32tab", "math/bits.deBruijn64tab"], apart := false, laid := [("math/bits.deBruijn32tab", laid_math_bits_deBruijn32tab), ("math/bits.deBruijn64tab", laid_math_bits_deBruijn64tab), ("internal/strconv.uint64pow10", laid_internal_strconv_uint64pow10)], narrowed := true }
def PolesCentresUptoSaid : Prop := polesCentresUptoRow.holds Tryz.pinned (OpenSpec.upto polesCentresSpec)

/-- 'linkworklaw45.PolesLines', WHERE WHAT IT READS IS OF BULK AT MOST 1048576: true; the input reads as it did. -/
def polesLinesUptoRow : OpenClaim := { program := "ythccbdlkfiogiaagreatdoor", sum := "6ab29d187b5a94e07b85f0d4de87bf4e3fc1183e08e4e3f3a80c2fa1a145c996", func := "linkwork/linkworklaw45.PolesLines", spec := "polesLines", inPlace := ["internal/abi.NoEscape", "internal/bytealg.MakeNoZero"], recurses := true, named := ["internal/strconv.uint64pow10", "math/bits.deBruijn32tab", "math/bits.deBruijn64tab"], apart := false, laid := [("math/bits.deBruijn32tab", laid_math_bits_deBruijn32tab), ("math/bits.deBruijn64tab", laid_math_bits_deBruijn64tab), ("internal/strconv.uint64pow10", laid_internal_strconv_uint64pow10)], narrowed := true }
def PolesLinesUptoSaid : Prop := polesLinesUptoRow.holds Tryz.pinned (OpenSpec.upto polesLinesSpec)

/-- 'linkworklaw45.PolesAbout', WHERE WHAT IT READS IS OF BULK AT MOST 1048576: true; the input reads as it did. -/
def polesAboutUptoRow : OpenClaim := { program := "ythccbdlkfiogiaagreatdoor", sum := "6ab29d187b5a94e07b85f0d4de87bf4e3fc1183e08e4e3f3a80c2fa1a145c996", func := "linkwork/linkworklaw45.PolesAbout", spec := "polesAbout", inPlace := ["internal/abi.NoEscape", "internal/bytealg.MakeNoZero"], recurses := true, named := ["internal/strconv.uint64pow10", "math/bits.deBruijn32tab", "math/bits.deBruijn64tab"], apart := false, laid := [("math/bits.deBruijn32tab", laid_math_bits_deBruijn32tab), ("math/bits.deBruijn64tab", laid_math_bits_deBruijn64tab), ("internal/strconv.uint64pow10", laid_internal_strconv_uint64pow10)], narrowed := true }
def PolesAboutUptoSaid : Prop := polesAboutUptoRow.holds Tryz.pinned (OpenSpec.upto polesAboutSpec)

/-- 'linkworklaw45.PolesLists', WHERE WHAT IT READS IS OF BULK AT MOST 1048576: true; the input reads as it did. -/
def polesListsUptoRow : OpenClaim := { program := "ythccbdlkfiogiaagreatdoor", sum := "6ab29d187b5a94e07b85f0d4de87bf4e3fc1183e08e4e3f3a80c2fa1a145c996", func := "linkwork/linkworklaw45.PolesLists", spec := "polesLists", inPlace := ["internal/abi.NoEscape", "internal/bytealg.MakeNoZero"], recurses := true, named := ["internal/strconv.uint64pow10", "math/bits.deBruijn32tab", "math/bits.deBruijn64tab"], apart := false, laid := [("math/bits.deBruijn32tab", laid_math_bits_deBruijn32tab), ("math/bits.deBruijn64tab", laid_math_bits_deBruijn64tab), ("internal/strconv.uint64pow10", laid_internal_strconv_uint64pow10)], narrowed := true }
def PolesListsUptoSaid : Prop := polesListsUptoRow.holds Tryz.pinned (OpenSpec.upto polesListsSpec)

/-- 'linkworklaw45.PolesStay', WHERE WHAT IT READS IS OF BULK AT MOST 1048576: true; the input reads as it did. -/
def polesStayUptoRow : OpenClaim := { program := "ythccbdlkfiogiaagreatdoor", sum := "6ab29d187b5a94e07b85f0d4de87bf4e3fc1183e08e4e3f3a80c2fa1a145c996", func := "linkwork/linkworklaw45.PolesStay", spec := "polesStay", inPlace := ["internal/abi.NoEscape", "internal/bytealg.MakeNoZero"], recurses := true, named := ["internal/strconv.uint64pow10", "math/bits.deBruijn32tab", "math/bits.deBruijn64tab"], apart := false, laid := [("math/bits.deBruijn32tab", laid_math_bits_deBruijn32tab), ("math/bits.deBruijn64tab", laid_math_bits_deBruijn64tab), ("internal/strconv.uint64pow10", laid_internal_strconv_uint64pow10)], narrowed := true }
def PolesStayUptoSaid : Prop := polesStayUptoRow.holds Tryz.pinned (OpenSpec.upto polesStaySpec)

/-- 'linkworklaw45.PolesThree', WHERE WHAT IT READS IS OF BULK AT MOST 1048576: true; the input reads as it did. -/
def polesThreeUptoRow : OpenClaim := { program := "ythccbdlkfiogiaagreatdoor", sum := "6ab29d187b5a94e07b85f0d4de87bf4e3fc1183e08e4e3f3a80c2fa1a145c996", func := "linkwork/linkworklaw45.PolesThree", spec := "polesThree", inPlace := ["internal/abi.NoEscape", "internal/bytealg.MakeNoZero"], recurses := true, named := ["internal/strconv.uint64pow10", "math/bits.deBruijn32tab", "math/bits.deBruijn64tab"], apart := false, laid := [("math/bits.deBruijn32tab", laid_math_bits_deBruijn32tab), ("math/bits.deBruijn64tab", laid_math_bits_deBruijn64tab), ("internal/strconv.uint64pow10", laid_internal_strconv_uint64pow10)], narrowed := true }
def PolesThreeUptoSaid : Prop := polesThreeUptoRow.holds Tryz.pinned (OpenSpec.upto polesThreeSpec)

end Rows
end Go.Proofs.YthccbdlkfiogiaaGreatDoor
