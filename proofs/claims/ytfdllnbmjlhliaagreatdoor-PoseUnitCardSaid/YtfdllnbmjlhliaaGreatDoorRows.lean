/-
  NARROWER THAN 'FOR EVERY INPUT', by the rows' own cells (each row's printed sentence says how): PoseImages: laid · PosePowers: laid · PoseFixed: laid · PoseRigid: laid · PoseUnit: laid · PoseJoins: laid · PoseGroup: laid.
  DERIVED. THE GIVEN ROWS OF THIS SEAT. 7 by the template 'for every input the law returns true; each argument reads behind the call as it read before'; 0 by the template 'total and deterministic' (their statements: YtfdllnbmjlhliaaGreatDoorTotals.lean).
  GIVEN WITH THE SEED: the statements are not yours to turn. If you find one false, say at which input.
  Laid BY PROGRAM, IN A SANDBOX (cutbox-rows.mjs): the forced cells as the released guide's own fill.sh prints them over the translation 08720d2d2fe3c558… (all of the seat's roots in one cut). By AI agents, Wed Nov 11 2026. No macro, syntax, notation, axiom, sorry.
-/
import Derived.Test.YtfdllnbmjlhliaaGreatDoorChecked
import GoSem.Claim
import GoSem.ClaimJoined
import GoSem.ClaimMapViews
import Derived.JoinedTies
import Derived.KernelRfl
namespace Go.Proofs.YtfdllnbmjlhliaaGreatDoor
/- THE CELL 'sum', in the pinned program and in every row, IS THE sha256 OF THE DUMP (.gsa) THAT YtfdllnbmjlhliaaGreatDoorProg.lean LOADS. Nothing in Lean hashes anything: it is a label: what it is worth is what the hold of that sum in a sandbox is worth. -/
noncomputable def Tryz.pinned : Pinned := { name := "ytfdllnbmjlhliaagreatdoor", sum := "08720d2d2fe3c558d74b4e75a0c09806935edf0dbede17f978ff62299e36d25a", checked := Tryz.checked }
namespace Rows
def none {H : Type} : Left H := { results := [], args := [] }

/- WHAT THE LISTED PACKAGE-LEVEL VARIABLES READ AS WHEN THE CALL BEGINS. Each datum BY PROGRAM (the guide's laid-datum.mjs) off the statement by which the dump's own 'gosem.cut.vars' lays the variable. In a bare row this is a premise. The card (YtfdllnbmjlhliaaGreatDoorCards.lean) ties it to the program's text. -/
def laid_math_bits_deBruijn32tab {H : Type} : DataW H := .agg [.lit (.int .u8 0), .lit (.int .u8 1), .lit (.int .u8 28), .lit (.int .u8 2), .lit (.int .u8 29), .lit (.int .u8 14), .lit (.int .u8 24), .lit (.int .u8 3), .lit (.int .u8 30), .lit (.int .u8 22), .lit (.int .u8 20), .lit (.int .u8 15), .lit (.int .u8 25), .lit (.int .u8 17), .lit (.int .u8 4), .lit (.int .u8 8), .lit (.int .u8 31), .lit (.int .u8 27), .lit (.int .u8 13), .lit (.int .u8 23), .lit (.int .u8 21), .lit (.int .u8 19), .lit (.int .u8 16), .lit (.int .u8 7), .lit (.int .u8 26), .lit (.int .u8 12), .lit (.int .u8 18), .lit (.int .u8 6), .lit (.int .u8 11), .lit (.int .u8 5), .lit (.int .u8 10), .lit (.int .u8 9)]
def laid_math_bits_deBruijn64tab {H : Type} : DataW H := .agg [.lit (.int .u8 0), .lit (.int .u8 1), .lit (.int .u8 56), .lit (.int .u8 2), .lit (.int .u8 57), .lit (.int .u8 49), .lit (.int .u8 28), .lit (.int .u8 3), .lit (.int .u8 61), .lit (.int .u8 58), .lit (.int .u8 42), .lit (.int .u8 50), .lit (.int .u8 38), .lit (.int .u8 29), .lit (.int .u8 17), .lit (.int .u8 4), .lit (.int .u8 62), .lit (.int .u8 47), .lit (.int .u8 59), .lit (.int .u8 36), .lit (.int .u8 45), .lit (.int .u8 43), .lit (.int .u8 51), .lit (.int .u8 22), .lit (.int .u8 53), .lit (.int .u8 39), .lit (.int .u8 33), .lit (.int .u8 30), .lit (.int .u8 24), .lit (.int .u8 18), .lit (.int .u8 12), .lit (.int .u8 5), .lit (.int .u8 63), .lit (.int .u8 55), .lit (.int .u8 48), .lit (.int .u8 27), .lit (.int .u8 60), .lit (.int .u8 41), .lit (.int .u8 37), .lit (.int .u8 16), .lit (.int .u8 46), .lit (.int .u8 35), .lit (.int .u8 44), .lit (.int .u8 21), .lit (.int .u8 52), .lit (.int .u8 32), .lit (.int .u8 23), .lit (.int .u8 11), .lit (.int .u8 54), .lit (.int .u8 26), .lit (.int .u8 40), .lit (.int .u8 15), .lit (.int .u8 34), .lit (.int .u8 20), .lit (.int .u8 31), .lit (.int .u8 10), .lit (.int .u8 25), .lit (.int .u8 14), .lit (.int .u8 19), .lit (.int .u8 9), .lit (.int .u8 13), .lit (.int .u8 8), .lit (.int .u8 7), .lit (.int .u8 6)]
def laid_internal_strconv_uint64pow10 {H : Type} : DataW H := .agg [.lit (.int .u64 1), .lit (.int .u64 10), .lit (.int .u64 100), .lit (.int .u64 1000), .lit (.int .u64 10000), .lit (.int .u64 100000), .lit (.int .u64 1000000), .lit (.int .u64 10000000), .lit (.int .u64 100000000), .lit (.int .u64 1000000000), .lit (.int .u64 10000000000), .lit (.int .u64 100000000000), .lit (.int .u64 1000000000000), .lit (.int .u64 10000000000000), .lit (.int .u64 100000000000000), .lit (.int .u64 1000000000000000), .lit (.int .u64 10000000000000000), .lit (.int .u64 100000000000000000), .lit (.int .u64 1000000000000000000), .lit (.int .u64 10000000000000000000)]

/-- 'linkworklaw17.PoseImages': WHATEVER THE INPUT: true; the input reads as it did. -/
def poseImagesSpec : ChangeSpec := { name := "poseImages", fn := fun _ => fun
  | [d1, d2] => { results := [.lit (.bool true)], args := [d1, d2] }
  | _ => none }
def poseImagesRow : OpenClaim := { program := "ytfdllnbmjlhliaagreatdoor", sum := "08720d2d2fe3c558d74b4e75a0c09806935edf0dbede17f978ff62299e36d25a", func := "linkwork/linkworklaw17.PoseImages", spec := "poseImages", inPlace := ["internal/abi.NoEscape", "internal/bytealg.MakeNoZero"], recurses := true, named := ["internal/strconv.uint64pow10", "math/bits.deBruijn32tab", "math/bits.deBruijn64tab"], apart := false, laid := [("math/bits.deBruijn32tab", laid_math_bits_deBruijn32tab), ("math/bits.deBruijn64tab", laid_math_bits_deBruijn64tab), ("internal/strconv.uint64pow10", laid_internal_strconv_uint64pow10)] }
def PoseImagesSaid : Prop := poseImagesRow.holds Tryz.pinned (OpenSpec.ofChange poseImagesSpec)

/-- ITS FALSE NEIGHBOUR: 'it returns false'. Refute it at one input. -/
def poseImagesWrong : ChangeSpec := { name := "poseImages", fn := fun _ => fun
  | [d1, d2] => { results := [.lit (.bool false)], args := [d1, d2] }
  | _ => none }
def PoseImagesWrongFalsely : Prop := poseImagesRow.holds Tryz.pinned (OpenSpec.ofChange poseImagesWrong)

/-- 'linkworklaw17.PosePowers': WHATEVER THE INPUT: true; the input reads as it did. -/
def posePowersSpec : ChangeSpec := { name := "posePowers", fn := fun _ => fun
  | [d1, d2] => { results := [.lit (.bool true)], args := [d1, d2] }
  | _ => none }
def posePowersRow : OpenClaim := { program := "ytfdllnbmjlhliaagreatdoor", sum := "08720d2d2fe3c558d74b4e75a0c09806935edf0dbede17f978ff62299e36d25a", func := "linkwork/linkworklaw17.PosePowers", spec := "posePowers", inPlace := ["internal/abi.NoEscape", "internal/bytealg.MakeNoZero"], recurses := true, named := ["internal/strconv.uint64pow10", "math/bits.deBruijn32tab", "math/bits.deBruijn64tab"], apart := false, laid := [("math/bits.deBruijn32tab", laid_math_bits_deBruijn32tab), ("math/bits.deBruijn64tab", laid_math_bits_deBruijn64tab), ("internal/strconv.uint64pow10", laid_internal_strconv_uint64pow10)] }
def PosePowersSaid : Prop := posePowersRow.holds Tryz.pinned (OpenSpec.ofChange posePowersSpec)

/-- ITS FALSE NEIGHBOUR: 'it returns false'. Refute it at one input. -/
def posePowersWrong : ChangeSpec := { name := "posePowers", fn := fun _ => fun
  | [d1, d2] => { results := [.lit (.bool false)], args := [d1, d2] }
  | _ => none }
def PosePowersWrongFalsely : Prop := posePowersRow.holds Tryz.pinned (OpenSpec.ofChange posePowersWrong)

/-- 'linkworklaw17.PoseFixed': WHATEVER THE INPUT: true; the input reads as it did. -/
def poseFixedSpec : ChangeSpec := { name := "poseFixed", fn := fun _ => fun
  | [d1, d2, d3] => { results := [.lit (.bool true)], args := [d1, d2, d3] }
  | _ => none }
def poseFixedRow : OpenClaim := { program := "ytfdllnbmjlhliaagreatdoor", sum := "08720d2d2fe3c558d74b4e75a0c09806935edf0dbede17f978ff62299e36d25a", func := "linkwork/linkworklaw17.PoseFixed", spec := "poseFixed", inPlace := ["internal/abi.NoEscape", "internal/bytealg.MakeNoZero"], recurses := true, named := ["internal/strconv.uint64pow10", "math/bits.deBruijn32tab", "math/bits.deBruijn64tab"], apart := false, laid := [("math/bits.deBruijn32tab", laid_math_bits_deBruijn32tab), ("math/bits.deBruijn64tab", laid_math_bits_deBruijn64tab), ("internal/strconv.uint64pow10", laid_internal_strconv_uint64pow10)] }
def PoseFixedSaid : Prop := poseFixedRow.holds Tryz.pinned (OpenSpec.ofChange poseFixedSpec)

/-- ITS FALSE NEIGHBOUR: 'it returns false'. Refute it at one input. -/
def poseFixedWrong : ChangeSpec := { name := "poseFixed", fn := fun _ => fun
  | [d1, d2, d3] => { results := [.lit (.bool false)], args := [d1, d2, d3] }
  | _ => none }
def PoseFixedWrongFalsely : Prop := poseFixedRow.holds Tryz.pinned (OpenSpec.ofChange poseFixedWrong)

/-- 'linkworklaw17.PoseRigid': WHATEVER THE INPUT: true; the input reads as it did. -/
def poseRigidSpec : ChangeSpec := { name := "poseRigid", fn := fun _ => fun
  | [d1, d2] => { results := [.lit (.bool true)], args := [d1, d2] }
  | _ => none }
def poseRigidRow : OpenClaim := { program := "ytfdllnbmjlhliaagreatdoor", sum := "08720d2d2fe3c558d74b4e75a0c09806935edf0dbede17f978ff62299e36d25a", func := "linkwork/linkworklaw17.PoseRigid", spec := "poseRigid", inPlace := ["internal/abi.NoEscape", "internal/bytealg.MakeNoZero"], recurses := true, named := ["internal/strconv.uint64pow10", "math/bits.deBruijn32tab", "math/bits.deBruijn64tab"], apart := false, laid := [("math/bits.deBruijn32tab", laid_math_bits_deBruijn32tab), ("math/bits.deBruijn64tab", laid_math_bits_deBruijn64tab), ("internal/strconv.uint64pow10", laid_internal_strconv_uint64pow10)] }
def PoseRigidSaid : Prop := poseRigidRow.holds Tryz.pinned (OpenSpec.ofChange poseRigidSpec)

/-- ITS FALSE NEIGHBOUR: 'it returns false'. Refute it at one input. -/
def poseRigidWrong : ChangeSpec := { name := "poseRigid", fn := fun _ => fun
  | [d1, d2] => { results := [.lit (.bool false)], args := [d1, d2] }
  | _ => none }
def PoseRigidWrongFalsely : Prop := poseRigidRow.holds Tryz.pinned (OpenSpec.ofChange poseRigidWrong)

/-- 'linkworklaw17.PoseUnit': WHATEVER THE INPUT: true; the input reads as it did. -/
def poseUnitSpec : ChangeSpec := { name := "poseUnit", fn := fun _ => fun
  | [d] => { results := [.lit (.bool true)], args := [d] }
  | _ => none }
def poseUnitRow : OpenClaim := { program := "ytfdllnbmjlhliaagreatdoor", sum := "08720d2d2fe3c558d74b4e75a0c09806935edf0dbede17f978ff62299e36d25a", func := "linkwork/linkworklaw17.PoseUnit", spec := "poseUnit", inPlace := ["internal/abi.NoEscape", "internal/bytealg.MakeNoZero"], recurses := true, named := ["internal/strconv.uint64pow10", "math/bits.deBruijn32tab", "math/bits.deBruijn64tab"], apart := false, laid := [("math/bits.deBruijn32tab", laid_math_bits_deBruijn32tab), ("math/bits.deBruijn64tab", laid_math_bits_deBruijn64tab), ("internal/strconv.uint64pow10", laid_internal_strconv_uint64pow10)] }
def PoseUnitSaid : Prop := poseUnitRow.holds Tryz.pinned (OpenSpec.ofChange poseUnitSpec)

/-- ITS FALSE NEIGHBOUR: 'it returns false'. Refute it at one input. -/
def poseUnitWrong : ChangeSpec := { name := "poseUnit", fn := fun _ => fun
  | [d] => { results := [.lit (.bool false)], args := [d] }
  | _ => none }
def PoseUnitWrongFalsely : Prop := poseUnitRow.holds Tryz.pinned (OpenSpec.ofChange poseUnitWrong)

/-- 'linkworklaw17.PoseJoins': WHATEVER THE INPUT: true; the input reads as it did. -/
def poseJoinsSpec : ChangeSpec := { name := "poseJoins", fn := fun _ => fun
  | [d1, d2] => { results := [.lit (.bool true)], args := [d1, d2] }
  | _ => none }
def poseJoinsRow : OpenClaim := { program := "ytfdllnbmjlhliaagreatdoor", sum := "08720d2d2fe3c558d74b4e75a0c09806935edf0dbede17f978ff62299e36d25a", func := "linkwork/linkworklaw17.PoseJoins", spec := "poseJoins", inPlace := ["internal/abi.NoEscape", "internal/bytealg.MakeNoZero"], recurses := true, named := ["internal/strconv.uint64pow10", "math/bits.deBruijn32tab", "math/bits.deBruijn64tab"], apart := false, laid := [("math/bits.deBruijn32tab", laid_math_bits_deBruijn32tab), ("math/bits.deBruijn64tab", laid_math_bits_deBruijn64tab), ("internal/strconv.uint64pow10", laid_internal_strconv_uint64pow10)] }
def PoseJoinsSaid : Prop := poseJoinsRow.holds Tryz.pinned (OpenSpec.ofChange poseJoinsSpec)

/-- ITS FALSE NEIGHBOUR: 'it returns false'. Refute it at one input. -/
def poseJoinsWrong : ChangeSpec := { name := "poseJoins", fn := fun _ => fun
  | [d1, d2] => { results := [.lit (.bool false)], args := [d1, d2] }
  | _ => none }
def PoseJoinsWrongFalsely : Prop := poseJoinsRow.holds Tryz.pinned (OpenSpec.ofChange poseJoinsWrong)

/-- 'linkworklaw17.PoseGroup': WHATEVER THE INPUT: true; the input reads as it did. -/
def poseGroupSpec : ChangeSpec := { name := "poseGroup", fn := fun _ => fun
  | [d1, d2] => { results := [.lit (.bool true)], args := [d1, d2] }
  | _ => none }
def poseGroupRow : OpenClaim := { program := "ytfdllnbmjlhliaagreatdoor", sum := "08720d2d2fe3c558d74b4e75a0c09806935edf0dbede17f978ff62299e36d25a", func := "linkwork/linkworklaw17.PoseGroup", spec := "poseGroup", inPlace := ["internal/abi.NoEscape", "internal/bytealg.MakeNoZero"], recurses := true, named := ["internal/strconv.uint64pow10", "math/bits.deBruijn32tab", "math/bits.deBruijn64tab"], apart := false, laid := [("math/bits.deBruijn32tab", laid_math_bits_deBruijn32tab), ("math/bits.deBruijn64tab", laid_math_bits_deBruijn64tab), ("internal/strconv.uint64pow10", laid_internal_strconv_uint64pow10)] }
def PoseGroupSaid : Prop := poseGroupRow.holds Tryz.pinned (OpenSpec.ofChange poseGroupSpec)

/-- ITS FALSE NEIGHBOUR: 'it returns false'. Refute it at one input. -/
def poseGroupWrong : ChangeSpec := { name := "poseGroup", fn := fun _ => fun
  | [d1, d2] => { results := [.lit (.bool false)], args := [d1, d2] }
  | _ => none }
def PoseGroupWrongFalsely : Prop := poseGroupRow.holds Tryz.pinned (OpenSpec.ofChange poseGroupWrong)

/- THE SECOND FORM. 'bulk': how many values and letters a reading holds, each counted each time it is reached (what is shared counts as often as it is met; a slice's spare places count too). A statement '..UptoSaid' is the law's where the arguments, and the package variables that the reading takes, are together of bulk at most 1048576: NARROWER than '..Said'. Prove '..Said' where nothing that the law and all that it calls make is longer than what came in: it says more and counts as full. Else prove '..UptoSaid'. A law counts once. -/
mutual
def uptoBulk {H : Type} : DataW H → Nat
  | .lit (.string bytes) => bytes.length + 1
  | .lit _ => 1
  | .nil => 1
  | .ptr d => uptoBulk d + 1
  | .slice elems spare => uptoBulkAll elems + uptoBulkAll spare + 1
  | .agg parts => uptoBulkAll parts + 1
  | .iface _ d => uptoBulk d + 1
  | .map entries => uptoBulkEntries entries + 1
  | .held _ => 1
def uptoBulkAll {H : Type} : List (DataW H) → Nat
  | [] => 0
  | d :: r => uptoBulk d + uptoBulkAll r
def uptoBulkEntries {H : Type} : List (Lit × DataW H) → Nat
  | [] => 0
  | x :: r => uptoBulkEntry x + uptoBulkEntries r
def uptoBulkEntry {H : Type} : Lit × DataW H → Nat
  | (.string bytes, d) => bytes.length + uptoBulk d + 1
  | (_, d) => uptoBulk d + 1
 end
def uptoSmall : (H : Type) → List (DataW H) → Bool := fun _ ds => decide (uptoBulkAll ds ≤ 1048576)
def OpenSpec.upto (s : _root_.Go.ChangeSpec) : _root_.Go.OpenSpec := { _root_.Go.OpenSpec.ofChange s with cond := some uptoSmall }

/-- 'linkworklaw17.PoseImages', WHERE WHAT IT READS IS OF BULK AT MOST 1048576: true; the input reads as it did. -/
def poseImagesUptoRow : OpenClaim := { program := "ytfdllnbmjlhliaagreatdoor", sum := "08720d2d2fe3c558d74b4e75a0c09806935edf0dbede17f978ff62299e36d25a", func := "linkwork/linkworklaw17.PoseImages", spec := "poseImages", inPlace := ["internal/abi.NoEscape", "internal/bytealg.MakeNoZero"], recurses := true, named := ["internal/strconv.uint64pow10", "math/bits.deBruijn32tab", "math/bits.deBruijn64tab"], apart := false, laid := [("math/bits.deBruijn32tab", laid_math_bits_deBruijn32tab), ("math/bits.deBruijn64tab", laid_math_bits_deBruijn64tab), ("internal/strconv.uint64pow10", laid_internal_strconv_uint64pow10)], narrowed := true }
def PoseImagesUptoSaid : Prop := poseImagesUptoRow.holds Tryz.pinned (OpenSpec.upto poseImagesSpec)

/-- 'linkworklaw17.PosePowers', WHERE WHAT IT READS IS OF BULK AT MOST 1048576: true; the input reads as it did. -/
def posePowersUptoRow : OpenClaim := { program := "ytfdllnbmjlhliaagreatdoor", sum := "08720d2d2fe3c558d74b4e75a0c09806935edf0dbede17f978ff62299e36d25a", func := "linkwork/linkworklaw17.PosePowers", spec := "posePowers", inPlace := ["internal/abi.NoEscape", "internal/bytealg.MakeNoZero"], recurses := true, named := ["internal/strconv.uint64pow10", "math/bits.deBruijn32tab", "math/bits.deBruijn64tab"], apart := false, laid := [("math/bits.deBruijn32tab", laid_math_bits_deBruijn32tab), ("math/bits.deBruijn64tab", laid_math_bits_deBruijn64tab), ("internal/strconv.uint64pow10", laid_internal_strconv_uint64pow10)], narrowed := true }
def PosePowersUptoSaid : Prop := posePowersUptoRow.holds Tryz.pinned (OpenSpec.upto posePowersSpec)

/-- 'linkworklaw17.PoseFixed', WHERE WHAT IT READS IS OF BULK AT MOST 1048576: true; the input reads as it did. -/
def poseFixedUptoRow : OpenClaim := { program := "ytfdllnbmjlhliaagreatdoor", sum := "08720d2d2fe3c558d74b4e75a0c09806935edf0dbede17f978ff62299e36d25a", func := "linkwork/linkworklaw17.PoseFixed", spec := "poseFixed", inPlace := ["internal/abi.NoEscape", "internal/bytealg.MakeNoZero"], recurses := true, named := ["internal/strconv.uint64pow10", "math/bits.deBruijn32tab", "math/bits.deBruijn64tab"], apart := false, laid := [("math/bits.deBruijn32tab", laid_math_bits_deBruijn32tab), ("math/bits.deBruijn64tab", laid_math_bits_deBruijn64tab), ("internal/strconv.uint64pow10", laid_internal_strconv_uint64pow10)], narrowed := true }
def PoseFixedUptoSaid : Prop := poseFixedUptoRow.holds Tryz.pinned (OpenSpec.upto poseFixedSpec)

/-- 'linkworklaw17.PoseRigid', WHERE WHAT IT READS IS OF BULK AT MOST 1048576: true; the input reads as it did. -/
def poseRigidUptoRow : OpenClaim := { program := "ytfdllnbmjlhliaagreatdoor", sum := "08720d2d2fe3c558d74b4e75a0c09806935edf0dbede17f978ff62299e36d25a", func := "linkwork/linkworklaw17.PoseRigid", spec := "poseRigid", inPlace := ["internal/abi.NoEscape", "internal/bytealg.MakeNoZero"], recurses := true, named := ["internal/strconv.uint64pow10", "math/bits.deBruijn32tab", "math/bits.deBruijn64tab"], apart := false, laid := [("math/bits.deBruijn32tab", laid_math_bits_deBruijn32tab), ("math/bits.deBruijn64tab", laid_math_bits_deBruijn64tab), ("internal/strconv.uint64pow10", laid_internal_strconv_uint64pow10)], narrowed := true }
def PoseRigidUptoSaid : Prop := poseRigidUptoRow.holds Tryz.pinned (OpenSpec.upto poseRigidSpec)

/-- 'linkworklaw17.PoseUnit', WHERE WHAT IT READS IS OF BULK AT MOST 1048576: true; the input reads as it did. -/
def poseUnitUptoRow : OpenClaim := { program := "ytfdllnbmjlhliaagreatdoor", sum := "08720d2d2fe3c558d74b4e75a0c09806935edf0dbede17f978ff62299e36d25a", func := "linkwork/linkworklaw17.PoseUnit", spec := "poseUnit", inPlace := ["internal/abi.NoEscape", "internal/bytealg.MakeNoZero"], recurses := true, named := ["internal/strconv.uint64pow10", "math/bits.deBruijn32tab", "math/bits.deBruijn64tab"], apart := false, laid := [("math/bits.deBruijn32tab", laid_math_bits_deBruijn32tab), ("math/bits.deBruijn64tab", laid_math_bits_deBruijn64tab), ("internal/strconv.uint64pow10", laid_internal_strconv_uint64pow10)], narrowed := true }
def PoseUnitUptoSaid : Prop := poseUnitUptoRow.holds Tryz.pinned (OpenSpec.upto poseUnitSpec)

/-- 'linkworklaw17.PoseJoins', WHERE WHAT IT READS IS OF BULK AT MOST 1048576: true; the input reads as it did. -/
def poseJoinsUptoRow : OpenClaim := { program := "ytfdllnbmjlhliaagreatdoor", sum := "08720d2d2fe3c558d74b4e75a0c09806935edf0dbede17f978ff62299e36d25a", func := "linkwork/linkworklaw17.PoseJoins", spec := "poseJoins", inPlace := ["internal/abi.NoEscape", "internal/bytealg.MakeNoZero"], recurses := true, named := ["internal/strconv.uint64pow10", "math/bits.deBruijn32tab", "math/bits.deBruijn64tab"], apart := false, laid := [("math/bits.deBruijn32tab", laid_math_bits_deBruijn32tab), ("math/bits.deBruijn64tab", laid_math_bits_deBruijn64tab), ("internal/strconv.uint64pow10", laid_internal_strconv_uint64pow10)], narrowed := true }
def PoseJoinsUptoSaid : Prop := poseJoinsUptoRow.holds Tryz.pinned (OpenSpec.upto poseJoinsSpec)

/-- 'linkworklaw17.PoseGroup', WHERE WHAT IT READS IS OF BULK AT MOST 1048576: true; the input reads as it did. -/
def poseGroupUptoRow : OpenClaim := { program := "ytfdllnbmjlhliaagreatdoor", sum := "08720d2d2fe3c558d74b4e75a0c09806935edf0dbede17f978ff62299e36d25a", func := "linkwork/linkworklaw17.PoseGroup", spec := "poseGroup", inPlace := ["internal/abi.NoEscape", "internal/bytealg.MakeNoZero"], recurses := true, named := ["internal/strconv.uint64pow10", "math/bits.deBruijn32tab", "math/bits.deBruijn64tab"], apart := false, laid := [("math/bits.deBruijn32tab", laid_math_bits_deBruijn32tab), ("math/bits.deBruijn64tab", laid_math_bits_deBruijn64tab), ("internal/strconv.uint64pow10", laid_internal_strconv_uint64pow10)], narrowed := true }
def PoseGroupUptoSaid : Prop := poseGroupUptoRow.holds Tryz.pinned (OpenSpec.upto poseGroupSpec)

end Rows
end Go.Proofs.YtfdllnbmjlhliaaGreatDoor
