/-
  NARROWER THAN 'FOR EVERY INPUT', by the rows' own cells (each row's printed sentence says how): FuncgenMakes: laid · FuncgenFits: laid · FuncgenFinds: laid · FuncgenMade: laid · FuncgenScales: laid · FuncgenErrors: laid · FuncgenDistance: laid.
  DERIVED. THE GIVEN ROWS OF THIS SEAT. 7 by the template 'for every input the law returns true; each argument reads behind the call as it read before'; 0 by the template 'total and deterministic' (their statements: YtmgkbhjilkkjiaaGreatDoorTotals.lean).
  GIVEN WITH THE SEED: the statements are not yours to turn. If you find one false, say at which input.
  Laid BY PROGRAM, IN A SANDBOX (cutbox-rows.mjs): the forced cells as the released guide's own fill.sh prints them over the translation 53b836b977888628… (all of the seat's roots in one cut). By AI agents, Wed Nov 11 2026. No macro, syntax, notation, axiom, sorry.
-/
import Derived.Test.YtmgkbhjilkkjiaaGreatDoorChecked
import GoSem.Claim
import GoSem.ClaimJoined
import GoSem.ClaimMapViews
import Derived.JoinedTies
import Derived.KernelRfl
namespace Go.Proofs.YtmgkbhjilkkjiaaGreatDoor
/- THE CELL 'sum', in the pinned program and in every row, IS THE sha256 OF THE DUMP (.gsa) THAT YtmgkbhjilkkjiaaGreatDoorProg.lean LOADS. Nothing in Lean hashes anything: it is a label: what it is worth is what the hold of that sum in a sandbox is worth. -/
noncomputable def Tryz.pinned : Pinned := { name := "ytmgkbhjilkkjiaagreatdoor", sum := "53b836b97788862864120c8b064e16953ae354f5c9e0b7621290f894960a86d6", checked := Tryz.checked }
namespace Rows
def none {H : Type} : Left H := { results := [], args := [] }

/- WHAT THE LISTED PACKAGE-LEVEL VARIABLES READ AS WHEN THE CALL BEGINS. Each datum BY PROGRAM (the guide's laid-datum.mjs) off the statement by which the dump's own 'gosem.cut.vars' lays the variable. In a bare row this is a premise. The card (YtmgkbhjilkkjiaaGreatDoorCards.lean) ties it to the program's text. -/
def laid_math_bits_deBruijn32tab {H : Type} : DataW H := .agg [.lit (.int .u8 0), .lit (.int .u8 1), .lit (.int .u8 28), .lit (.int .u8 2), .lit (.int .u8 29), .lit (.int .u8 14), .lit (.int .u8 24), .lit (.int .u8 3), .lit (.int .u8 30), .lit (.int .u8 22), .lit (.int .u8 20), .lit (.int .u8 15), .lit (.int .u8 25), .lit (.int .u8 17), .lit (.int .u8 4), .lit (.int .u8 8), .lit (.int .u8 31), .lit (.int .u8 27), .lit (.int .u8 13), .lit (.int .u8 23), .lit (.int .u8 21), .lit (.int .u8 19), .lit (.int .u8 16), .lit (.int .u8 7), .lit (.int .u8 26), .lit (.int .u8 12), .lit (.int .u8 18), .lit (.int .u8 6), .lit (.int .u8 11), .lit (.int .u8 5), .lit (.int .u8 10), .lit (.int .u8 9)]
def laid_math_bits_deBruijn64tab {H : Type} : DataW H := .agg [.lit (.int .u8 0), .lit (.int .u8 1), .lit (.int .u8 56), .lit (.int .u8 2), .lit (.int .u8 57), .lit (.int .u8 49), .lit (.int .u8 28), .lit (.int .u8 3), .lit (.int .u8 61), .lit (.int .u8 58), .lit (.int .u8 42), .lit (.int .u8 50), .lit (.int .u8 38), .lit (.int .u8 29), .lit (.int .u8 17), .lit (.int .u8 4), .lit (.int .u8 62), .lit (.int .u8 47), .lit (.int .u8 59), .lit (.int .u8 36), .lit (.int .u8 45), .lit (.int .u8 43), .lit (.int .u8 51), .lit (.int .u8 22), .lit (.int .u8 53), .lit (.int .u8 39), .lit (.int .u8 33), .lit (.int .u8 30), .lit (.int .u8 24), .lit (.int .u8 18), .lit (.int .u8 12), .lit (.int .u8 5), .lit (.int .u8 63), .lit (.int .u8 55), .lit (.int .u8 48), .lit (.int .u8 27), .lit (.int .u8 60), .lit (.int .u8 41), .lit (.int .u8 37), .lit (.int .u8 16), .lit (.int .u8 46), .lit (.int .u8 35), .lit (.int .u8 44), .lit (.int .u8 21), .lit (.int .u8 52), .lit (.int .u8 32), .lit (.int .u8 23), .lit (.int .u8 11), .lit (.int .u8 54), .lit (.int .u8 26), .lit (.int .u8 40), .lit (.int .u8 15), .lit (.int .u8 34), .lit (.int .u8 20), .lit (.int .u8 31), .lit (.int .u8 10), .lit (.int .u8 25), .lit (.int .u8 14), .lit (.int .u8 19), .lit (.int .u8 9), .lit (.int .u8 13), .lit (.int .u8 8), .lit (.int .u8 7), .lit (.int .u8 6)]
def laid_internal_strconv_uint64pow10 {H : Type} : DataW H := .agg [.lit (.int .u64 1), .lit (.int .u64 10), .lit (.int .u64 100), .lit (.int .u64 1000), .lit (.int .u64 10000), .lit (.int .u64 100000), .lit (.int .u64 1000000), .lit (.int .u64 10000000), .lit (.int .u64 100000000), .lit (.int .u64 1000000000), .lit (.int .u64 10000000000), .lit (.int .u64 100000000000), .lit (.int .u64 1000000000000), .lit (.int .u64 10000000000000), .lit (.int .u64 100000000000000), .lit (.int .u64 1000000000000000), .lit (.int .u64 10000000000000000), .lit (.int .u64 100000000000000000), .lit (.int .u64 1000000000000000000), .lit (.int .u64 10000000000000000000)]

/-- 'linkworklaw48.FuncgenMakes': WHATEVER THE INPUT: true; the input reads as it did. -/
def funcgenMakesSpec : ChangeSpec := { name := "funcgenMakes", fn := fun _ => fun
  | [d1, d2] => { results := [.lit (.bool true)], args := [d1, d2] }
  | _ => none }
def funcgenMakesRow : OpenClaim := { program := "ytmgkbhjilkkjiaagreatdoor", sum := "53b836b97788862864120c8b064e16953ae354f5c9e0b7621290f894960a86d6", func := "linkwork/linkworklaw48.FuncgenMakes", spec := "funcgenMakes", inPlace := ["internal/abi.NoEscape", "internal/bytealg.MakeNoZero"], named := ["internal/strconv.uint64pow10", "math/bits.deBruijn32tab", "math/bits.deBruijn64tab"], apart := false, laid := [("math/bits.deBruijn32tab", laid_math_bits_deBruijn32tab), ("math/bits.deBruijn64tab", laid_math_bits_deBruijn64tab), ("internal/strconv.uint64pow10", laid_internal_strconv_uint64pow10)] }
def FuncgenMakesSaid : Prop := funcgenMakesRow.holds Tryz.pinned (OpenSpec.ofChange funcgenMakesSpec)

/-- ITS FALSE NEIGHBOUR: 'it returns false'. Refute it at one input. -/
def funcgenMakesWrong : ChangeSpec := { name := "funcgenMakes", fn := fun _ => fun
  | [d1, d2] => { results := [.lit (.bool false)], args := [d1, d2] }
  | _ => none }
def FuncgenMakesWrongFalsely : Prop := funcgenMakesRow.holds Tryz.pinned (OpenSpec.ofChange funcgenMakesWrong)

/-- 'linkworklaw48.FuncgenFits': WHATEVER THE INPUT: true; the input reads as it did. -/
def funcgenFitsSpec : ChangeSpec := { name := "funcgenFits", fn := fun _ => fun
  | [d1, d2] => { results := [.lit (.bool true)], args := [d1, d2] }
  | _ => none }
def funcgenFitsRow : OpenClaim := { program := "ytmgkbhjilkkjiaagreatdoor", sum := "53b836b97788862864120c8b064e16953ae354f5c9e0b7621290f894960a86d6", func := "linkwork/linkworklaw48.FuncgenFits", spec := "funcgenFits", inPlace := ["internal/abi.NoEscape", "internal/bytealg.MakeNoZero"], named := ["internal/strconv.uint64pow10", "math/bits.deBruijn32tab", "math/bits.deBruijn64tab"], apart := false, laid := [("math/bits.deBruijn32tab", laid_math_bits_deBruijn32tab), ("math/bits.deBruijn64tab", laid_math_bits_deBruijn64tab), ("internal/strconv.uint64pow10", laid_internal_strconv_uint64pow10)] }
def FuncgenFitsSaid : Prop := funcgenFitsRow.holds Tryz.pinned (OpenSpec.ofChange funcgenFitsSpec)

/-- ITS FALSE NEIGHBOUR: 'it returns false'. Refute it at one input. -/
def funcgenFitsWrong : ChangeSpec := { name := "funcgenFits", fn := fun _ => fun
  | [d1, d2] => { results := [.lit (.bool false)], args := [d1, d2] }
  | _ => none }
def FuncgenFitsWrongFalsely : Prop := funcgenFitsRow.holds Tryz.pinned (OpenSpec.ofChange funcgenFitsWrong)

/-- 'linkworklaw48.FuncgenFinds': WHATEVER THE INPUT: true; the input reads as it did. -/
def funcgenFindsSpec : ChangeSpec := { name := "funcgenFinds", fn := fun _ => fun
  | [d1, d2] => { results := [.lit (.bool true)], args := [d1, d2] }
  | _ => none }
def funcgenFindsRow : OpenClaim := { program := "ytmgkbhjilkkjiaagreatdoor", sum := "53b836b97788862864120c8b064e16953ae354f5c9e0b7621290f894960a86d6", func := "linkwork/linkworklaw48.FuncgenFinds", spec := "funcgenFinds", inPlace := ["internal/abi.NoEscape", "internal/bytealg.MakeNoZero"], named := ["internal/strconv.uint64pow10", "math/bits.deBruijn32tab", "math/bits.deBruijn64tab"], apart := false, laid := [("math/bits.deBruijn32tab", laid_math_bits_deBruijn32tab), ("math/bits.deBruijn64tab", laid_math_bits_deBruijn64tab), ("internal/strconv.uint64pow10", laid_internal_strconv_uint64pow10)] }
def FuncgenFindsSaid : Prop := funcgenFindsRow.holds Tryz.pinned (OpenSpec.ofChange funcgenFindsSpec)

/-- ITS FALSE NEIGHBOUR: 'it returns false'. Refute it at one input. -/
def funcgenFindsWrong : ChangeSpec := { name := "funcgenFinds", fn := fun _ => fun
  | [d1, d2] => { results := [.lit (.bool false)], args := [d1, d2] }
  | _ => none }
def FuncgenFindsWrongFalsely : Prop := funcgenFindsRow.holds Tryz.pinned (OpenSpec.ofChange funcgenFindsWrong)

/-- 'linkworklaw48.FuncgenMade': WHATEVER THE INPUT: true; the input reads as it did. -/
def funcgenMadeSpec : ChangeSpec := { name := "funcgenMade", fn := fun _ => fun
  | [d1, d2] => { results := [.lit (.bool true)], args := [d1, d2] }
  | _ => none }
def funcgenMadeRow : OpenClaim := { program := "ytmgkbhjilkkjiaagreatdoor", sum := "53b836b97788862864120c8b064e16953ae354f5c9e0b7621290f894960a86d6", func := "linkwork/linkworklaw48.FuncgenMade", spec := "funcgenMade", inPlace := ["internal/abi.NoEscape", "internal/bytealg.MakeNoZero"], named := ["internal/strconv.uint64pow10", "math/bits.deBruijn32tab", "math/bits.deBruijn64tab"], apart := false, laid := [("math/bits.deBruijn32tab", laid_math_bits_deBruijn32tab), ("math/bits.deBruijn64tab", laid_math_bits_deBruijn64tab), ("internal/strconv.uint64pow10", laid_internal_strconv_uint64pow10)] }
def FuncgenMadeSaid : Prop := funcgenMadeRow.holds Tryz.pinned (OpenSpec.ofChange funcgenMadeSpec)

/-- ITS FALSE NEIGHBOUR: 'it returns false'. Refute it at one input. -/
def funcgenMadeWrong : ChangeSpec := { name := "funcgenMade", fn := fun _ => fun
  | [d1, d2] => { results := [.lit (.bool false)], args := [d1, d2] }
  | _ => none }
def FuncgenMadeWrongFalsely : Prop := funcgenMadeRow.holds Tryz.pinned (OpenSpec.ofChange funcgenMadeWrong)

/-- 'linkworklaw48.FuncgenScales': WHATEVER THE INPUT: true; the input reads as it did. -/
def funcgenScalesSpec : ChangeSpec := { name := "funcgenScales", fn := fun _ => fun
  | [d1, d2, d3] => { results := [.lit (.bool true)], args := [d1, d2, d3] }
  | _ => none }
def funcgenScalesRow : OpenClaim := { program := "ytmgkbhjilkkjiaagreatdoor", sum := "53b836b97788862864120c8b064e16953ae354f5c9e0b7621290f894960a86d6", func := "linkwork/linkworklaw48.FuncgenScales", spec := "funcgenScales", inPlace := ["internal/abi.NoEscape", "internal/bytealg.MakeNoZero"], named := ["internal/strconv.uint64pow10", "math/bits.deBruijn32tab", "math/bits.deBruijn64tab"], apart := false, laid := [("math/bits.deBruijn32tab", laid_math_bits_deBruijn32tab), ("math/bits.deBruijn64tab", laid_math_bits_deBruijn64tab), ("internal/strconv.uint64pow10", laid_internal_strconv_uint64pow10)] }
def FuncgenScalesSaid : Prop := funcgenScalesRow.holds Tryz.pinned (OpenSpec.ofChange funcgenScalesSpec)

/-- ITS FALSE NEIGHBOUR: 'it returns false'. Refute it at one input. -/
def funcgenScalesWrong : ChangeSpec := { name := "funcgenScales", fn := fun _ => fun
  | [d1, d2, d3] => { results := [.lit (.bool false)], args := [d1, d2, d3] }
  | _ => none }
def FuncgenScalesWrongFalsely : Prop := funcgenScalesRow.holds Tryz.pinned (OpenSpec.ofChange funcgenScalesWrong)

/-- 'linkworklaw48.FuncgenErrors': WHATEVER THE INPUT: true; the input reads as it did. -/
def funcgenErrorsSpec : ChangeSpec := { name := "funcgenErrors", fn := fun _ => fun
  | [d1, d2] => { results := [.lit (.bool true)], args := [d1, d2] }
  | _ => none }
def funcgenErrorsRow : OpenClaim := { program := "ytmgkbhjilkkjiaagreatdoor", sum := "53b836b97788862864120c8b064e16953ae354f5c9e0b7621290f894960a86d6", func := "linkwork/linkworklaw48.FuncgenErrors", spec := "funcgenErrors", inPlace := ["internal/abi.NoEscape", "internal/bytealg.MakeNoZero"], named := ["internal/strconv.uint64pow10", "math/bits.deBruijn32tab", "math/bits.deBruijn64tab"], apart := false, laid := [("math/bits.deBruijn32tab", laid_math_bits_deBruijn32tab), ("math/bits.deBruijn64tab", laid_math_bits_deBruijn64tab), ("internal/strconv.uint64pow10", laid_internal_strconv_uint64pow10)] }
def FuncgenErrorsSaid : Prop := funcgenErrorsRow.holds Tryz.pinned (OpenSpec.ofChange funcgenErrorsSpec)

/-- ITS FALSE NEIGHBOUR: 'it returns false'. Refute it at one input. -/
def funcgenErrorsWrong : ChangeSpec := { name := "funcgenErrors", fn := fun _ => fun
  | [d1, d2] => { results := [.lit (.bool false)], args := [d1, d2] }
  | _ => none }
def FuncgenErrorsWrongFalsely : Prop := funcgenErrorsRow.holds Tryz.pinned (OpenSpec.ofChange funcgenErrorsWrong)

/-- 'linkworklaw48.FuncgenDistance': WHATEVER THE INPUT: true; the input reads as it did. -/
def funcgenDistanceSpec : ChangeSpec := { name := "funcgenDistance", fn := fun _ => fun
  | [d1, d2] => { results := [.lit (.bool true)], args := [d1, d2] }
  | _ => none }
def funcgenDistanceRow : OpenClaim := { program := "ytmgkbhjilkkjiaagreatdoor", sum := "53b836b97788862864120c8b064e16953ae354f5c9e0b7621290f894960a86d6", func := "linkwork/linkworklaw48.FuncgenDistance", spec := "funcgenDistance", inPlace := ["internal/abi.NoEscape", "internal/bytealg.MakeNoZero"], named := ["internal/strconv.uint64pow10", "math/bits.deBruijn32tab", "math/bits.deBruijn64tab"], apart := false, laid := [("math/bits.deBruijn32tab", laid_math_bits_deBruijn32tab), ("math/bits.deBruijn64tab", laid_math_bits_deBruijn64tab), ("internal/strconv.uint64pow10", laid_internal_strconv_uint64pow10)] }
def FuncgenDistanceSaid : Prop := funcgenDistanceRow.holds Tryz.pinned (OpenSpec.ofChange funcgenDistanceSpec)

/-- ITS FALSE NEIGHBOUR: 'it returns false'. Refute it at one input. -/
def funcgenDistanceWrong : ChangeSpec := { name := "funcgenDistance", fn := fun _ => fun
  | [d1, d2] => { results := [.lit (.bool false)], args := [d1, d2] }
  | _ => none }
def FuncgenDistanceWrongFalsely : Prop := funcgenDistanceRow.holds Tryz.pinned (OpenSpec.ofChange funcgenDistanceWrong)

/- THE SECOND FORM. 'bulk': how many values and letters a reading holds, each counted each time it is reached (what is shared counts as often as it is met; a slice's spare places count too). A statement '..UptoSaid' is the law's where the arguments, and the package variables that the reading takes, are together of bulk at most 1048576: NARROWER than '..Said'. Prove '..Said' where nothing that the law and all that it calls make is longer than what came in: it says more and counts as full. Else prove '..UptoSaid'. A law counts once. -/
mutual
def uptoBulk {H : Type} : DataW H → Nat
  | .lit (.string bytes) => bytes.length + 1
  | .lit _ => 1
  | .nil => 1
  | .ptr d => uptoBulk d + 1
  | .slice elems spare => uptoBulkAll elems + uptoBulkAll spare + 1
  | .agg parts => uptoBulkAll parts + 1
  | .iface _ d => uptoBulk d + 1
  | .map entries => uptoBulkEntries entries + 1
  | .held _ => 1
def uptoBulkAll {H : Type} : List (DataW H) → Nat
  | [] => 0
  | d :: r => uptoBulk d + uptoBulkAll r
def uptoBulkEntries {H : Type} : List (Lit × DataW H) → Nat
  | [] => 0
  | x :: r => uptoBulkEntry x + uptoBulkEntries r
def uptoBulkEntry {H : Type} : Lit × DataW H → Nat
  | (.string bytes, d) => bytes.length + uptoBulk d + 1
  | (_, d) => uptoBulk d + 1
 end
def uptoSmall : (H : Type) → List (DataW H) → Bool := fun _ ds => decide (uptoBulkAll ds ≤ 1048576)
def OpenSpec.upto (s : _root_.Go.ChangeSpec) : _root_.Go.OpenSpec := { _root_.Go.OpenSpec.ofChange s with cond := some uptoSmall }

/-- 'linkworklaw48.FuncgenMakes', WHERE WHAT IT READS IS OF BULK AT MOST 1048576: true; the input reads as it did. -/
def funcgenMakesUptoRow : OpenClaim := { program := "ytmgkbhjilkkjiaagreatdoor", sum := "53b836b97788862864120c8b064e16953ae354f5c9e0b7621290f894960a86d6", func := "linkwork/linkworklaw48.FuncgenMakes", spec := "funcgenMakes", inPlace := ["internal/abi.NoEscape", "internal/bytealg.MakeNoZero"], named := ["internal/strconv.uint64pow10", "math/bits.deBruijn32tab", "math/bits.deBruijn64tab"], apart := false, laid := [("math/bits.deBruijn32tab", laid_math_bits_deBruijn32tab), ("math/bits.deBruijn64tab", laid_math_bits_deBruijn64tab), ("internal/strconv.uint64pow10", laid_internal_strconv_uint64pow10)], narrowed := true }
def FuncgenMakesUptoSaid : Prop := funcgenMakesUptoRow.holds Tryz.pinned (OpenSpec.upto funcgenMakesSpec)

/-- 'linkworklaw48.FuncgenFits', WHERE WHAT IT READS IS OF BULK AT MOST 1048576: true; the input reads as it did. -/
def funcgenFitsUptoRow : OpenClaim := { program := "ytmgkbhjilkkjiaagreatdoor", sum := "53b836b97788862864120c8b064e16953ae354f5c9e0b7621290f894960a86d6", func := "linkwork/linkworklaw48.FuncgenFits", spec := "funcgenFits", inPlace := ["internal/abi.NoEscape", "internal/bytealg.MakeNoZero"], named := ["internal/strconv.uint64pow10", "math/bits.deBruijn32tab", "math/bits.deBruijn64tab"], apart := false, laid := [("math/bits.deBruijn32tab", laid_math_bits_deBruijn32tab), ("math/bits.deBruijn64tab", laid_math_bits_deBruijn64tab), ("internal/strconv.uint64pow10", laid_internal_strconv_uint64pow10)], narrowed := true }
def FuncgenFitsUptoSaid : Prop := funcgenFitsUptoRow.holds Tryz.pinned (OpenSpec.upto funcgenFitsSpec)

/-- 'linkworklaw48.FuncgenFinds', WHERE WHAT IT READS IS OF BULK AT MOST 1048576: true; the input reads as it did. -/
def funcgenFindsUptoRow : OpenClaim := { program := "ytmgkbhjilkkjiaagreatdoor", sum := "53b836b97788862864120c8b064e16953ae354f5c9e0b7621290f894960a86d6", func := "linkwork/linkworklaw48.FuncgenFinds", spec := "funcgenFinds", inPlace := ["internal/abi.NoEscape", "internal/bytealg.MakeNoZero"], named := ["internal/strconv.uint64pow10", "math/bits.deBruijn32tab", "math/bits.deBruijn64tab"], apart := false, laid := [("math/bits.deBruijn32tab", laid_math_bits_deBruijn32tab), ("math/bits.deBruijn64tab", laid_math_bits_deBruijn64tab), ("internal/strconv.uint64pow10", laid_internal_strconv_uint64pow10)], narrowed := true }
def FuncgenFindsUptoSaid : Prop := funcgenFindsUptoRow.holds Tryz.pinned (OpenSpec.upto funcgenFindsSpec)

/-- 'linkworklaw48.FuncgenMade', WHERE WHAT IT READS IS OF BULK AT MOST 1048576: true; the input reads as it did. -/
def funcgenMadeUptoRow : OpenClaim := { program := "ytmgkbhjilkkjiaagreatdoor", sum := "53b836b97788862864120c8b064e16953ae354f5c9e0b7621290f894960a86d6", func := "linkwork/linkworklaw48.FuncgenMade", spec := "funcgenMade", inPlace := ["internal/abi.NoEscape", "internal/bytealg.MakeNoZero"], named := ["internal/strconv.uint64pow10", "math/bits.deBruijn32tab", "math/bits.deBruijn64tab"], apart := false, laid := [("math/bits.deBruijn32tab", laid_math_bits_deBruijn32tab), ("math/bits.deBruijn64tab", laid_math_bits_deBruijn64tab), ("internal/strconv.uint64pow10", laid_internal_strconv_uint64pow10)], narrowed := true }
def FuncgenMadeUptoSaid : Prop := funcgenMadeUptoRow.holds Tryz.pinned (OpenSpec.upto funcgenMadeSpec)

/-- 'linkworklaw48.FuncgenScales', WHERE WHAT IT READS IS OF BULK AT MOST 1048576: true; the input reads as it did. -/
def funcgenScalesUptoRow : OpenClaim := { program := "ytmgkbhjilkkjiaagreatdoor", sum := "53b836b97788862864120c8b064e16953ae354f5c9e0b7621290f894960a86d6", func := "linkwork/linkworklaw48.FuncgenScales", spec := "funcgenScales", inPlace := ["internal/abi.NoEscape", "internal/bytealg.MakeNoZero"], named := ["internal/strconv.uint64pow10", "math/bits.deBruijn32tab", "math/bits.deBruijn64tab"], apart := false, laid := [("math/bits.deBruijn32tab", laid_math_bits_deBruijn32tab), ("math/bits.deBruijn64tab", laid_math_bits_deBruijn64tab), ("internal/strconv.uint64pow10", laid_internal_strconv_uint64pow10)], narrowed := true }
def FuncgenScalesUptoSaid : Prop := funcgenScalesUptoRow.holds Tryz.pinned (OpenSpec.upto funcgenScalesSpec)

/-- 'linkworklaw48.FuncgenErrors', WHERE WHAT IT READS IS OF BULK AT MOST 1048576: true; the input reads as it did. -/
def funcgenErrorsUptoRow : OpenClaim := { program := "ytmgkbhjilkkjiaagreatdoor", sum := "53b836b97788862864120c8b064e16953ae354f5c9e0b7621290f894960a86d6", func := "linkwork/linkworklaw48.FuncgenErrors", spec := "funcgenErrors", inPlace := ["internal/abi.NoEscape", "internal/bytealg.MakeNoZero"], named := ["internal/strconv.uint64pow10", "math/bits.deBruijn32tab", "math/bits.deBruijn64tab"], apart := false, laid := [("math/bits.deBruijn32tab", laid_math_bits_deBruijn32tab), ("math/bits.deBruijn64tab", laid_math_bits_deBruijn64tab), ("internal/strconv.uint64pow10", laid_internal_strconv_uint64pow10)], narrowed := true }
def FuncgenErrorsUptoSaid : Prop := funcgenErrorsUptoRow.holds Tryz.pinned (OpenSpec.upto funcgenErrorsSpec)

/-- 'linkworklaw48.FuncgenDistance', WHERE WHAT IT READS IS OF BULK AT MOST 1048576: true; the input reads as it did. -/
def funcgenDistanceUptoRow : OpenClaim := { program := "ytmgkbhjilkkjiaagreatdoor", sum := "53b836b97788862864120c8b064e16953ae354f5c9e0b7621290f894960a86d6", func := "linkwork/linkworklaw48.FuncgenDistance", spec := "funcgenDistance", inPlace := ["internal/abi.NoEscape", "internal/bytealg.MakeNoZero"], named := ["internal/strconv.uint64pow10", "math/bits.deBruijn32tab", "math/bits.deBruijn64tab"], apart := false, laid := [("math/bits.deBruijn32tab", laid_math_bits_deBruijn32tab), ("math/bits.deBruijn64tab", laid_math_bits_deBruijn64tab), ("internal/strconv.uint64pow10", laid_internal_strconv_uint64pow10)], narrowed := true }
def FuncgenDistanceUptoSaid : Prop := funcgenDistanceUptoRow.holds Tryz.pinned (OpenSpec.upto funcgenDistanceSpec)

end Rows
end Go.Proofs.YtmgkbhjilkkjiaaGreatDoor
