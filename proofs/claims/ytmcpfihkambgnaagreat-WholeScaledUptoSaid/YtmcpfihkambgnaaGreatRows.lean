/-
  No cell of these rows narrows 'for every input' (looked for: loops, veiled, ifaces, maps, wideKeys, modest, calm, conditions, laid).
  DERIVED. THE GIVEN ROWS OF THIS SEAT. 4 by the template 'for every input the law returns true; each argument reads behind the call as it read before'; 0 by the template 'total and deterministic' (their statements: YtmcpfihkambgnaaGreatTotals.lean).
  GIVEN WITH THE SEED: the statements are not yours to turn. If you find one false, say at which input.
  Laid BY PROGRAM, IN A SANDBOX (cutbox-rows.mjs): the forced cells as the released guide's own fill.sh prints them over the translation dab4a1bb9442246d… (all of the seat's roots in one cut). By AI agents, Wed Nov 11 2026. No macro, syntax, notation, axiom, sorry.
-/
import Derived.Test.YtmcpfihkambgnaaGreatChecked
import GoSem.Claim
import GoSem.ClaimJoined
import GoSem.ClaimMapViews
import Derived.JoinedTies
import Derived.KernelRfl
namespace Go.Proofs.YtmcpfihkambgnaaGreat
/- THE CELL 'sum', in the pinned program and in every row, IS THE sha256 OF THE DUMP (.gsa) THAT YtmcpfihkambgnaaGreatProg.lean LOADS. Nothing in Lean hashes anything: it is a label: what it is worth is what the hold of that sum in a sandbox is worth. -/
noncomputable def Tryz.pinned : Pinned := { name := "ytmcpfihkambgnaagreat", sum := "dab4a1bb9442246dc7d70dfc12a9d86d0ec529358a902bfd8ca3c61d89246184", checked := Tryz.checked }
namespace Rows
def none {H : Type} : Left H := { results := [], args := [] }

/-- 'linkworktop.WholeAssemblies': WHATEVER THE INPUT: true; the input reads as it did. -/
def wholeAssembliesSpec : ChangeSpec := { name := "wholeAssemblies", fn := fun _ => fun
  | [d1, d2] => { results := [.lit (.bool true)], args := [d1, d2] }
  | _ => none }
def wholeAssembliesRow : OpenClaim := { program := "ytmcpfihkambgnaagreat", sum := "dab4a1bb9442246dc7d70dfc12a9d86d0ec529358a902bfd8ca3c61d89246184", func := "linkwork/linkworktop.WholeAssemblies", spec := "wholeAssemblies", unfollowed := true, recurses := true, apart := false }
def WholeAssembliesSaid : Prop := wholeAssembliesRow.holds Tryz.pinned (OpenSpec.ofChange wholeAssembliesSpec)

/-- ITS FALSE NEIGHBOUR: 'it returns false'. Refute it at one input. -/
def wholeAssembliesWrong : ChangeSpec := { name := "wholeAssemblies", fn := fun _ => fun
  | [d1, d2] => { results := [.lit (.bool false)], args := [d1, d2] }
  | _ => none }
def WholeAssembliesWrongFalsely : Prop := wholeAssembliesRow.holds Tryz.pinned (OpenSpec.ofChange wholeAssembliesWrong)

/-- 'linkworktop.WholeScaled': WHATEVER THE INPUT: true; the input reads as it did. -/
def wholeScaledSpec : ChangeSpec := { name := "wholeScaled", fn := fun _ => fun
  | [d1, d2, d3] => { results := [.lit (.bool true)], args := [d1, d2, d3] }
  | _ => none }
def wholeScaledRow : OpenClaim := { program := "ytmcpfihkambgnaagreat", sum := "dab4a1bb9442246dc7d70dfc12a9d86d0ec529358a902bfd8ca3c61d89246184", func := "linkwork/linkworktop.WholeScaled", spec := "wholeScaled", unfollowed := true, recurses := true, apart := false }
def WholeScaledSaid : Prop := wholeScaledRow.holds Tryz.pinned (OpenSpec.ofChange wholeScaledSpec)

/-- ITS FALSE NEIGHBOUR: 'it returns false'. Refute it at one input. -/
def wholeScaledWrong : ChangeSpec := { name := "wholeScaled", fn := fun _ => fun
  | [d1, d2, d3] => { results := [.lit (.bool false)], args := [d1, d2, d3] }
  | _ => none }
def WholeScaledWrongFalsely : Prop := wholeScaledRow.holds Tryz.pinned (OpenSpec.ofChange wholeScaledWrong)

/-- 'linkworktop.WholeFound': WHATEVER THE INPUT: true; the input reads as it did. -/
def wholeFoundSpec : ChangeSpec := { name := "wholeFound", fn := fun _ => fun
  | [d] => { results := [.lit (.bool true)], args := [d] }
  | _ => none }
def wholeFoundRow : OpenClaim := { program := "ytmcpfihkambgnaagreat", sum := "dab4a1bb9442246dc7d70dfc12a9d86d0ec529358a902bfd8ca3c61d89246184", func := "linkwork/linkworktop.WholeFound", spec := "wholeFound", unfollowed := true, recurses := true, apart := false }
def WholeFoundSaid : Prop := wholeFoundRow.holds Tryz.pinned (OpenSpec.ofChange wholeFoundSpec)

/-- ITS FALSE NEIGHBOUR: 'it returns false'. Refute it at one input. -/
def wholeFoundWrong : ChangeSpec := { name := "wholeFound", fn := fun _ => fun
  | [d] => { results := [.lit (.bool false)], args := [d] }
  | _ => none }
def WholeFoundWrongFalsely : Prop := wholeFoundRow.holds Tryz.pinned (OpenSpec.ofChange wholeFoundWrong)

/-- 'linkworktop.WholeNumbers': WHATEVER THE INPUT: true; the input reads as it did. -/
def wholeNumbersSpec : ChangeSpec := { name := "wholeNumbers", fn := fun _ => fun
  | [d1, d2] => { results := [.lit (.bool true)], args := [d1, d2] }
  | _ => none }
def wholeNumbersRow : OpenClaim := { program := "ytmcpfihkambgnaagreat", sum := "dab4a1bb9442246dc7d70dfc12a9d86d0ec529358a902bfd8ca3c61d89246184", func := "linkwork/linkworktop.WholeNumbers", spec := "wholeNumbers", unfollowed := true, recurses := true, apart := false }
def WholeNumbersSaid : Prop := wholeNumbersRow.holds Tryz.pinned (OpenSpec.ofChange wholeNumbersSpec)

/-- ITS FALSE NEIGHBOUR: 'it returns false'. Refute it at one input. -/
def wholeNumbersWrong : ChangeSpec := { name := "wholeNumbers", fn := fun _ => fun
  | [d1, d2] => { results := [.lit (.bool false)], args := [d1, d2] }
  | _ => none }
def WholeNumbersWrongFalsely : Prop := wholeNumbersRow.holds Tryz.pinned (OpenSpec.ofChange wholeNumbersWrong)

/- THE SECOND FORM. 'bulk': how many values and letters a reading holds, each counted each time it is reached (what is shared counts as often as it is met; a slice's spare places count too). A statement '..UptoSaid' is the law's where the arguments, and the package variables that the reading takes, are together of bulk at most 1048576: NARROWER than '..Said'. Prove '..Said' where nothing that the law and all that it calls make is longer than what came in: it says more and counts as full. Else prove '..UptoSaid'. A law counts once. -/
mutual
def uptoBulk {H : Type} : DataW H → Nat
  | .lit (.string bytes) => bytes.length + 1
  | .lit _ => 1
  | .nil => 1
  | .ptr d => uptoBulk d + 1
  | .slice elems spare => uptoBulkAll elems + uptoBulkAll spare + 1
  | .agg parts => uptoBulkAll parts + 1
  | .iface _ d => uptoBulk d + 1
  | .map entries => uptoBulkEntries entries + 1
  | .held _ => 1
def uptoBulkAll {H : Type} : List (DataW H) → Nat
  | [] => 0
  | d :: r => uptoBulk d + uptoBulkAll r
def uptoBulkEntries {H : Type} : List (Lit × DataW H) → Nat
  | [] => 0
  | x :: r => uptoBulkEntry x + uptoBulkEntries r
def uptoBulkEntry {H : Type} : Lit × DataW H → Nat
  | (.string bytes, d) => bytes.length + uptoBulk d + 1
  | (_, d) => uptoBulk d + 1
 end
def uptoSmall : (H : Type) → List (DataW H) → Bool := fun _ ds => decide (uptoBulkAll ds ≤ 1048576)
def OpenSpec.upto (s : _root_.Go.ChangeSpec) : _root_.Go.OpenSpec := { _root_.Go.OpenSpec.ofChange s with cond := some uptoSmall }

/-- 'linkworktop.WholeAssemblies', WHERE WHAT IT READS IS OF BULK AT MOST 1048576: true; the input reads as it did. -/
def wholeAssembliesUptoRow : OpenClaim := { program := "ytmcpfihkambgnaagreat", sum := "dab4a1bb9442246dc7d70dfc12a9d86d0ec529358a902bfd8ca3c61d89246184", func := "linkwork/linkworktop.WholeAssemblies", spec := "wholeAssemblies", unfollowed := true, recurses := true, apart := false, narrowed := true }
def WholeAssembliesUptoSaid : Prop := wholeAssembliesUptoRow.holds Tryz.pinned (OpenSpec.upto wholeAssembliesSpec)

/-- 'linkworktop.WholeScaled', WHERE WHAT IT READS IS OF BULK AT MOST 1048576: true; the input reads as it did. -/
def wholeScaledUptoRow : OpenClaim := { program := "ytmcpfihkambgnaagreat", sum := "dab4a1bb9442246dc7d70dfc12a9d86d0ec529358a902bfd8ca3c61d89246184", func := "linkwork/linkworktop.WholeScaled", spec := "wholeScaled", unfollowed := true, recurses := true, apart := false, narrowed := true }
def WholeScaledUptoSaid : Prop := wholeScaledUptoRow.holds Tryz.pinned (OpenSpec.upto wholeScaledSpec)

/-- 'linkworktop.WholeFound', WHERE WHAT IT READS IS OF BULK AT MOST 1048576: true; the input reads as it did. -/
def wholeFoundUptoRow : OpenClaim := { program := "ytmcpfihkambgnaagreat", sum := "dab4a1bb9442246dc7d70dfc12a9d86d0ec529358a902bfd8ca3c61d89246184", func := "linkwork/linkworktop.WholeFound", spec := "wholeFound", unfollowed := true, recurses := true, apart := false, narrowed := true }
def WholeFoundUptoSaid : Prop := wholeFoundUptoRow.holds Tryz.pinned (OpenSpec.upto wholeFoundSpec)

/-- 'linkworktop.WholeNumbers', WHERE WHAT IT READS IS OF BULK AT MOST 1048576: true; the input reads as it did. -/
def wholeNumbersUptoRow : OpenClaim := { program := "ytmcpfihkambgnaagreat", sum := "dab4a1bb9442246dc7d70dfc12a9d86d0ec529358a902bfd8ca3c61d89246184", func := "linkwork/linkworktop.WholeNumbers", spec := "wholeNumbers", unfollowed := true, recurses := true, apart := false, narrowed := true }
def WholeNumbersUptoSaid : Prop := wholeNumbersUptoRow.holds Tryz.pinned (OpenSpec.upto wholeNumbersSpec)

end Rows
end Go.Proofs.YtmcpfihkambgnaaGreat
