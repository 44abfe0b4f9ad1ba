/- What the row of WholeNumbers says of the program, one fact at a time. -/
import Derived.Test.YtmcpfihkambgnaaGreatRows
import Derived.WalkKit
import Derived.ProofKit
import Derived.OpenShut
import Derived.JoinedCond
import Derived.LaidMore
namespace Go.Proofs.YtmcpfihkambgnaaGreat
namespace wholeNumbers
open Go
theorem an {a b : Bool} (ha : a = true) (hb : b = true) : (a && b) = true := by rw [ha, hb]; rfl
theorem k1 : (Rows.wholeNumbersUptoRow.wf (OpenSpec.ofChange ((Rows.OpenSpec.upto Rows.wholeNumbersSpec).bare))) = true := by kernel_rfl
theorem k2 : (laidOutB Tryz.pinned.checked.prog) = true := by kernel_rfl
theorem k3 : (mapsRowed Tryz.pinned.checked.prog) = true := by kernel_rfl
theorem k4 : (Tryz.f6.params.all (Tryz.pinned.checked.prog.readableRec ·)) = true := by kernel_rfl
theorem k5 : (namedTie Tryz.pinned.checked.prog Rows.wholeNumbersUptoRow.named ((Rows.OpenSpec.upto Rows.wholeNumbersSpec).bare).vars) = true := by kernel_rfl
theorem k6 : (Rows.wholeNumbersUptoRow.stops == []) = true := by kernel_rfl
theorem k7 : (Tryz.pinned.checked.prog.stops == []) = true := by kernel_rfl
theorem k8 : (Rows.wholeNumbersUptoRow.knobs == []) = true := by kernel_rfl
theorem k9 : (Tryz.pinned.checked.prog.stopKnobs == []) = true := by kernel_rfl
theorem k10 : (Rows.wholeNumbersUptoRow.inPlace == Tryz.pinned.checked.prog.inPlace 6) = true := by kernel_rfl
theorem k11 : (Rows.wholeNumbersUptoRow.unfollowed == Tryz.pinned.checked.prog.unfollowed 6) = true := by kernel_rfl
theorem k12 : (Rows.wholeNumbersUptoRow.recurses == Tryz.pinned.checked.prog.recurses 6) = true := by kernel_rfl
theorem k13 : (Rows.wholeNumbersUptoRow.named == Tryz.pinned.checked.prog.varsNamed 6) = true := by kernel_rfl
theorem k14 : (Rows.wholeNumbersUptoRow.maps == (Tryz.f6.params.toList ++ ((Rows.OpenSpec.upto Rows.wholeNumbersSpec).bare).plain.varTypes Tryz.pinned.checked.prog).any (Tryz.pinned.checked.prog.mapsRec ·)) = true := by kernel_rfl
theorem k15 : (Rows.wholeNumbersUptoRow.ifaces == (Tryz.f6.params.toList ++ ((Rows.OpenSpec.upto Rows.wholeNumbersSpec).bare).plain.varTypes Tryz.pinned.checked.prog).any (Tryz.pinned.checked.prog.ifacesRec ·)) = true := by kernel_rfl
theorem k16 : (Rows.wholeNumbersUptoRow.mapsOut == Tryz.pinned.checked.prog.mapsAmong Tryz.f6.resultTypes.toList) = true := by kernel_rfl
theorem k17 : (Rows.wholeNumbersUptoRow.loops == (Tryz.f6.params.toList ++ ((Rows.OpenSpec.upto Rows.wholeNumbersSpec).bare).plain.varTypes Tryz.pinned.checked.prog).any (Tryz.pinned.checked.prog.loopsFrom ·)) = true := by kernel_rfl
theorem k18 : (Rows.wholeNumbersUptoRow.wideKeys == (Tryz.f6.params.toList ++ ((Rows.OpenSpec.upto Rows.wholeNumbersSpec).bare).plain.varTypes Tryz.pinned.checked.prog ++ Tryz.f6.resultTypes.toList).any (Tryz.pinned.checked.prog.wideKeysFrom ·)) = true := by kernel_rfl
theorem k19 : (((Rows.OpenSpec.upto Rows.wholeNumbersSpec).bare).vars.all (Tryz.pinned.checked.prog.varReadable ·)) = true := by kernel_rfl
theorem k20 : (Tryz.f6.resultTypes.all (fun t => Tryz.pinned.checked.prog.readableRec t && decide (t < Tryz.pinned.checked.prog.types.size))) = true := by kernel_rfl
theorem k21 : (Rows.wholeNumbersUptoRow.ifacesOut == Tryz.f6.resultTypes.toList.any (Tryz.pinned.checked.prog.ifacesRec ·)) = true := by kernel_rfl
theorem k22 : (Rows.wholeNumbersUptoRow.loopsOut == Tryz.f6.resultTypes.toList.any (Tryz.pinned.checked.prog.loopsFrom ·)) = true := by kernel_rfl
theorem k23 : (Rows.wholeNumbersUptoRow.plainKeys == Tryz.pinned.checked.prog.plainKeys) = true := by kernel_rfl
theorem k24 : (Rows.wholeNumbersUptoRow.shortTexts.isNone) = true := by kernel_rfl
theorem k25 : (Tryz.pinned.checked.prog.stopsHeard) = true := by kernel_rfl
theorem k26 : (Tryz.pinned.checked.prog.mayEnter) = true := by kernel_rfl
theorem k27 : (Rows.wholeNumbersUptoRow.lifted == Tryz.pinned.checked.prog.liftsFinal) = true := by kernel_rfl
theorem k28 : (Tryz.pinned.checked.prog.make == some Rows.wholeNumbersUptoRow.make) = true := by kernel_rfl
theorem k29 : (Rows.wholeNumbersUptoRow.kinds == (if Rows.wholeNumbersUptoRow.domain.isEmpty then [] else Tryz.f6.params.toList.map fun t => match Tryz.pinned.checked.prog.underlying t with | some (.int k) => some k | _ => none)) = true := by kernel_rfl
theorem k30 : (Rows.wholeNumbersUptoRow.pinned == Rows.wholeNumbersUptoRow.pinnedBy) = true := by kernel_rfl
theorem k31 : (Rows.wholeNumbersUptoRow.veiled == (Tryz.f6.params.toList ++ ((Rows.OpenSpec.upto Rows.wholeNumbersSpec).bare).plain.varTypes Tryz.pinned.checked.prog ++ Tryz.f6.resultTypes.toList).any (Tryz.pinned.checked.prog.veiledRec ·)) = true := by kernel_rfl
theorem k32 : (Rows.wholeNumbersUptoRow.veiledFits Tryz.pinned.checked.prog Tryz.f6.params.toList (Tryz.f6.params.toList ++ ((Rows.OpenSpec.upto Rows.wholeNumbersSpec).bare).plain.varTypes Tryz.pinned.checked.prog ++ Tryz.f6.resultTypes.toList)) = true := by kernel_rfl
end wholeNumbers
end Go.Proofs.YtmcpfihkambgnaaGreat
