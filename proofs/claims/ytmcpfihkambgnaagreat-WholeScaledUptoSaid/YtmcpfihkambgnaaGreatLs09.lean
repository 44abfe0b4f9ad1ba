/- Part 9. -/
import Derived.Test.YtmcpfihkambgnaaGreatLs00
import Derived.Test.YtmcpfihkambgnaaGreatRows
import Derived.WalkKit
import Derived.ProofKit
import Derived.OpenShut
import Derived.JoinedCond
import Derived.LaidMore
set_option maxHeartbeats 2000000
set_option linter.all false
open Option renaming some->a6,none->bk
open _root_ renaming Bool->b5
open Bool renaming true->bj
open Go.Proofs.YtmcpfihkambgnaaGreat.Rows.OpenSpec renaming upto->eR
open Go.Proofs.YtmcpfihkambgnaaGreat.Rows renaming wholeScaledSpec->et
namespace Go.Proofs.YtmcpfihkambgnaaGreat
namespace mD
open Go
def an{a b:b5}(d:a=bj)(c:b=bj):(a&&b)=bj:=by rw[d,c];rfl
def k1:(Rows.wholeScaledUptoRow.wf (OpenSpec.ofChange ((eR et).bare)))=bj:=zk
def k2:(laidOutB Tryz.pinned.checked.prog)=bj:=zk
def k3:(mapsRowed Tryz.pinned.checked.prog)=bj:=zk
def k4:(Tryz.f4.params.all (Tryz.pinned.checked.prog.readableRec ·))=bj:=zk
def k5:(namedTie Tryz.pinned.checked.prog Rows.wholeScaledUptoRow.named ((eR et).bare).vars)=bj:=zk
def k6:(Rows.wholeScaledUptoRow.stops==[])=bj:=zk
def k7:(Tryz.pinned.checked.prog.stops==[])=bj:=zk
def k8:(Rows.wholeScaledUptoRow.knobs==[])=bj:=zk
def k9:(Tryz.pinned.checked.prog.stopKnobs==[])=bj:=zk
def k10:(Rows.wholeScaledUptoRow.inPlace==Tryz.pinned.checked.prog.inPlace 4)=bj:=zk
def k11:(Rows.wholeScaledUptoRow.unfollowed==Tryz.pinned.checked.prog.unfollowed 4)=bj:=zk
def k12:(Rows.wholeScaledUptoRow.recurses==Tryz.pinned.checked.prog.recurses 4)=bj:=zk
def k13:(Rows.wholeScaledUptoRow.named==Tryz.pinned.checked.prog.varsNamed 4)=bj:=zk
def k14:(Rows.wholeScaledUptoRow.maps==(Tryz.f4.params.toList++((eR et).bare).plain.varTypes Tryz.pinned.checked.prog).any (Tryz.pinned.checked.prog.mapsRec ·))=bj:=zk
def k15:(Rows.wholeScaledUptoRow.ifaces==(Tryz.f4.params.toList++((eR et).bare).plain.varTypes Tryz.pinned.checked.prog).any (Tryz.pinned.checked.prog.ifacesRec ·))=bj:=zk
def k16:(Rows.wholeScaledUptoRow.mapsOut==Tryz.pinned.checked.prog.mapsAmong Tryz.f4.resultTypes.toList)=bj:=zk
def k17:(Rows.wholeScaledUptoRow.loops==(Tryz.f4.params.toList++((eR et).bare).plain.varTypes Tryz.pinned.checked.prog).any (Tryz.pinned.checked.prog.loopsFrom ·))=bj:=zk
def k18:(Rows.wholeScaledUptoRow.wideKeys==(Tryz.f4.params.toList++((eR et).bare).plain.varTypes Tryz.pinned.checked.prog++Tryz.f4.resultTypes.toList).any (Tryz.pinned.checked.prog.wideKeysFrom ·))=bj:=zk
def k19:(((eR et).bare).vars.all (Tryz.pinned.checked.prog.varReadable ·))=bj:=zk
def k20:(Tryz.f4.resultTypes.all (λt=>Tryz.pinned.checked.prog.readableRec t&&decide (t<Tryz.pinned.checked.prog.types.size)))=bj:=zk
def k21:(Rows.wholeScaledUptoRow.ifacesOut==Tryz.f4.resultTypes.toList.any (Tryz.pinned.checked.prog.ifacesRec ·))=bj:=zk
def k22:(Rows.wholeScaledUptoRow.loopsOut==Tryz.f4.resultTypes.toList.any (Tryz.pinned.checked.prog.loopsFrom ·))=bj:=zk
def k23:(Rows.wholeScaledUptoRow.plainKeys==Tryz.pinned.checked.prog.plainKeys)=bj:=zk
def k24:(Rows.wholeScaledUptoRow.shortTexts.isNone)=bj:=zk
def k25:(Tryz.pinned.checked.prog.stopsHeard)=bj:=zk
def k26:(Tryz.pinned.checked.prog.mayEnter)=bj:=zk
def k27:(Rows.wholeScaledUptoRow.lifted==Tryz.pinned.checked.prog.liftsFinal)=bj:=zk
def k28:(Tryz.pinned.checked.prog.make==a6 Rows.wholeScaledUptoRow.make)=bj:=zk
def k29:(Rows.wholeScaledUptoRow.kinds==(if Rows.wholeScaledUptoRow.domain.isEmpty then []else Tryz.f4.params.toList.map λt=>match Tryz.pinned.checked.prog.underlying t with|some (.int k)=>a6 k|_=>bk))=bj:=zk
def k30:(Rows.wholeScaledUptoRow.pinned==Rows.wholeScaledUptoRow.pinnedBy)=bj:=zk
def k31:(Rows.wholeScaledUptoRow.veiled==(Tryz.f4.params.toList++((eR et).bare).plain.varTypes Tryz.pinned.checked.prog++Tryz.f4.resultTypes.toList).any (Tryz.pinned.checked.prog.veiledRec ·))=bj:=zk
def k32:(Rows.wholeScaledUptoRow.veiledFits Tryz.pinned.checked.prog Tryz.f4.params.toList (Tryz.f4.params.toList++((eR et).bare).plain.varTypes Tryz.pinned.checked.prog++Tryz.f4.resultTypes.toList))=bj:=zk
set_option maxRecDepth 100000 in
def facts:joinedFacts Tryz.pinned.checked.prog 4 Tryz.f4 ((eR et).bare) Rows.wholeScaledUptoRow=bj:=by unfold joinedFacts;exact(an (an (an (an (an (an (an (an (an (an (an (an (an (an (an (an (an (an (an (an (an (an (an (an (an (an (an (an (an (an (an k1 k2) k3) k4) k5) k6) k7) k8) k9) k10) k11) k12) k13) k14) k15) k16) k17) k18) k19) k20) k21) k22) k23) k24) k25) k26) k27) k28) k29) k30) k31) k32)
end mD
end Go.Proofs.YtmcpfihkambgnaaGreat
