/- Part 9. -/
import Derived.Test.YtmcpfihkambgnaaGreatLw00
import Derived.Test.YtmcpfihkambgnaaGreatRows
import Derived.WalkKit
import Derived.ProofKit
import Derived.OpenShut
import Derived.JoinedCond
import Derived.LaidMore
set_option maxHeartbeats 2000000
set_option linter.all false
open Option renaming some->a6,none->bk
open _root_ renaming Bool->b5
open Bool renaming true->bj
open Go.Proofs.YtmcpfihkambgnaaGreat.Rows.OpenSpec renaming upto->eR
namespace Go.Proofs.YtmcpfihkambgnaaGreat
namespace A'
open Go
variable {c f:b5}
def an(d:c=bj)(a:f=bj):(c&&f)=bj:=by rw[d,a];rfl
def k1:(Rows.wholeFoundUptoRow.wf (OpenSpec.ofChange ((eR Rows.wholeFoundSpec).bare)))=bj:=zc
def k2:(laidOutB Tryz.pinned.checked.prog)=bj:=zc
def k3:(mapsRowed Tryz.pinned.checked.prog)=bj:=zc
def k4:(Tryz.f5.params.all (Tryz.pinned.checked.prog.readableRec ·))=bj:=zc
def k5:(namedTie Tryz.pinned.checked.prog Rows.wholeFoundUptoRow.named ((eR Rows.wholeFoundSpec).bare).vars)=bj:=zc
def k6:(Rows.wholeFoundUptoRow.stops==[])=bj:=zc
def k7:(Tryz.pinned.checked.prog.stops==[])=bj:=zc
def k8:(Rows.wholeFoundUptoRow.knobs==[])=bj:=zc
def k9:(Tryz.pinned.checked.prog.stopKnobs==[])=bj:=zc
def k10:(Rows.wholeFoundUptoRow.inPlace==Tryz.pinned.checked.prog.inPlace 5)=bj:=zc
def k11:(Rows.wholeFoundUptoRow.unfollowed==Tryz.pinned.checked.prog.unfollowed 5)=bj:=zc
def k12:(Rows.wholeFoundUptoRow.recurses==Tryz.pinned.checked.prog.recurses 5)=bj:=zc
def k13:(Rows.wholeFoundUptoRow.named==Tryz.pinned.checked.prog.varsNamed 5)=bj:=zc
def k14:(Rows.wholeFoundUptoRow.maps==(Tryz.f5.params.toList++((eR Rows.wholeFoundSpec).bare).plain.varTypes Tryz.pinned.checked.prog).any (Tryz.pinned.checked.prog.mapsRec ·))=bj:=zc
def k15:(Rows.wholeFoundUptoRow.ifaces==(Tryz.f5.params.toList++((eR Rows.wholeFoundSpec).bare).plain.varTypes Tryz.pinned.checked.prog).any (Tryz.pinned.checked.prog.ifacesRec ·))=bj:=zc
def k16:(Rows.wholeFoundUptoRow.mapsOut==Tryz.pinned.checked.prog.mapsAmong Tryz.f5.resultTypes.toList)=bj:=zc
def k17:(Rows.wholeFoundUptoRow.loops==(Tryz.f5.params.toList++((eR Rows.wholeFoundSpec).bare).plain.varTypes Tryz.pinned.checked.prog).any (Tryz.pinned.checked.prog.loopsFrom ·))=bj:=zc
def k18:(Rows.wholeFoundUptoRow.wideKeys==(Tryz.f5.params.toList++((eR Rows.wholeFoundSpec).bare).plain.varTypes Tryz.pinned.checked.prog++Tryz.f5.resultTypes.toList).any (Tryz.pinned.checked.prog.wideKeysFrom ·))=bj:=zc
def k19:(((eR Rows.wholeFoundSpec).bare).vars.all (Tryz.pinned.checked.prog.varReadable ·))=bj:=zc
def k20:(Tryz.f5.resultTypes.all (λt=>Tryz.pinned.checked.prog.readableRec t&&decide (t<Tryz.pinned.checked.prog.types.size)))=bj:=zc
def k21:(Rows.wholeFoundUptoRow.ifacesOut==Tryz.f5.resultTypes.toList.any (Tryz.pinned.checked.prog.ifacesRec ·))=bj:=zc
def k22:(Rows.wholeFoundUptoRow.loopsOut==Tryz.f5.resultTypes.toList.any (Tryz.pinned.checked.prog.loopsFrom ·))=bj:=zc
def k23:(Rows.wholeFoundUptoRow.plainKeys==Tryz.pinned.checked.prog.plainKeys)=bj:=zc
def k24:(Rows.wholeFoundUptoRow.shortTexts.isNone)=bj:=zc
def k25:(Tryz.pinned.checked.prog.stopsHeard)=bj:=zc
def k26:(Tryz.pinned.checked.prog.mayEnter)=bj:=zc
def k27:(Rows.wholeFoundUptoRow.lifted==Tryz.pinned.checked.prog.liftsFinal)=bj:=zc
def k28:(Tryz.pinned.checked.prog.make==a6 Rows.wholeFoundUptoRow.make)=bj:=zc
def k29:(Rows.wholeFoundUptoRow.kinds==(if Rows.wholeFoundUptoRow.domain.isEmpty then []else Tryz.f5.params.toList.map λt=>match Tryz.pinned.checked.prog.underlying t with|some (.int k)=>a6 k|_=>bk))=bj:=zc
def k30:(Rows.wholeFoundUptoRow.pinned==Rows.wholeFoundUptoRow.pinnedBy)=bj:=zc
def k31:(Rows.wholeFoundUptoRow.veiled==(Tryz.f5.params.toList++((eR Rows.wholeFoundSpec).bare).plain.varTypes Tryz.pinned.checked.prog++Tryz.f5.resultTypes.toList).any (Tryz.pinned.checked.prog.veiledRec ·))=bj:=zc
def k32:(Rows.wholeFoundUptoRow.veiledFits Tryz.pinned.checked.prog Tryz.f5.params.toList (Tryz.f5.params.toList++((eR Rows.wholeFoundSpec).bare).plain.varTypes Tryz.pinned.checked.prog++Tryz.f5.resultTypes.toList))=bj:=zc
set_option maxRecDepth 100000 in
def facts:joinedFacts Tryz.pinned.checked.prog 5 Tryz.f5 ((eR Rows.wholeFoundSpec).bare) Rows.wholeFoundUptoRow=bj:=by
 unfold joinedFacts;exact(an (an (an (an (an (an (an (an (an (an (an (an (an (an (an (an (an (an (an (an (an (an (an (an (an (an (an (an (an (an (an k1 k2) k3) k4) k5) k6) k7) k8) k9) k10) k11) k12) k13) k14) k15) k16) k17) k18) k19) k20) k21) k22) k23) k24) k25) k26) k27) k28) k29) k30) k31) k32)
end A'
end Go.Proofs.YtmcpfihkambgnaaGreat
