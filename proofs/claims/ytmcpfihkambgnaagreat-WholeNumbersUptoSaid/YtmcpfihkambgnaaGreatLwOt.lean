/- What the row of WholeNumbers says of the program. -/
import Derived.Test.YtmcpfihkambgnaaGreatLwOs
namespace Go.Proofs.YtmcpfihkambgnaaGreat
namespace wholeNumbers
open Go
set_option maxRecDepth 100000 in
theorem facts : joinedFacts Tryz.pinned.checked.prog 6 Tryz.f6 ((Rows.OpenSpec.upto Rows.wholeNumbersSpec).bare) Rows.wholeNumbersUptoRow = true := by
  unfold joinedFacts
  exact (an (an (an (an (an (an (an (an (an (an (an (an (an (an (an (an (an (an (an (an (an (an (an (an (an (an (an (an (an (an (an k1 k2) k3) k4) k5) k6) k7) k8) k9) k10) k11) k12) k13) k14) k15) k16) k17) k18) k19) k20) k21) k22) k23) k24) k25) k26) k27) k28) k29) k30) k31) k32)
end wholeNumbers
end Go.Proofs.YtmcpfihkambgnaaGreat
