/- The law FnExactSetMask: its walk. -/
import Derived.Test.YtagiiclmlpflkaaSet4
namespace Go.Proofs.Ytagiiclmlpflkaa
open Go.RowKit
set_option maxHeartbeats 1000000

end Go.Proofs.Ytagiiclmlpflkaa
