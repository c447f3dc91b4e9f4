/- The law FnExactSetMask: its walk. -/
import Derived.Test.YtafhpbghogdipaaDoorSet4
namespace Go.Proofs.YtafhpbghogdipaaDoor
open Go.RowKit
set_option maxHeartbeats 1000000

end Go.Proofs.YtafhpbghogdipaaDoor
