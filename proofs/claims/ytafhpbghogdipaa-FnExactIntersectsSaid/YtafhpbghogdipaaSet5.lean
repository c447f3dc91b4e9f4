/- The law FnExactSetMask: its walk. -/
import Derived.Test.YtafhpbghogdipaaSet4
namespace Go.Proofs.Ytafhpbghogdipaa
open Go.RowKit
set_option maxHeartbeats 1000000

end Go.Proofs.Ytafhpbghogdipaa
