/- The law FnExactSetMask: its walk. -/
import Derived.Test.YtafhpbghogdipaaGreatDoorSet4
namespace Go.Proofs.YtafhpbghogdipaaGreatDoor
open Go.RowKit
set_option maxHeartbeats 1000000

end Go.Proofs.YtafhpbghogdipaaGreatDoor
