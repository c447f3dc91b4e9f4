/- The law FnExactSetMask: its walk. -/
import Derived.Test.YtiepoadnncnbkaaSet4
namespace Go.Proofs.Ytiepoadnncnbkaa
open Go.RowKit
set_option maxHeartbeats 1000000

end Go.Proofs.Ytiepoadnncnbkaa
