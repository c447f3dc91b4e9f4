/- The law FnExactAcceptorValid: its walk. -/
import Derived.Test.YtagiiclmlpflkaaAcc2
import Derived.Deep.RegionHeld3
namespace Go.Proofs.Ytagiiclmlpflkaa
open Go.RowKit

end Go.Proofs.Ytagiiclmlpflkaa
