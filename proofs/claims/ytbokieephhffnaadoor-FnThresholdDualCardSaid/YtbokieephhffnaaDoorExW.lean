/- The laws FnExprValid and FnDepth: their walks. -/
import Derived.Test.YtbokieephhffnaaDoorExL
namespace Go.Proofs.YtbokieephhffnaaDoor
open Go.RowKit
set_option maxHeartbeats 8000000
set_option linter.unusedVariables false

end Go.Proofs.YtbokieephhffnaaDoor
