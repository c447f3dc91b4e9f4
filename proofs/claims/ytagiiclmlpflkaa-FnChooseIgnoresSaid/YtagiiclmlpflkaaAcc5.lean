/- The draws of acceptor states, and the laws over AcceptorPrepare and AcceptorAccept. -/
import Derived.Test.YtagiiclmlpflkaaAcc4
import Derived.Test.YtagiiclmlpflkaaPick2
namespace Go.Proofs.Ytagiiclmlpflkaa
open Go.RowKit

def eqAcc (p a v p' a' v' : Int) : Bool := p == p' && a == a' && v == v'
theorem eqAcc_same (p a v : Int) : eqAcc p a v p a v = true := by simp [eqAcc]
end Go.Proofs.Ytagiiclmlpflkaa
