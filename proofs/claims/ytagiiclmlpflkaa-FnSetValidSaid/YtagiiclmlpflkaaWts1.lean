/- WeightsValid, the program's and the reference's, and the law FnExactWeightsValid. -/
import Derived.Test.YtagiiclmlpflkaaWts0
namespace Go.Proofs.Ytagiiclmlpflkaa
open Go.RowKit

/-- A vote assignment is valid. -/
def wtsB (zs : List Int) : Bool := zs.all (fun z => inB z 0 9) && inB zs.length 1 6
set_option maxHeartbeats 1000000

end Go.Proofs.Ytagiiclmlpflkaa
