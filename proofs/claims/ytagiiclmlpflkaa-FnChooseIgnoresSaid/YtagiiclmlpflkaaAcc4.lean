/- Contracts of AcceptorPrepare and AcceptorAccept, the program's and the reference's. -/
import Derived.Test.YtagiiclmlpflkaaAcc3
import Derived.Test.YtagiiclmlpflkaaPick
namespace Go.Proofs.Ytagiiclmlpflkaa
open Go.RowKit

/-- A state as a value. -/
def acc (p a v : Int) : Value := .agg #[.int .i64 p, .int .i64 a, .int .i64 v]
/-- AcceptorPrepare's result: the state (its three numbers) and whether it moved. -/
def prOk (p a v b : Int) : Bool := accB p a v && inB b 1 20 && decide (p < b)
def prP (p a v b : Int) : Int := if accB p a v && inB b 1 20 then (if p < b then b else p) else 0
def prA (p a v b : Int) : Int := if accB p a v && inB b 1 20 then a else 0
def prV (p a v b : Int) : Int := if accB p a v && inB b 1 20 then v else 0
/-- AcceptorAccept's. -/
def acOk (p a v b x : Int) : Bool := accB p a v && inB b 1 20 && inB x 1 99 && decide (p ≤ b)
def acP (p a v b x : Int) : Int := if accB p a v && inB b 1 20 && inB x 1 99 then (if p ≤ b then b else p) else 0
def acA (p a v b x : Int) : Int := if accB p a v && inB b 1 20 && inB x 1 99 then (if p ≤ b then b else a) else 0
def acV (p a v b x : Int) : Int := if accB p a v && inB b 1 20 && inB x 1 99 then (if p ≤ b then x else v) else 0

end Go.Proofs.Ytagiiclmlpflkaa
