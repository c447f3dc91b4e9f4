/- The reference's l2End: where an expression ends. -/
import Derived.Test.YtbokieephhffnaaDoorEx0
import Derived.Test.YtbokieephhffnaaDoorAcc1
import Derived.LoopTactic
import Derived.IntWalk
import Derived.Lib.Hide
namespace Go.Proofs.YtbokieephhffnaaDoor
open Go.RowKit
set_option maxHeartbeats 2000000

theorem ret_i {a b : Int} (h : a = b) : Ending.returned (.int .i64 a) = .returned (.int .i64 b) := by rw [h]
theorem u8_sub {c : Nat} (h1 : 48 ≤ c) (h2 : c < 256) : IntKind.u8.wrap ((c : Int) - 48) = ((c - 48 : Nat) : Int) := by
  have : IntKind.u8.wrap ((c : Int) - 48) = ((c : Int) - 48) % 256 := by first | rfl | simp [IntKind.wrap]
  rw [this]
  omega
theorem ret_bool' {a b : Bool} (h : a = b) : Ending.returned (.bool a) = .returned (.bool b) := by rw [h]
theorem byte_lt (x : UInt8) : x.toNat < 256 := UInt8.toNat_lt x

end Go.Proofs.YtbokieephhffnaaDoor
