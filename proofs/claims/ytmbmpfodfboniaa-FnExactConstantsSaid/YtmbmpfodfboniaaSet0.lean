/- The law FnExactConstants: its walk. -/
import Derived.Test.YtmbmpfodfboniaaAcc1
namespace Go.Proofs.Ytmbmpfodfboniaa
open Go.RowKit
theorem exactConstants_walk (w : World) : Calls Try.prog 3 #[] w fun e w' => e = .returned (.bool true) ∧ Below w.heap.size w w' := by
  go_enter Try.func3, Try.ntmps3
  go_wp2
  go_ret
  exact ⟨rfl, Below.refl _ _⟩
end Go.Proofs.Ytmbmpfodfboniaa
