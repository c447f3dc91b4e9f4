/- The reference's l1OfMask: the list of a mask's members. -/
import Derived.Test.YtafhpbghogdipaaDoorAcc1
import Derived.Test.YtafhpbghogdipaaDoorOwn
import Derived.LoopTactic
namespace Go.Proofs.YtafhpbghogdipaaDoor
open Go.RowKit
set_option maxHeartbeats 1000000

/-- The members among the first k that a mask has. -/
def ofTo (mask : Nat) : Nat → List Int
  | 0 => []
  | k + 1 => ofTo mask k ++ (if mask / 2 ^ k % 2 = 1 then [(k : Int) + 1] else [])
theorem ofTo_len (mask : Nat) : ∀ k, (ofTo mask k).length ≤ k
  | 0 => by simp [ofTo]
  | k + 1 => by
    have := ofTo_len mask k
    unfold ofTo
    split <;> simp <;> omega
theorem ofTo_bd (mask : Nat) : ∀ k, ∀ z ∈ ofTo mask k, 1 ≤ z ∧ z ≤ k
  | 0 => by simp [ofTo]
  | k + 1 => by
    intro z hz
    have ih := ofTo_bd mask k
    unfold ofTo at hz
    rw [List.mem_append] at hz
    rcases hz with hz | hz
    · have := ih z hz
      omega
    · split at hz <;> simp at hz
      omega
theorem mask_half (mask k : Nat) : mask / 2 ^ k / 2 = mask / 2 ^ (k + 1) := by
  rw [Nat.div_div_eq_div_mul, Nat.pow_succ]

end Go.Proofs.YtafhpbghogdipaaDoor
