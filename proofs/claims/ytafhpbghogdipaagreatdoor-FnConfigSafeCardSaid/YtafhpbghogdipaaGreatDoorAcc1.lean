/- Contracts of the acceptor functions: what spec.AcceptorValid and impl.AcceptorValid compute. -/
import Derived.Test.YtafhpbghogdipaaGreatDoorRows
import Derived.WalkKit
import Derived.WalkSpells
import Derived.WalkLawsBesides
import Derived.Deep.QuietTactic
import Derived.BigQuiet
import Derived.Outline
import Derived.Handy
namespace Go.Proofs.YtafhpbghogdipaaGreatDoor
open Go.RowKit

/-- n lies between lo and hi. -/
def inB (n lo hi : Int) : Bool := decide (lo ≤ n ∧ n ≤ hi)
theorem inB_true {n lo hi : Int} (h1 : lo ≤ n) (h2 : n ≤ hi) : inB n lo hi = true := by unfold inB; simp [h1, h2]
theorem inB_false {n lo hi : Int} (h : n < lo ∨ hi < n) : inB n lo hi = false := by unfold inB; simp; omega
theorem inB_iff {n lo hi : Int} : inB n lo hi = true ↔ lo ≤ n ∧ n ≤ hi := by unfold inB; simp

theorem l6In_any (n lo hi : Int) (w : World) : Calls Tryz.prog 69 #[.int .i64 n, .int .i64 lo, .int .i64 hi] w fun e w' => e = .returned (.bool (inB n lo hi)) ∧ w' = w := by
  unfold inB
  by_cases h1 : lo ≤ n <;> by_cases h2 : n ≤ hi
  all_goals
    go_enter Tryz.func69, Tryz.ntmps69
    go_wp2
    go_ret
    exact ⟨by simp [*], rfl⟩
end Go.Proofs.YtafhpbghogdipaaGreatDoor
