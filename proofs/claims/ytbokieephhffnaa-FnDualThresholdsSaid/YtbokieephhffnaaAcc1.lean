/- Contracts of the acceptor functions: what spec.AcceptorValid and impl.AcceptorValid compute. -/
import Derived.Test.YtbokieephhffnaaRows
import Derived.WalkKit
import Derived.WalkSpells
import Derived.WalkLawsBesides
import Derived.Deep.QuietTactic
import Derived.BigQuiet
import Derived.Outline
import Derived.Handy
namespace Go.Proofs.Ytbokieephhffnaa
open Go.RowKit

/-- n lies between lo and hi. -/
def inB (n lo hi : Int) : Bool := decide (lo ≤ n ∧ n ≤ hi)
theorem inB_true {n lo hi : Int} (h1 : lo ≤ n) (h2 : n ≤ hi) : inB n lo hi = true := by unfold inB; simp [h1, h2]
theorem inB_false {n lo hi : Int} (h : n < lo ∨ hi < n) : inB n lo hi = false := by unfold inB; simp; omega
theorem inB_iff {n lo hi : Int} : inB n lo hi = true ↔ lo ≤ n ∧ n ≤ hi := by unfold inB; simp

end Go.Proofs.Ytbokieephhffnaa
