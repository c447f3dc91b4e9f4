/- The law FnExactAcceptorValid: its walk. -/
import Derived.Test.YtcoibgnckkjpbaaAcc2
import Derived.Deep.RegionHeld3
namespace Go.Proofs.Ytcoibgnckkjpbaa
open Go.RowKit

theorem toAcceptor_any (p a v : Int) (w : World) : Calls Try.prog 17 #[.agg #[.int .i64 p, .int .i64 a, .int .i64 v]] w fun e w' => e = .returned (.agg #[.int .i64 p, .int .i64 a, .int .i64 v]) ∧ ∃ c1 c2 c3 : Array Value, w' = ((w.alloc (.cells c1 23)).alloc (.cells c2 25)).alloc (.cells c3 25) := by
  go_enter Try.func17, Try.ntmps17
  go_wp2
  go_returns
  exact ⟨rfl, _, _, _, rfl⟩

theorem exactAcceptorValid_walk (p a v : Int) (_wp : (Lit.int .i64 p).wf = true) (_wa : (Lit.int .i64 a).wf = true) (_wv : (Lit.int .i64 v).wf = true) (w : World) : Calls Try.prog 3 #[.agg #[.int .i64 p, .int .i64 a, .int .i64 v]] w fun e w' => e = .returned (.bool true) ∧ Below w.heap.size w w' := by
  go_enter Try.func3, Try.ntmps3
  go_wp2_with (first
    | (go_at_call 17; refine (toAcceptor_any _ _ _ _).mono ?_; rintro e w' ⟨rfl, c1, c2, c3, rfl⟩)
    | (go_at_call 16; refine (specValid_any _ _ _ _).mono ?_; rintro e w' ⟨rfl, rfl⟩)
    | (go_at_call 18; refine (implValid_any _ _ _ _).mono ?_; rintro e w' ⟨rfl, rfl⟩))
  go_ret
  exact ⟨rfl, by go_grown⟩
end Go.Proofs.Ytcoibgnckkjpbaa
