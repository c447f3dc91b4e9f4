/- Contracts of the acceptor functions: what spec.AcceptorValid and impl.AcceptorValid compute. -/
import Derived.Test.YtagiiclmlpflkaaAcc1
namespace Go.Proofs.Ytagiiclmlpflkaa
open Go.RowKit

theorem l21Value_any (n : Int) (w : World) : Calls Try.prog 15 #[.int .i64 n] w fun e w' => e = .returned (.bool (inB n 1 99)) ∧ w' = w := by
  go_enter Try.func15, Try.ntmps15
  go_wp2_with (go_at_call 23; refine (l6In_any _ _ _ _).mono ?_; rintro e w' ⟨rfl, rfl⟩)
  go_ret
  exact ⟨rfl, rfl⟩

theorem isValue_any (n : Int) (w : World) : Calls Try.prog 17 #[.int .i64 n] w fun e w' => e = .returned (.bool (inB n 1 99)) ∧ w' = w := by
  unfold inB
  by_cases h1 : 1 ≤ n <;> by_cases h2 : n ≤ 99
  all_goals
    go_enter Try.func17, Try.ntmps17
    go_wp2
    go_ret
    exact ⟨by simp [*], rfl⟩

/-- An acceptor's state is valid. -/
def accB (p a v : Int) : Bool := inB p 0 20 && inB a 0 p && ((a == 0 && v == 0) || (decide (0 < a) && inB v 1 99))

theorem ret_bool {a b : Bool} (h : a = b) : Ending.returned (.bool a) = .returned (.bool b) := by rw [h]

theorem specValid_any (p a v : Int) (w : World) : Calls Try.prog 14 #[.agg #[.int .i64 p, .int .i64 a, .int .i64 v]] w fun e w' => e = .returned (.bool (accB p a v)) ∧ w' = (w.alloc (.cells #[.int .i64 p, .int .i64 a, .int .i64 v] 29)) := by
  go_enter Try.func14, Try.ntmps14
  go_wp2
  all_goals go_ret
  all_goals refine ⟨ret_bool ?_, by first | rfl | simp [*]⟩
  all_goals (unfold accB inB; rw [Bool.eq_iff_iff]; simp at *; omega)

theorem implValid_any (p a v : Int) (w : World) : Calls Try.prog 20 #[.agg #[.int .i64 p, .int .i64 a, .int .i64 v]] w fun e w' => e = .returned (.bool (accB p a v)) ∧ w' = (w.alloc (.cells #[.int .i64 p, .int .i64 a, .int .i64 v] 29)) := by
  go_enter Try.func20, Try.ntmps20
  go_wp2
  all_goals go_ret
  all_goals refine ⟨ret_bool ?_, by first | rfl | simp [*]⟩
  all_goals (unfold accB inB; rw [Bool.eq_iff_iff]; simp at *; omega)
end Go.Proofs.Ytagiiclmlpflkaa
