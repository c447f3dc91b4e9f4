/- Contracts of AcceptorPrepare and AcceptorAccept, the program's and the reference's. -/
import Derived.Test.YtcoibgnckkjpbaaAcc3
import Derived.Test.YtcoibgnckkjpbaaPick
namespace Go.Proofs.Ytcoibgnckkjpbaa
open Go.RowKit

/-- A state as a value. -/
def acc (p a v : Int) : Value := .agg #[.int .i64 p, .int .i64 a, .int .i64 v]
/-- AcceptorPrepare's result: the state (its three numbers) and whether it moved. -/
def prOk (p a v b : Int) : Bool := accB p a v && inB b 1 20 && decide (p < b)
def prP (p a v b : Int) : Int := if accB p a v && inB b 1 20 then (if p < b then b else p) else 0
def prA (p a v b : Int) : Int := if accB p a v && inB b 1 20 then a else 0
def prV (p a v b : Int) : Int := if accB p a v && inB b 1 20 then v else 0
/-- AcceptorAccept's. -/
def acOk (p a v b x : Int) : Bool := accB p a v && inB b 1 20 && inB x 1 99 && decide (p ≤ b)
def acP (p a v b x : Int) : Int := if accB p a v && inB b 1 20 && inB x 1 99 then (if p ≤ b then b else p) else 0
def acA (p a v b x : Int) : Int := if accB p a v && inB b 1 20 && inB x 1 99 then (if p ≤ b then b else a) else 0
def acV (p a v b x : Int) : Int := if accB p a v && inB b 1 20 && inB x 1 99 then (if p ≤ b then x else v) else 0

theorem isBallot_any (n : Int) (w : World) : Calls Try.prog 38 #[.int .i64 n] w fun e w' => e = .returned (.bool (inB n 1 20)) ∧ w' = w := by
  unfold inB
  by_cases h1 : 1 ≤ n <;> by_cases h2 : n ≤ 20
  all_goals
    go_enter Try.func38, Try.ntmps38
    go_wp2
    go_ret
    exact ⟨by simp [*], rfl⟩

set_option maxHeartbeats 2000000 in
theorem specPrepare_any (p a v b : Int) (w : World) : Calls Try.prog 23 #[.agg #[.int .i64 p, .int .i64 a, .int .i64 v], .int .i64 b] w fun e w' =>
    e = .returned (.tuple #[.agg #[.int .i64 (prP p a v b), .int .i64 (prA p a v b), .int .i64 (prV p a v b)], .bool (prOk p a v b)]) ∧ Below w.heap.size w w' := by
  have hcase : accB p a v = false ∨ (accB p a v = true ∧ inB b 1 20 = false) ∨ (accB p a v = true ∧ inB b 1 20 = true ∧ p < b) ∨ (accB p a v = true ∧ inB b 1 20 = true ∧ ¬ p < b) := by
    cases accB p a v <;> cases inB b 1 20 <;> by_cases p < b <;> simp [*]
  rcases hcase with h1 | ⟨h1, h2⟩ | ⟨h1, h2, h3⟩ | ⟨h1, h2, h3⟩
  all_goals
    go_enter Try.func23, Try.ntmps23
    go_wp2_with (first
      | (go_at_call 33; refine (l6In_any _ _ _ _).mono ?_; rintro e w' ⟨rfl, rfl⟩)
      | (go_at_call 16; refine (specValid_any _ _ _ _).mono ?_; rintro e w' ⟨rfl, rfl⟩))
    go_returns
    exact ⟨by simp [prP, prA, prV, prOk, *] <;> omega, by go_grown⟩

set_option maxHeartbeats 2000000 in
theorem implPrepare_any (p a v b : Int) (w : World) : Calls Try.prog 24 #[.agg #[.int .i64 p, .int .i64 a, .int .i64 v], .int .i64 b] w fun e w' =>
    e = .returned (.tuple #[.agg #[.int .i64 (prP p a v b), .int .i64 (prA p a v b), .int .i64 (prV p a v b)], .bool (prOk p a v b)]) ∧ Below w.heap.size w w' := by
  have hcase : accB p a v = false ∨ (accB p a v = true ∧ inB b 1 20 = false) ∨ (accB p a v = true ∧ inB b 1 20 = true ∧ p < b) ∨ (accB p a v = true ∧ inB b 1 20 = true ∧ ¬ p < b) := by
    cases accB p a v <;> cases inB b 1 20 <;> by_cases p < b <;> simp [*]
  rcases hcase with h1 | ⟨h1, h2⟩ | ⟨h1, h2, h3⟩ | ⟨h1, h2, h3⟩
  all_goals
    go_enter Try.func24, Try.ntmps24
    go_wp2_with (first
      | (go_at_call 38; refine (isBallot_any _ _).mono ?_; rintro e w' ⟨rfl, rfl⟩)
      | (go_at_call 18; refine (implValid_any _ _ _ _).mono ?_; rintro e w' ⟨rfl, rfl⟩)
      | go_in)
    go_returns
    exact ⟨by simp [prP, prA, prV, prOk, *] <;> omega, by go_grown⟩

set_option maxHeartbeats 2000000 in
theorem specAccept_any (p a v b x : Int) (w : World) : Calls Try.prog 20 #[.agg #[.int .i64 p, .int .i64 a, .int .i64 v], .int .i64 b, .int .i64 x] w fun e w' =>
    e = .returned (.tuple #[.agg #[.int .i64 (acP p a v b x), .int .i64 (acA p a v b x), .int .i64 (acV p a v b x)], .bool (acOk p a v b x)]) ∧ Below w.heap.size w w' := by
  have hcase : accB p a v = false ∨ (accB p a v = true ∧ inB b 1 20 = false) ∨ (accB p a v = true ∧ inB b 1 20 = true ∧ inB x 1 99 = false) ∨ (accB p a v = true ∧ inB b 1 20 = true ∧ inB x 1 99 = true ∧ p ≤ b) ∨ (accB p a v = true ∧ inB b 1 20 = true ∧ inB x 1 99 = true ∧ ¬ p ≤ b) := by
    cases accB p a v <;> cases inB b 1 20 <;> cases inB x 1 99 <;> by_cases p ≤ b <;> simp [*]
  rcases hcase with h1 | ⟨h1, h2⟩ | ⟨h1, h2, h4⟩ | ⟨h1, h2, h4, h3⟩ | ⟨h1, h2, h4, h3⟩
  all_goals
    go_enter Try.func20, Try.ntmps20
    go_wp2_with (first
      | (go_at_call 33; refine (l6In_any _ _ _ _).mono ?_; rintro e w' ⟨rfl, rfl⟩)
      | (go_at_call 34; refine (l21Value_any _ _).mono ?_; rintro e w' ⟨rfl, rfl⟩)
      | (go_at_call 16; refine (specValid_any _ _ _ _).mono ?_; rintro e w' ⟨rfl, rfl⟩))
    go_returns
    exact ⟨by simp [acP, acA, acV, acOk, *] <;> omega, by go_grown⟩

set_option maxHeartbeats 2000000 in
theorem implAccept_any (p a v b x : Int) (w : World) : Calls Try.prog 21 #[.agg #[.int .i64 p, .int .i64 a, .int .i64 v], .int .i64 b, .int .i64 x] w fun e w' =>
    e = .returned (.tuple #[.agg #[.int .i64 (acP p a v b x), .int .i64 (acA p a v b x), .int .i64 (acV p a v b x)], .bool (acOk p a v b x)]) ∧ Below w.heap.size w w' := by
  have hcase : accB p a v = false ∨ (accB p a v = true ∧ inB b 1 20 = false) ∨ (accB p a v = true ∧ inB b 1 20 = true ∧ inB x 1 99 = false) ∨ (accB p a v = true ∧ inB b 1 20 = true ∧ inB x 1 99 = true ∧ p ≤ b) ∨ (accB p a v = true ∧ inB b 1 20 = true ∧ inB x 1 99 = true ∧ ¬ p ≤ b) := by
    cases accB p a v <;> cases inB b 1 20 <;> cases inB x 1 99 <;> by_cases p ≤ b <;> simp [*]
  rcases hcase with h1 | ⟨h1, h2⟩ | ⟨h1, h2, h4⟩ | ⟨h1, h2, h4, h3⟩ | ⟨h1, h2, h4, h3⟩
  all_goals
    go_enter Try.func21, Try.ntmps21
    go_wp2_with (first
      | (go_at_call 38; refine (isBallot_any _ _).mono ?_; rintro e w' ⟨rfl, rfl⟩)
      | (go_at_call 35; refine (isValue_any _ _).mono ?_; rintro e w' ⟨rfl, rfl⟩)
      | (go_at_call 18; refine (implValid_any _ _ _ _).mono ?_; rintro e w' ⟨rfl, rfl⟩)
      | go_in)
    go_returns
    exact ⟨by simp [acP, acA, acV, acOk, *] <;> omega, by go_grown⟩
end Go.Proofs.Ytcoibgnckkjpbaa
