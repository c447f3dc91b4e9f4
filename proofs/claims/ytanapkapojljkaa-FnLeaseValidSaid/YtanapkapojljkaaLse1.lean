/- Contracts of the lease functions: LeaseValid and the checks of arguments. -/
import Derived.Test.YtanapkapojljkaaAcc1
import Derived.Test.YtanapkapojljkaaPick2
namespace Go.Proofs.Ytanapkapojljkaa
open Go.RowKit

theorem ret_bool {a b : Bool} (h : a = b) : Ending.returned (.bool a) = .returned (.bool b) := by rw [h]

theorem isMember_any (n : Int) (w : World) : Calls Try.prog 30 #[.int .i64 n] w fun e w' => e = .returned (.bool (inB n 1 6)) ∧ w' = w := by
  unfold inB
  by_cases h1 : 1 ≤ n <;> by_cases h2 : n ≤ 6
  all_goals
    go_enter Try.func30, Try.ntmps30
    go_wp2
    go_ret
    exact ⟨by simp [*], rfl⟩
theorem isLength_any (n : Int) (w : World) : Calls Try.prog 31 #[.int .i64 n] w fun e w' => e = .returned (.bool (inB n 1 999)) ∧ w' = w := by
  unfold inB
  by_cases h1 : 1 ≤ n <;> by_cases h2 : n ≤ 999
  all_goals
    go_enter Try.func31, Try.ntmps31
    go_wp2
    go_ret
    exact ⟨by simp [*], rfl⟩

/-- A clock reading and a drift bound are valid. -/
def clkB (t d : Int) : Bool := inB t 0 999 && inB d 0 99
theorem clockOk_any (t d : Int) (w : World) : Calls Try.prog 35 #[.int .i64 t, .int .i64 d] w fun e w' => e = .returned (.bool (clkB t d)) ∧ w' = w := by
  go_enter Try.func35, Try.ntmps35
  go_wp2
  all_goals go_ret
  all_goals refine ⟨ret_bool ?_, by first | rfl | simp [*]⟩
  all_goals (unfold clkB inB; rw [Bool.eq_iff_iff]; simp at *; omega)
theorem l23Args_any (t d : Int) (w : World) : Calls Try.prog 34 #[.int .i64 t, .int .i64 d] w fun e w' => e = .returned (.bool (clkB t d)) ∧ w' = w := by
  go_enter Try.func34, Try.ntmps34
  go_wp2
  all_goals go_ret
  all_goals refine ⟨ret_bool ?_, by first | rfl | simp [*]⟩
  all_goals (unfold clkB inB; rw [Bool.eq_iff_iff]; simp at *; omega)

/-- A lease is valid. -/
def lseB (h s n : Int) : Bool := (h == 0 && s == 0 && n == 0) || (inB h 1 6 && inB s 0 999 && inB n 1 999)

theorem lse_iff {h s n : Int} : lseB h s n = true ↔ (h = 0 ∧ s = 0 ∧ n = 0) ∨ (1 ≤ h ∧ h ≤ 6 ∧ 0 ≤ s ∧ s ≤ 999 ∧ 1 ≤ n ∧ n ≤ 999) := by
  unfold lseB inB; simp; omega
theorem lse_cases (h s n : Int) : (h = 0 ∧ s = 0 ∧ n = 0 ∧ lseB h s n = true) ∨ (h = 0 ∧ ¬ s = 0 ∧ lseB h s n = false) ∨ (h = 0 ∧ s = 0 ∧ ¬ n = 0 ∧ lseB h s n = false) ∨
    (h < 0 ∧ lseB h s n = false) ∨ (6 < h ∧ lseB h s n = false) ∨ (1 ≤ h ∧ h ≤ 6 ∧ s < 0 ∧ lseB h s n = false) ∨ (1 ≤ h ∧ h ≤ 6 ∧ 999 < s ∧ lseB h s n = false) ∨
    (1 ≤ h ∧ h ≤ 6 ∧ 0 ≤ s ∧ s ≤ 999 ∧ n < 1 ∧ lseB h s n = false) ∨ (1 ≤ h ∧ h ≤ 6 ∧ 0 ≤ s ∧ s ≤ 999 ∧ 999 < n ∧ lseB h s n = false) ∨ (1 ≤ h ∧ h ≤ 6 ∧ 0 ≤ s ∧ s ≤ 999 ∧ 1 ≤ n ∧ n ≤ 999 ∧ lseB h s n = true) := by
  have hi : lseB h s n = true ↔ (h = 0 ∧ s = 0 ∧ n = 0) ∨ (1 ≤ h ∧ h ≤ 6 ∧ 0 ≤ s ∧ s ≤ 999 ∧ 1 ≤ n ∧ n ≤ 999) := by
    unfold lseB inB; simp; omega
  cases hB : lseB h s n <;> simp [hB] at hi ⊢ <;> omega

set_option maxHeartbeats 2000000
theorem specLeaseValid_any (h s n : Int) (w : World) : Calls Try.prog 15 #[.agg #[.int .i64 h, .int .i64 s, .int .i64 n]] w fun e w' => e = .returned (.bool (lseB h s n)) ∧ Below w.heap.size w w' := by
  rcases lse_cases h s n with ⟨rfl, rfl, rfl, hV⟩ | ⟨rfl, g1, hV⟩ | ⟨rfl, rfl, g1, hV⟩ | ⟨g1, hV⟩ | ⟨g1, hV⟩ | ⟨g1, g2, g3, hV⟩ | ⟨g1, g2, g3, hV⟩ | ⟨g1, g2, g3, g4, g5, hV⟩ | ⟨g1, g2, g3, g4, g5, hV⟩ | ⟨g1, g2, g3, g4, g5, g6, hV⟩
  all_goals rw [hV]
  all_goals clear hV
  all_goals go_enter Try.func15, Try.ntmps15
  all_goals go_wp2
  all_goals go_ret
  all_goals exact ⟨by simp [*], by go_grown⟩

theorem implLeaseValid_any (h s n : Int) (w : World) : Calls Try.prog 17 #[.agg #[.int .i64 h, .int .i64 s, .int .i64 n]] w fun e w' => e = .returned (.bool (lseB h s n)) ∧ Below w.heap.size w w' := by
  rcases lse_cases h s n with ⟨rfl, rfl, rfl, hV⟩ | ⟨rfl, g1, hV⟩ | ⟨rfl, rfl, g1, hV⟩ | ⟨g1, hV⟩ | ⟨g1, hV⟩ | ⟨g1, g2, g3, hV⟩ | ⟨g1, g2, g3, hV⟩ | ⟨g1, g2, g3, g4, g5, hV⟩ | ⟨g1, g2, g3, g4, g5, hV⟩ | ⟨g1, g2, g3, g4, g5, g6, hV⟩
  all_goals rw [hV]
  all_goals clear hV
  all_goals go_enter Try.func17, Try.ntmps17
  all_goals go_wp2
  all_goals go_ret
  all_goals exact ⟨by simp [*], by go_grown⟩
end Go.Proofs.Ytanapkapojljkaa
