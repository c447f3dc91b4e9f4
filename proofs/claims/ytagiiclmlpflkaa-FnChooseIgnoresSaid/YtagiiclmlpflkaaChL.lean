/- The highest accepted ballot and its value. -/
import Derived.Test.YtagiiclmlpflkaaChD
namespace Go.Proofs.Ytagiiclmlpflkaa
open Go.RowKit
set_option maxHeartbeats 4000000
set_option linter.unusedVariables false

theorem bestA_nn (fl : List Int) : ∀ n, 0 ≤ bestA fl n
  | 0 => Int.le_refl 0
  | n + 1 => by
    have ih := bestA_nn fl n
    simp only [bestA]
    split <;> omega
theorem bestA_ge (fl : List Int) : ∀ n j, j < n → fl.getD (j * 3 + 1) 0 ≤ bestA fl n
  | 0, j, h => by omega
  | n + 1, j, h => by
    simp only [bestA]
    by_cases e : j = n
    · subst e
      split <;> omega
    · have ih := bestA_ge fl n j (by omega)
      split <;> omega
theorem best_zero (fl : List Int) (o : Int) : ∀ n, bestA fl n = 0 → bestV fl o n = o
  | 0, _ => rfl
  | n + 1, h => by
    have h0 := bestA_nn fl n
    simp only [bestA] at h
    simp only [bestV]
    split at h
    · omega
    · rename_i hq
      rw [if_neg hq]
      exact best_zero fl o n h
theorem best_first (fl : List Int) (o : Int) : ∀ n, 0 < bestA fl n → ∃ i, i < n ∧ fl.getD (i * 3 + 1) 0 = bestA fl n ∧ (∀ j, j < i → fl.getD (j * 3 + 1) 0 < bestA fl n) ∧ bestV fl o n = fl.getD (i * 3 + 2) 0
  | 0, h => by simp [bestA] at h
  | n + 1, h => by
    by_cases hq : bestA fl n < fl.getD (n * 3 + 1) 0
    · refine ⟨n, by omega, by simp only [bestA, if_pos hq], fun j hj => ?_, by simp only [bestV, if_pos hq]⟩
      have := bestA_ge fl n j hj
      simp only [bestA, if_pos hq]
      omega
    · have hA : bestA fl (n + 1) = bestA fl n := by simp only [bestA, if_neg hq]
      have hV : bestV fl o (n + 1) = bestV fl o n := by simp only [bestV, if_neg hq]
      rw [hA] at h
      obtain ⟨i, h1, h2, h3, h4⟩ := best_first fl o n h
      rw [hA, hV]
      exact ⟨i, by omega, h2, h3, h4⟩
end Go.Proofs.Ytagiiclmlpflkaa
