/- SetMask, the program's and the reference's, and the law FnExactSetMask. -/
import Derived.Test.YtagiiclmlpflkaaSet3
namespace Go.Proofs.Ytagiiclmlpflkaa
open Go.RowKit
set_option maxHeartbeats 1000000

theorem sum_small {zs : List Int} : ∀ {k : Nat}, okTo zs k = true → sumTo zs k < 64
  | 0, _ => by show 0 < 64; omega
  | k + 1, h => by
    have h1 := sum_lt zs k h
    rw [okTo_next] at h
    simp only [Bool.and_eq_true, okAt] at h
    have h2 := pw_small (inB_iff.1 h.2.1).2
    show sumTo zs k + pw (zs.getD k 0) < 64
    omega
theorem set_at {zs : List Int} (h : setB zs = true) {k : Nat} (hk : k < zs.length) : 1 ≤ zs.getD k 0 ∧ zs.getD k 0 ≤ 6 := by
  unfold setB okTo at h
  have := List.all_eq_true.1 h k (List.mem_range.2 hk)
  simp only [okAt, Bool.and_eq_true] at this
  exact inB_iff.1 this.1
theorem sum_le (zs : List Int) : ∀ n k, k ≤ n → sumTo zs k ≤ sumTo zs n
  | 0, k, h => by
    have : k = 0 := by omega
    subst this
    exact Nat.le_refl _
  | n + 1, k, h => by
    by_cases hk : k = n + 1
    · subst hk; exact Nat.le_refl _
    · have := sum_le zs n k (by omega)
      show _ ≤ sumTo zs n + pw (zs.getD n 0)
      omega
theorem pw_next {q : Nat} (h : 1 ≤ q) : pw ((q + 1 : Nat) : Int) = 2 * pw (q : Int) := by
  unfold pw
  rw [show (((q + 1 : Nat) : Int) - 1).toNat = ((q : Int) - 1).toNat + 1 by omega, Nat.pow_succ]
  omega

/-- What SetMask hands back. -/
def maskOf (zs : List Int) : Int := if setB zs then (sumTo zs zs.length : Nat) else -1
theorem mask_yes {zs : List Int} (h : setB zs = true) : maskOf zs = (sumTo zs zs.length : Nat) := by simp [maskOf, h]
theorem mask_no {zs : List Int} (h : setB zs = false) : maskOf zs = -1 := by simp [maskOf, h]
theorem ret_int {a b : Int} (h : a = b) : Ending.returned (.int .i64 a) = .returned (.int .i64 b) := by rw [h]

end Go.Proofs.Ytagiiclmlpflkaa
