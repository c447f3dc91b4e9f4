/- Entries of a log: what makes one valid; the program's chain of records. -/
import Derived.Test.YtijilikkdnpbmaaAcc1
import Derived.Test.YtijilikkdnpbmaaFlat
import Derived.Test.YtijilikkdnpbmaaPick2
import Derived.LoopTactic
namespace Go.Proofs.Ytijilikkdnpbmaa
open Go.RowKit
set_option maxHeartbeats 2000000

theorem ret_bool {a b : Bool} (h : a = b) : Ending.returned (.bool a) = .returned (.bool b) := by rw [h]
theorem ret_int {a b : Int} (h : a = b) : Ending.returned (.int .i64 a) = .returned (.int .i64 b) := by rw [h]
/-- The value and the configuration of entry k. -/
def fV (fl : List Int) (k : Nat) : Int := fl.getD (k * 2) 0
def fC (fl : List Int) (k : Nat) : Int := fl.getD (k * 2 + 1) 0
theorem row_src {w : World} {B n : Nat} {A : Option Addr} {fl : List Int} (h : Row w B A (fl.map (Value.int .i64))) (hl : fl.length = n * 2) :
    ∀ k : Nat, k < n → ∃ b off, A = some ⟨b, off, none⟩ ∧ b < B ∧ w.cell? ⟨b, off + k * 2, none⟩ = some (.int .i64 (fV fl k)) ∧ w.cell? ⟨b, off + k * 2 + 1, none⟩ = some (.int .i64 (fC fl k)) := fun k hk => by
  have h0 : k * 2 < fl.length := by omega
  have h1 : k * 2 + 1 < fl.length := by omega
  obtain ⟨b, off, e, hb, hc⟩ := h (by
    intro e
    have : fl.length = 0 := by simpa using congrArg List.length e
    omega)
  refine ⟨b, off, e, hb, ?_, ?_⟩
  · exact hc (k * 2) _ (by simp [fV, h0])
  · rw [Nat.add_assoc]
    exact hc (k * 2 + 1) _ (by simp [fC, h1])

/-- An entry is valid. -/
def entB (v c n : Int) : Bool := (inB v 1 99 && c == 0) || (v == 0 && inB c 1 n)
theorem ent_iff {v c n : Int} : entB v c n = true ↔ (1 ≤ v ∧ v ≤ 99 ∧ c = 0) ∨ (v = 0 ∧ 1 ≤ c ∧ c ≤ n) := by
  unfold entB
  rw [Bool.or_eq_true, Bool.and_eq_true, Bool.and_eq_true, inB_iff, inB_iff]
  simp only [beq_iff_eq]
  omega
theorem isValue_any (n : Int) (w : World) : Calls Try.prog 40 #[.int .i64 n] w fun e w' => e = .returned (.bool (inB n 1 99)) ∧ w' = w := by
  unfold inB
  by_cases h1 : 1 ≤ n <;> by_cases h2 : n ≤ 99
  all_goals
    go_enter Try.func40, Try.ntmps40
    go_wp2
    go_ret
    exact ⟨by simp [*], rfl⟩
theorem isConfig_any (c n : Int) (w : World) : Calls Try.prog 41 #[.int .i64 c, .int .i64 n] w fun e w' => e = .returned (.bool (inB c 1 n)) ∧ w' = w := by
  unfold inB
  by_cases h1 : 1 ≤ c <;> by_cases h2 : c ≤ n
  all_goals
    go_enter Try.func41, Try.ntmps41
    go_wp2
    go_ret
    exact ⟨by simp [*], rfl⟩
theorem l21Value_any (n : Int) (w : World) : Calls Try.prog 39 #[.int .i64 n] w fun e w' => e = .returned (.bool (inB n 1 99)) ∧ w' = w := by
  go_enter Try.func39, Try.ntmps39
  go_wp2_with (go_at_call 29; refine (l6In_any _ _ _ _).mono ?_; rintro e w' ⟨rfl, rfl⟩)
  go_ret
  exact ⟨rfl, rfl⟩
theorem ent_cases (v c n : Int) : (inB v 1 99 = true ∧ (c == 0) = true ∧ entB v c n = true) ∨ (inB v 1 99 = true ∧ (c == 0) = false ∧ (v == 0) = false ∧ entB v c n = false) ∨
    (inB v 1 99 = false ∧ (v == 0) = false ∧ entB v c n = false) ∨ (inB v 1 99 = false ∧ (v == 0) = true ∧ entB v c n = inB c 1 n) := by
  by_cases a : 1 ≤ v ∧ v ≤ 99
  · have ha : inB v 1 99 = true := inB_iff.2 a
    have hv : (v == 0) = false := by simp; omega
    cases hc : (c == 0)
    · exact .inr (.inl ⟨ha, rfl, hv, by simp [entB, ha, hc, hv]⟩)
    · exact .inl ⟨ha, rfl, by simp [entB, ha, hc]⟩
  · have ha : inB v 1 99 = false := inB_false (by omega)
    cases hv : (v == 0)
    · exact .inr (.inr (.inl ⟨ha, rfl, by simp [entB, ha, hv]⟩))
    · exact .inr (.inr (.inr ⟨ha, rfl, by simp [entB, ha, hv]⟩))
theorem ok_any (v c n : Int) (w : World) : Calls Try.prog 38 #[.agg #[.int .i64 v, .int .i64 c], .int .i64 n] w fun e w' => e = .returned (.bool (entB v c n)) ∧ w' = w.alloc (.cells #[.int .i64 v, .int .i64 c] 33) := by
  rcases ent_cases v c n with ⟨h1, h2, h3⟩ | ⟨h1, h2, h3, h4⟩ | ⟨h1, h2, h3⟩ | ⟨h1, h2, h3⟩
  all_goals
    go_enter Try.func38, Try.ntmps38
    go_wp2_with (first | (go_at_call 40; refine (isValue_any _ _).mono ?_; rintro e w' ⟨rfl, rfl⟩) | (go_at_call 41; refine (isConfig_any _ _ _).mono ?_; rintro e w' ⟨rfl, rfl⟩))
    go_ret
    exact ⟨by simp [*], rfl⟩
theorem l31Entry_any (v c n : Int) (w : World) : Calls Try.prog 28 #[.agg #[.int .i64 v, .int .i64 c], .int .i64 n] w fun e w' => e = .returned (.bool (entB v c n)) ∧ w' = w.alloc (.cells #[.int .i64 v, .int .i64 c] 33) := by
  rcases (show ((c == 0) = true ∧ entB v c n = inB v 1 99) ∨ ((c == 0) = false ∧ (v == 0) = true ∧ entB v c n = inB c 1 n) ∨ ((c == 0) = false ∧ (v == 0) = false ∧ entB v c n = false) by
    cases hB : (c == 0)
    · cases hC : (v == 0)
      · exact .inr (.inr ⟨rfl, rfl, by simp [entB, hB, hC]⟩)
      · exact .inr (.inl ⟨rfl, rfl, by simp [entB, hB, hC]⟩)
    · have hc : c = 0 := by simpa using hB
      have h1 : inB c 1 n = false := inB_false (by omega)
      exact .inl ⟨rfl, by simp [entB, hB, h1]⟩) with ⟨h1, h2⟩ | ⟨h1, h2, h3⟩ | ⟨h1, h2, h3⟩
  all_goals
    go_enter Try.func28, Try.ntmps28
    go_wp2_with (first | (go_at_call 39; refine (l21Value_any _ _).mono ?_; rintro e w' ⟨rfl, rfl⟩) | (go_at_call 29; refine (l6In_any _ _ _ _).mono ?_; rintro e w' ⟨rfl, rfl⟩))
    go_ret
    exact ⟨by simp [*], rfl⟩

/-- The first k entries are valid. -/
def entTo (fl : List Int) (n : Int) : Nat → Bool
  | 0 => true
  | k + 1 => entTo fl n k && entB (fV fl k) (fC fl k) n
theorem entTo_le {fl : List Int} {n : Int} : ∀ {m k : Nat}, k ≤ m → entTo fl n m = true → entTo fl n k = true
  | 0, k, h, hn => by
    have : k = 0 := by omega
    subst this
    exact hn
  | m + 1, k, h, hn => by
    by_cases hk : k = m + 1
    · subst hk; exact hn
    · simp only [entTo, Bool.and_eq_true] at hn
      exact entTo_le (by omega) hn.1
theorem ent_bad {fl : List Int} {n : Int} {m k : Nat} (h : k < m) (hb : entB (fV fl k) (fC fl k) n = false) : entTo fl n m = false := by
  cases hm : entTo fl n m
  · rfl
  · have := entTo_le (k := k + 1) (by omega) hm
    simp [entTo, hb] at this
theorem ent_at {fl : List Int} {n : Int} {m k : Nat} (h : k < m) (hm : entTo fl n m = true) : entB (fV fl k) (fC fl k) n = true := by
  have := entTo_le (k := k + 1) (by omega) hm
  simp only [entTo, Bool.and_eq_true] at this
  exact this.2
/-- A log of m entries is valid, with n configurations. -/
def logB (fl : List Int) (n : Int) (m : Nat) : Bool := inB n 1 5 && decide (m ≤ 12) && entTo fl n m
end Go.Proofs.Ytijilikkdnpbmaa
