/- Laws over leases at a drawn lease: what follows of what. -/
import Derived.Test.YtanapkapojljkaaLse4
import Derived.Test.YtanapkapojljkaaLse7
namespace Go.Proofs.Ytanapkapojljkaa
open Go.RowKit
set_option maxHeartbeats 4000000

theorem exp_iff' {h s n t d : Int} : expR h s n t d = true ↔ h = 0 ∨ s + n + d ≤ t := by
  unfold expR; simp
theorem act_iff' {h s n t d : Int} : actR h s n t d = true ↔ 0 < h ∧ s ≤ t ∧ t < s + n - d := by
  unfold actR; simp; omega
theorem exp_later {h s n t d u : Int} (hE : expB h s n t d = true) (h1 : t ≤ u) (h2 : u ≤ 999) : expB h s n u d = true := by
  have k1 := @clk_iff t d
  have k2 := @clk_iff u d
  unfold expB at hE ⊢
  simp only [Bool.and_eq_true] at hE ⊢
  obtain ⟨⟨a, b⟩, c⟩ := hE
  have b' := k1.1 b
  rw [exp_iff'] at c
  exact ⟨⟨a, k2.2 (by omega)⟩, exp_iff'.2 (by omega)⟩
theorem act_drift {h s n t d u : Int} (hA : actB h s n t d = false) (h0 : 0 ≤ d) (h1 : d ≤ u) : actB h s n t u = false := by
  cases hu : actB h s n t u
  · rfl
  · unfold actB at hA hu
    simp only [Bool.and_eq_true] at hu
    obtain ⟨⟨a, b⟩, c⟩ := hu
    have b' := clk_iff.1 b
    have k : clkB t d = true := clk_iff.2 (by omega)
    rw [act_iff'] at c
    have : actR h s n t d = true := act_iff'.2 (by omega)
    simp [a, k, this] at hA
theorem exp_drift {h s n t d u : Int} (hA : expB h s n t d = false) (h0 : 0 ≤ d) (h1 : d ≤ u) : expB h s n t u = false := by
  cases hu : expB h s n t u
  · rfl
  · unfold expB at hA hu
    simp only [Bool.and_eq_true] at hu
    obtain ⟨⟨a, b⟩, c⟩ := hu
    have b' := clk_iff.1 b
    have k : clkB t d = true := clk_iff.2 (by omega)
    rw [exp_iff'] at c
    have : expR h s n t d = true := exp_iff'.2 (by omega)
    simp [a, k, this] at hA
theorem act_excl {h s n t d u : Int} (hA : actB h s n t d = true) (h1 : t - d ≤ u) (h2 : u ≤ t + d) : expB h s n u d = false := by
  cases hu : expB h s n u d
  · rfl
  · unfold actB at hA
    unfold expB at hu
    simp only [Bool.and_eq_true] at hu hA
    obtain ⟨⟨_, _⟩, c⟩ := hu
    obtain ⟨⟨_, _⟩, e⟩ := hA
    rw [exp_iff'] at c
    rw [act_iff'] at e
    omega
theorem implExpired_is {h s n t d : Int} {b : Bool} (hb : expB h s n t d = b) (w : World) : Calls Try.prog 22 #[.agg #[.int .i64 h, .int .i64 s, .int .i64 n], .int .i64 t, .int .i64 d] w fun e w' => e = .returned (.bool b) ∧ Below w.heap.size w w' := by
  rw [← hb]; exact implExpired_any h s n t d w
theorem implActive_is {h s n t d : Int} {b : Bool} (hb : actB h s n t d = b) (w : World) : Calls Try.prog 20 #[.agg #[.int .i64 h, .int .i64 s, .int .i64 n], .int .i64 t, .int .i64 d] w fun e w' => e = .returned (.bool b) ∧ Below w.heap.size w w' := by
  rw [← hb]; exact implActive_any h s n t d w
theorem clk_no {t d : Int} (h : t < 0 ∨ d < 0) : clkB t d = false := by
  cases hk : clkB t d
  · rfl
  · have := clk_iff.1 hk; omega
theorem act_no {h s n t d : Int} (hV : clkB t d = false) : actB h s n t d = false := by simp [actB, hV]
theorem exp_no {h s n t d : Int} (hV : clkB t d = false) : expB h s n t d = false := by simp [expB, hV]
theorem act_val {h s n t d : Int} (hV : lseB h s n = true) (hC : clkB t d = true) {b : Bool} (hb : b = true ↔ (0 < h ∧ s ≤ t ∧ t < s + n - d)) : actB h s n t d = b := by
  have := act_of hV hC
  rw [this]
  have h2 := @act_iff' h s n t d
  rw [← hb] at h2
  exact Bool.eq_iff_iff.2 h2
theorem exp_val {h s n t d : Int} (hV : lseB h s n = true) (hC : clkB t d = true) {b : Bool} (hb : b = true ↔ (h = 0 ∨ s + n + d ≤ t)) : expB h s n t d = b := by
  have := exp_of hV hC
  rw [this]
  have h2 := @exp_iff' h s n t d
  rw [← hb] at h2
  exact Bool.eq_iff_iff.2 h2
/-- What is known of a drawn lease, a clock reading and a drift bound, case by case. -/
theorem lease_cases (h s n t d : Int) (ht : t ≤ 200) (hd : d ≤ 7) : (lseB h s n = false ∧ actB h s n t d = false ∧ expB h s n t d = false) ∨
    (lseB h s n = true ∧ t < 0 ∧ actB h s n t d = false ∧ expB h s n t d = false) ∨
    (lseB h s n = true ∧ 0 ≤ t ∧ t ≤ 999 ∧ d < 0 ∧ actB h s n t d = false ∧ expB h s n t d = false) ∨
    (lseB h s n = true ∧ 0 ≤ t ∧ t ≤ 999 ∧ 0 ≤ d ∧ d ≤ 99 ∧ h = 0 ∧ s = 0 ∧ n = 0 ∧ actB h s n t d = false ∧ expB h s n t d = true) ∨
    (lseB h s n = true ∧ 0 ≤ t ∧ t ≤ 999 ∧ 0 ≤ d ∧ d ≤ 99 ∧ 0 < h ∧ h ≤ 6 ∧ 0 ≤ s ∧ s ≤ 999 ∧ 1 ≤ n ∧ n ≤ 999 ∧ t < s ∧ t < s + n + d ∧ actB h s n t d = false ∧ expB h s n t d = false) ∨
    (lseB h s n = true ∧ 0 ≤ t ∧ t ≤ 999 ∧ 0 ≤ d ∧ d ≤ 99 ∧ 0 < h ∧ h ≤ 6 ∧ 0 ≤ s ∧ s ≤ 999 ∧ 1 ≤ n ∧ n ≤ 999 ∧ s ≤ t ∧ t < s + n - d ∧ t < s + n + d ∧ actB h s n t d = true ∧ expB h s n t d = false) ∨
    (lseB h s n = true ∧ 0 ≤ t ∧ t ≤ 999 ∧ 0 ≤ d ∧ d ≤ 99 ∧ 0 < h ∧ h ≤ 6 ∧ 0 ≤ s ∧ s ≤ 999 ∧ 1 ≤ n ∧ n ≤ 999 ∧ s ≤ t ∧ s + n - d ≤ t ∧ t < s + n + d ∧ actB h s n t d = false ∧ expB h s n t d = false) ∨
    (lseB h s n = true ∧ 0 ≤ t ∧ t ≤ 999 ∧ 0 ≤ d ∧ d ≤ 99 ∧ 0 < h ∧ h ≤ 6 ∧ 0 ≤ s ∧ s ≤ 999 ∧ 1 ≤ n ∧ n ≤ 999 ∧ s ≤ t ∧ s + n - d ≤ t ∧ s + n + d ≤ t ∧ actB h s n t d = false ∧ expB h s n t d = true) := by
  cases hV : lseB h s n
  · exact .inl ⟨rfl, by simp [actB, hV], by simp [expB, hV]⟩
  right
  by_cases t0 : t < 0
  · exact .inl ⟨rfl, t0, act_no (clk_no (.inl t0)), exp_no (clk_no (.inl t0))⟩
  right
  by_cases d0 : d < 0
  · exact .inl ⟨rfl, by omega, by omega, d0, act_no (clk_no (.inr d0)), exp_no (clk_no (.inr d0))⟩
  right
  have hC : clkB t d = true := clk_iff.2 (by omega)
  have hL := lse_iff.1 hV
  by_cases h0 : h = 0
  · exact .inl ⟨rfl, by omega, by omega, by omega, by omega, h0, by omega, by omega, act_val hV hC (by simp; omega), exp_val hV hC (by simp; omega)⟩
  right
  obtain ⟨a1, a2, a3, a4, a5, a6⟩ : 0 < h ∧ h ≤ 6 ∧ 0 ≤ s ∧ s ≤ 999 ∧ 1 ≤ n ∧ n ≤ 999 := by omega
  clear hL
  by_cases c1 : t < s
  · exact .inl ⟨rfl, by omega, by omega, by omega, by omega, a1, a2, a3, a4, a5, a6, c1, by omega, act_val hV hC (by simp; omega), exp_val hV hC (by simp; omega)⟩
  right
  by_cases c2 : t < s + n - d
  · exact .inl ⟨rfl, by omega, by omega, by omega, by omega, a1, a2, a3, a4, a5, a6, by omega, c2, by omega, act_val hV hC (by simp; omega), exp_val hV hC (by simp; omega)⟩
  right
  by_cases c3 : t < s + n + d
  · exact .inl ⟨rfl, by omega, by omega, by omega, by omega, a1, a2, a3, a4, a5, a6, by omega, by omega, c3, act_val hV hC (by simp; omega), exp_val hV hC (by simp; omega)⟩
  · exact .inr ⟨rfl, by omega, by omega, by omega, by omega, a1, a2, a3, a4, a5, a6, by omega, by omega, by omega, act_val hV hC (by simp; omega), exp_val hV hC (by simp; omega)⟩

end Go.Proofs.Ytanapkapojljkaa
