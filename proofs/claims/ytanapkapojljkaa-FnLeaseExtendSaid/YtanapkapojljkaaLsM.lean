/- Laws over grants: what follows of what. -/
import Derived.Test.YtanapkapojljkaaLse6
import Derived.Test.YtanapkapojljkaaLsL
import Derived.Test.YtanapkapojljkaaDrawG
namespace Go.Proofs.Ytanapkapojljkaa
open Go.RowKit
set_option maxHeartbeats 8000000

theorem grant_cases (h s n o t m d : Int) (ho : 1 ≤ o) (ho6 : o ≤ 6) (hm : 1 ≤ m) (hm30 : m ≤ 30) (ht : t ≤ 200) (hd : d ≤ 7) :
    (lseB h s n = false ∧ grOk h s n o t m d = false ∧ grH h s n o t m d = 0 ∧ grS h s n o t m d = 0 ∧ grN h s n o t m d = 0) ∨ (lseB h s n = true ∧ t < 0 ∧ grOk h s n o t m d = false ∧ grH h s n o t m d = 0 ∧ grS h s n o t m d = 0 ∧ grN h s n o t m d = 0) ∨ (lseB h s n = true ∧ 0 ≤ t ∧ d < 0 ∧ grOk h s n o t m d = false ∧ grH h s n o t m d = 0 ∧ grS h s n o t m d = 0 ∧ grN h s n o t m d = 0) ∨ ((lseB h s n = true ∧ 0 ≤ t ∧ 0 ≤ d ∧ 0 ≤ h ∧ h ≤ 6 ∧ 0 ≤ s ∧ s ≤ 999 ∧ 0 ≤ n ∧ n ≤ 999) ∧ expB h s n t d = true ∧ s ≤ t ∧ s + n ≤ t + m ∧ actB h s n t d = false ∧ h = o ∧ grOk h s n o t m d = true ∧ grH h s n o t m d = o ∧ grS h s n o t m d = t ∧ grN h s n o t m d = m) ∨ ((lseB h s n = true ∧ 0 ≤ t ∧ 0 ≤ d ∧ 0 ≤ h ∧ h ≤ 6 ∧ 0 ≤ s ∧ s ≤ 999 ∧ 0 ≤ n ∧ n ≤ 999) ∧ expB h s n t d = true ∧ (h == o) = false ∧ (h = 0 ∨ s + n + d ≤ t) ∧ actB h s n t d = false ∧ grOk h s n o t m d = true ∧ grH h s n o t m d = o ∧ grS h s n o t m d = t ∧ grN h s n o t m d = m) ∨ ((lseB h s n = true ∧ 0 ≤ t ∧ 0 ≤ d ∧ 0 ≤ h ∧ h ≤ 6 ∧ 0 ≤ s ∧ s ≤ 999 ∧ 0 ≤ n ∧ n ≤ 999) ∧ expB h s n t d = false ∧ s ≤ t ∧ s + n ≤ t + m ∧ h = o ∧ grOk h s n o t m d = true ∧ grH h s n o t m d = o ∧ grS h s n o t m d = t ∧ grN h s n o t m d = m) ∨ ((lseB h s n = true ∧ 0 ≤ t ∧ 0 ≤ d ∧ 0 ≤ h ∧ h ≤ 6 ∧ 0 ≤ s ∧ s ≤ 999 ∧ 0 ≤ n ∧ n ≤ 999) ∧ expB h s n t d = false ∧ (h == o) = false ∧ grOk h s n o t m d = false ∧ grH h s n o t m d = h ∧ grS h s n o t m d = s ∧ grN h s n o t m d = n) ∨ ((lseB h s n = true ∧ 0 ≤ t ∧ 0 ≤ d ∧ 0 ≤ h ∧ h ≤ 6 ∧ 0 ≤ s ∧ s ≤ 999 ∧ 0 ≤ n ∧ n ≤ 999) ∧ expB h s n t d = false ∧ t < s ∧ h = o ∧ grOk h s n o t m d = false ∧ grH h s n o t m d = h ∧ grS h s n o t m d = s ∧ grN h s n o t m d = n) ∨ ((lseB h s n = true ∧ 0 ≤ t ∧ 0 ≤ d ∧ 0 ≤ h ∧ h ≤ 6 ∧ 0 ≤ s ∧ s ≤ 999 ∧ 0 ≤ n ∧ n ≤ 999) ∧ expB h s n t d = false ∧ s ≤ t ∧ t + m < s + n ∧ h = o ∧ grOk h s n o t m d = false ∧ grH h s n o t m d = h ∧ grS h s n o t m d = s ∧ grN h s n o t m d = n) := by
  have h3 : inB o 1 6 = true := inB_true ho ho6
  have h4 : inB m 1 999 = true := inB_true hm (by omega)
  cases hV : lseB h s n
  · exact .inl ⟨rfl, by simp [grOk, grArg, hV], by simp [grH, grArg, hV], by simp [grS, grArg, hV], by simp [grN, grArg, hV]⟩
  right
  by_cases t0 : t < 0
  · have k := clk_no (d := d) (.inl t0)
    exact .inl ⟨rfl, t0, by simp [grOk, grArg, k], by simp [grH, grArg, k], by simp [grS, grArg, k], by simp [grN, grArg, k]⟩
  right
  by_cases d0 : d < 0
  · have k := clk_no (t := t) (.inr d0)
    exact .inl ⟨rfl, by omega, d0, by simp [grOk, grArg, k], by simp [grH, grArg, k], by simp [grS, grArg, k], by simp [grN, grArg, k]⟩
  right
  have hC : clkB t d = true := clk_iff.2 (by omega)
  have hL := lse_iff.1 hV
  have hG : grArg h s n o t m d = true := by simp [grArg, hV, hC, h3, h4]
  have hv : (true = true ∧ 0 ≤ t ∧ 0 ≤ d ∧ 0 ≤ h ∧ h ≤ 6 ∧ 0 ≤ s ∧ s ≤ 999 ∧ 0 ≤ n ∧ n ≤ 999) := ⟨rfl, by omega, by omega, by omega, by omega, by omega, by omega, by omega, by omega⟩
  have hY : (expR h s n t d || renR h s n o t m) = true → grOk h s n o t m d = true ∧ grH h s n o t m d = o ∧ grS h s n o t m d = t ∧ grN h s n o t m d = m := fun k => ⟨by simp only [grOk, hG, k, Bool.and_self], by simp only [grH, hG, k, if_true], by simp only [grS, hG, k, if_true], by simp only [grN, hG, k, if_true]⟩
  have hN : (expR h s n t d || renR h s n o t m) = false → grOk h s n o t m d = false ∧ grH h s n o t m d = h ∧ grS h s n o t m d = s ∧ grN h s n o t m d = n := fun k => ⟨by simp only [grOk, hG, k, Bool.and_false], by simp [grH, hG, k], by simp [grS, hG, k], by simp [grN, hG, k]⟩
  cases hE : expR h s n t d
  · have hEB : expB h s n t d = false := (exp_of hV hC).trans hE
    have hx : ¬ (h = 0 ∨ s + n + d ≤ t) := fun k => by rw [exp_iff'.2 k] at hE; cases hE
    right; right
    by_cases ho' : h = o
    · by_cases c1 : t < s
      · exact .inr (.inr (.inl ⟨hv, hEB, c1, ho', hN (by rw [hE]; cases hr : renR h s n o t m; rfl; have := ren_iff.1 hr; omega)⟩))
      by_cases c2 : t + m < s + n
      · exact .inr (.inr (.inr ⟨hv, hEB, by omega, c2, ho', hN (by rw [hE]; cases hr : renR h s n o t m; rfl; have := ren_iff.1 hr; omega)⟩))
      · exact .inl ⟨hv, hEB, by omega, by omega, ho', hY (by rw [hE, ren_iff.2 ⟨ho', by omega, by omega⟩]; rfl)⟩
    · exact .inr (.inl ⟨hv, hEB, by simpa using ho', hN (by rw [hE]; cases hr : renR h s n o t m; rfl; have := ren_iff.1 hr; omega)⟩)
  · have hEB : expB h s n t d = true := (exp_of hV hC).trans hE
    have hx := exp_iff'.1 hE
    have hAB : actB h s n t d = false := act_val hV hC (by simp; omega)
    by_cases ho' : h = o
    · exact .inl ⟨hv, hEB, by omega, by omega, hAB, ho', hY (by rw [hE]; rfl)⟩
    · exact .inr (.inl ⟨hv, hEB, by simpa using ho', hx, hAB, hY (by rw [hE]; rfl)⟩)
theorem grant_ext {h s n t d : Int} (hA : actB h s n t d = true) : grOk h s n h t n d = true ∧ grH h s n h t n d = h ∧ grS h s n h t n d = t ∧ grN h s n h t n d = n ∧ s ≤ t := by
  unfold actB at hA
  simp only [Bool.and_eq_true] at hA
  obtain ⟨⟨a, b⟩, c⟩ := hA
  have c' := act_iff'.1 c
  have a' := lse_iff.1 a
  have h3 : inB h 1 6 = true := inB_true (by omega) (by omega)
  have h4 : inB n 1 999 = true := inB_true (by omega) (by omega)
  have h6 : renR h s n h t n = true := ren_iff.2 (by omega)
  unfold grOk grH grS grN grArg
  simp [a, b, h3, h4, h6]
  omega
theorem grant_hand {h s n t d u : Int} (hE : h = 0 ∨ s + n + d ≤ t) (h0 : 0 ≤ d) (h1 : t - d ≤ u) : actB h s n u d = false := by
  cases hu : actB h s n u d
  · rfl
  · unfold actB at hu
    simp only [Bool.and_eq_true] at hu
    have := act_iff'.1 hu.2
    omega
theorem specValid_is {h s n : Int} {b : Bool} (hb : lseB h s n = b) (w : World) : Calls Try.prog 15 #[.agg #[.int .i64 h, .int .i64 s, .int .i64 n]] w fun e w' => e = .returned (.bool b) ∧ Below w.heap.size w w' := by
  rw [← hb]; exact specLeaseValid_any h s n w
theorem implValid_is {h s n : Int} {b : Bool} (hb : lseB h s n = b) (w : World) : Calls Try.prog 17 #[.agg #[.int .i64 h, .int .i64 s, .int .i64 n]] w fun e w' => e = .returned (.bool b) ∧ Below w.heap.size w w' := by
  rw [← hb]; exact implLeaseValid_any h s n w
end Go.Proofs.Ytanapkapojljkaa
