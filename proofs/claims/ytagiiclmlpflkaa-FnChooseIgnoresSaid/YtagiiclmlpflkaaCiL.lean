/- Plain: replies that do not matter for the value that a leader proposes. -/
import Derived.Test.YtagiiclmlpflkaaChL
namespace Go.Proofs.Ytagiiclmlpflkaa
open Go.RowKit

theorem gd_l (xs ys : List Int) {k : Nat} (h : k < xs.length) : (xs ++ ys).getD k 0 = xs.getD k 0 := by
  simp [List.getD_eq_getElem?_getD, List.getElem?_append_left h]
theorem gd_r (xs ys : List Int) (k : Nat) : (xs ++ ys).getD (xs.length + k) 0 = ys.getD k 0 := by
  simp [List.getD_eq_getElem?_getD, List.getElem?_append_right]
theorem acc_pre {fl ys : List Int} : ∀ n, n * 3 ≤ fl.length → accTo (fl ++ ys) n = accTo fl n
  | 0, _ => rfl
  | n + 1, h => by
    simp only [accTo]
    rw [acc_pre n (by omega), gd_l fl ys (by omega), gd_l fl ys (by omega), gd_l fl ys (by omega)]
theorem best_pre {fl ys : List Int} : ∀ n, n * 3 ≤ fl.length → bestA (fl ++ ys) n = bestA fl n
  | 0, _ => rfl
  | n + 1, h => by
    simp only [bestA]
    rw [best_pre n (by omega), gd_l fl ys (by omega)]
theorem val_pre {fl ys : List Int} {o : Int} : ∀ n, n * 3 ≤ fl.length → bestV (fl ++ ys) o n = bestV fl o n
  | 0, _ => rfl
  | n + 1, h => by
    simp only [bestV]
    rw [best_pre n (by omega), val_pre n (by omega), gd_l fl ys (by omega), gd_l fl ys (by omega)]
theorem acc_three {p a v : Int} {fl : List Int} : ∀ n, accTo ([p, a, v] ++ fl) (n + 1) = (accB p a v && accTo fl n)
  | 0 => by simp [accTo]
  | n + 1 => by
    have ih := acc_three (p := p) (a := a) (v := v) (fl := fl) n
    rw [show accTo ([p, a, v] ++ fl) (n + 1 + 1) = (accTo ([p, a, v] ++ fl) (n + 1) && accB (([p, a, v] ++ fl).getD ((n + 1) * 3) 0) (([p, a, v] ++ fl).getD ((n + 1) * 3 + 1) 0) (([p, a, v] ++ fl).getD ((n + 1) * 3 + 2) 0)) from rfl, ih]
    have e0 := gd_r [p, a, v] fl (n * 3)
    have e1 := gd_r [p, a, v] fl (n * 3 + 1)
    have e2 := gd_r [p, a, v] fl (n * 3 + 2)
    rw [show [p, a, v].length + n * 3 = (n + 1) * 3 by simp; omega] at e0
    rw [show [p, a, v].length + (n * 3 + 1) = (n + 1) * 3 + 1 by simp; omega] at e1
    rw [show [p, a, v].length + (n * 3 + 2) = (n + 1) * 3 + 2 by simp; omega] at e2
    rw [e0, e1, e2, Bool.and_assoc]
    rfl
theorem best_three {p v : Int} {fl : List Int} : ∀ n, bestA ([p, 0, v] ++ fl) (n + 1) = bestA fl n
  | 0 => by simp [bestA]
  | n + 1 => by
    have ih := best_three (p := p) (v := v) (fl := fl) n
    rw [show bestA ([p, 0, v] ++ fl) (n + 1 + 1) = (if bestA ([p, 0, v] ++ fl) (n + 1) < ([p, 0, v] ++ fl).getD ((n + 1) * 3 + 1) 0 then ([p, 0, v] ++ fl).getD ((n + 1) * 3 + 1) 0 else bestA ([p, 0, v] ++ fl) (n + 1)) from rfl, ih]
    have e1 := gd_r [p, 0, v] fl (n * 3 + 1)
    rw [show [p, 0, v].length + (n * 3 + 1) = (n + 1) * 3 + 1 by simp; omega] at e1
    rw [e1]
    rfl
theorem val_three {p v o : Int} {fl : List Int} : ∀ n, bestV ([p, 0, v] ++ fl) o (n + 1) = bestV fl o n
  | 0 => by simp [bestV, bestA]
  | n + 1 => by
    have ih := val_three (p := p) (v := v) (o := o) (fl := fl) n
    rw [show bestV ([p, 0, v] ++ fl) o (n + 1 + 1) = (if bestA ([p, 0, v] ++ fl) (n + 1) < ([p, 0, v] ++ fl).getD ((n + 1) * 3 + 1) 0 then ([p, 0, v] ++ fl).getD ((n + 1) * 3 + 2) 0 else bestV ([p, 0, v] ++ fl) o (n + 1)) from rfl, ih, best_three]
    have e1 := gd_r [p, 0, v] fl (n * 3 + 1)
    have e2 := gd_r [p, 0, v] fl (n * 3 + 2)
    rw [show [p, 0, v].length + (n * 3 + 1) = (n + 1) * 3 + 1 by simp; omega] at e1
    rw [show [p, 0, v].length + (n * 3 + 2) = (n + 1) * 3 + 2 by simp; omega] at e2
    rw [e1, e2]
    rfl
theorem best_le {fl : List Int} : ∀ n, accTo fl n = true → bestA fl n ≤ 20
  | 0, _ => by simp [bestA]
  | n + 1, h => by
    simp only [accTo, Bool.and_eq_true] at h
    have ih := best_le n h.1
    have h2 := h.2
    simp only [accB, inB, Bool.and_eq_true, decide_eq_true_eq] at h2
    simp only [bestA]
    split <;> omega
/-- A reply that is no higher than the best, behind the others. -/
theorem ig_last {fl : List Int} {m : Nat} {o p a v r : Int} (hl : fl.length = m * 3) (h : chB fl m o = true) (hv : chV fl m o = r) (ha : ¬ bestA fl m < a) (hacc : accB p a v = true) : chB (fl ++ [p, a, v]) (m + 1) o = true ∧ chV (fl ++ [p, a, v]) (m + 1) o = r := by
  have h1 := acc_pre (fl := fl) (ys := [p, a, v]) m (by omega)
  have h2 := best_pre (fl := fl) (ys := [p, a, v]) m (by omega)
  have h3 := val_pre (fl := fl) (ys := [p, a, v]) (o := o) m (by omega)
  have e0 := gd_r fl [p, a, v] 0
  have e1 := gd_r fl [p, a, v] 1
  have e2 := gd_r fl [p, a, v] 2
  rw [hl] at e0 e1 e2
  simp only [chB, Bool.and_eq_true] at h
  have hb : chB (fl ++ [p, a, v]) (m + 1) o = true := by
    simp only [chB, accTo, Bool.and_eq_true]
    refine ⟨h.1, ?_, ?_⟩
    · rw [h1]; exact h.2
    · rw [show m * 3 = m * 3 + 0 from rfl, e0, e1, e2]; exact hacc
  refine ⟨hb, ?_⟩
  have hv' : chV fl m o = bestV fl o m := by simp [chV, chB, h.1, h.2]
  rw [← hv, hv']
  simp only [chV, hb, if_true, bestV]
  rw [h2, e1, h3, if_neg (by simpa using ha)]
/-- A reply without a value, ahead of the others. -/
theorem ig_first {fl : List Int} {m : Nat} {o r : Int} (h : chB fl m o = true) (hv : chV fl m o = r) : chB ([3, 0, 0] ++ fl) (m + 1) o = true ∧ chV ([3, 0, 0] ++ fl) (m + 1) o = r := by
  simp only [chB, Bool.and_eq_true] at h
  have hb : chB ([3, 0, 0] ++ fl) (m + 1) o = true := by
    simp only [chB, Bool.and_eq_true]
    refine ⟨h.1, ?_⟩
    rw [acc_three, h.2]
    decide
  refine ⟨hb, ?_⟩
  have hv' : chV fl m o = bestV fl o m := by simp [chV, chB, h.1, h.2]
  rw [← hv, hv']
  simp only [chV, hb, if_true]
  exact val_three m
end Go.Proofs.Ytagiiclmlpflkaa
