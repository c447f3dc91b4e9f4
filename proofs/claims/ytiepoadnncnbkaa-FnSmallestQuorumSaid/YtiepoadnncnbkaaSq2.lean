/- ExprValid: the reference's, the program's, the law FnExactExprValid. -/
import Derived.Test.YtiepoadnncnbkaaSq1
namespace Go.Proofs.Ytiepoadnncnbkaa
open Go.RowKit
set_option maxHeartbeats 4000000

/-- The whole of a text as an expression. -/
def tree (s : ByteArray) : Option (Tr × Nat) := pe s (s.size + 1) 0
/-- A text is an expression. -/
def exOk (s : ByteArray) : Bool := decide (s.size ≤ 40) && match tree s with | none => false | some (_, e) => e == s.size
theorem exOk_big {s : ByteArray} (h : ¬ s.size ≤ 40) : exOk s = false := by simp [exOk, h]
theorem exOk_none {s : ByteArray} (h : tree s = none) : exOk s = false := by simp [exOk, h]
theorem exOk_some {s : ByteArray} {t : Tr} {e : Nat} (h0 : s.size ≤ 40) (h : tree s = some (t, e)) : exOk s = (e == s.size) := by simp [exOk, h, h0]
theorem exOk_tree {s : ByteArray} (h : exOk s = true) : s.size ≤ 40 ∧ ∃ t, tree s = some (t, s.size) := by
  unfold exOk at h
  rw [Bool.and_eq_true] at h
  refine ⟨by simpa using h.1, ?_⟩
  cases ht : tree s with
  | none => rw [ht] at h; cases h.2
  | some y =>
    obtain ⟨t, e⟩ := y
    rw [ht] at h
    have : e = s.size := by simpa using h.2
    exact ⟨t, by rw [this]⟩
theorem tree_end {s : ByteArray} {t : Tr} {e : Nat} (h : tree s = some (t, e)) : 0 < e ∧ e ≤ s.size := pe_end _ _ _ _ h

theorem specExprValid_any (s : ByteArray) (hs : s.size ≤ 1048576) (w : World) : Calls Try.prog 62 #[.string s] w fun e w' => e = .returned (.bool (exOk s)) ∧ w' = w := by
  obtain ⟨r, hr⟩ : ∃ r, r = exOk s := ⟨_, rfl⟩
  rw [← hr]
  by_cases h40 : s.size ≤ 40
  case neg =>
    have HF := Lib.hid (show r = false by rw [hr]; exact exOk_big h40)
    have h41 : ¬ (s.size : Int) ≤ 40 := by omega
    clear hr
    go_enter Try.func62, Try.ntmps62
    go_wp2
    go_ret
    exact ⟨ret_bool' HF.out.symm, rfl⟩
  have h41 : (s.size : Int) ≤ 40 := by omega
  have hc := l2End_any s hs (s.size + 1) 0 w (by omega) (by omega)
  cases ht : tree s with
  | none =>
    have HF := Lib.hid (show r = false by rw [hr]; exact exOk_none ht)
    rw [show pe s (s.size + 1) 0 = none from ht] at hc
    have HC := Lib.hid (show Calls Try.prog 69 #[.string s, .int .i64 0] w fun e w' => e = .returned (.int .i64 (-1)) ∧ w' = w from hc)
    have hn : ((-1 : Int) == (s.size : Int)) = false := by first | (simp; done) | (simp; omega)
    clear hr hc ht
    go_enter Try.func62, Try.ntmps62
    go_wp2_with (go_at_call 69; refine HC.out.mono ?_; rintro e w' ⟨rfl, rfl⟩)
    go_ret
    exact ⟨ret_bool' HF.out.symm, rfl⟩
  | some y =>
    obtain ⟨t, e⟩ := y
    obtain ⟨he1, he2⟩ := tree_end ht
    have HF := Lib.hid (show r = (e == s.size) by rw [hr]; exact exOk_some h40 ht)
    rw [show pe s (s.size + 1) 0 = some (t, e) from ht] at hc
    have HC := Lib.hid (show Calls Try.prog 69 #[.string s, .int .i64 0] w fun x w' => x = .returned (.int .i64 (e : Int)) ∧ w' = w from hc)
    clear hr hc ht
    by_cases hes : e = s.size
    · have hn : ((e : Int) == (s.size : Int)) = true := by simp; omega
      have hp : (0 : Int) < s.size := by omega
      have HR := Lib.hid (show r = true by rw [HF.out]; simpa using hes)
      clear hes
      go_enter Try.func62, Try.ntmps62
      go_wp2_with (go_at_call 69; refine HC.out.mono ?_; rintro e w' ⟨rfl, rfl⟩)
      go_ret
      exact ⟨ret_bool' (by rw [HR.out]; simp; omega), rfl⟩
    · have hn : ((e : Int) == (s.size : Int)) = false := by simp; omega
      have HR := Lib.hid (show r = false by rw [HF.out]; simpa using hes)
      clear hes
      go_enter Try.func62, Try.ntmps62
      go_wp2_with (go_at_call 69; refine HC.out.mono ?_; rintro e w' ⟨rfl, rfl⟩)
      go_ret
      exact ⟨ret_bool' HR.out.symm, rfl⟩

end Go.Proofs.Ytiepoadnncnbkaa
