/- ExprDual: the reference's, the law FnExactExprDual. -/
import Derived.Test.YtbokieephhffnaaDoorExV
namespace Go.Proofs.YtbokieephhffnaaDoor
open Go.RowKit
set_option maxHeartbeats 8000000
set_option linter.unusedVariables false

theorem join_none (sep : List UInt8) : Lib.join ([] : List (List UInt8)) sep = [] := by simp [Lib.join]
/-- What the reference has written ahead of the operand k. -/
def dPre (m : Nat) (ts : List Tr) (k : Nat) : ByteArray := ⟨(Lib.decDigits m ++ (40 :: Lib.join ((textL (dualL ts)).take k) [44])).toArray⟩
theorem dPre_zero (m : Nat) (ts : List Tr) : dPre m ts 0 = ⟨(Lib.decDigits m).toArray⟩ ++ ⟨#[40]⟩ := by
  rw [show (⟨#[40]⟩ : ByteArray) = ⟨[40].toArray⟩ from rfl, app_list]
  unfold dPre
  rw [List.take_zero, join_none]
theorem dPre_one {m k : Nat} {ts : List Tr} {t : Tr} (hk : k = 0) (h : ts[k]? = some t) : dPre m ts k ++ ⟨(textT (dualT t)).toArray⟩ = dPre m ts (k + 1) := by
  subst hk
  unfold dPre
  have e1 : (textL (dualL ts)).take (0 + 1) = (textL (dualL ts)).take 0 ++ [textT (dualT t)] := take_snoc (by rw [textL_at, dualL_at, h]; rfl)
  rw [app_list, List.take_zero, join_none, e1, List.take_zero, List.nil_append]
  congr 2
  simp [Lib.join]
theorem dPre_next {m k : Nat} {ts : List Tr} {t : Tr} (hk : 0 < k) (h : ts[k]? = some t) : dPre m ts k ++ ⟨#[44]⟩ ++ ⟨(textT (dualT t)).toArray⟩ = dPre m ts (k + 1) := by
  unfold dPre
  obtain ⟨hlt, _⟩ := List.getElem?_eq_some_iff.1 h
  have e1 : (textL (dualL ts)).take (k + 1) = (textL (dualL ts)).take k ++ [textT (dualT t)] := take_snoc (by rw [textL_at, dualL_at, h]; rfl)
  have hne : (textL (dualL ts)).take k ≠ [] := by
    intro e
    have h3 : ((textL (dualL ts)).take k).length = 0 := by rw [e]; rfl
    rw [List.length_take, textL_len, dualL_len] at h3
    omega
  rw [show (⟨#[44]⟩ : ByteArray) = ⟨[44].toArray⟩ from rfl, app_list, app_list, e1, join_snoc [44] _ _ hne]
  congr 2
  simp
theorem dPre_all (n : Nat) (ts : List Tr) : dPre (ts.length - n + 1) ts ts.length ++ ⟨#[41]⟩ = ⟨(textT (dualT (.gate n ts))).toArray⟩ := by
  unfold dPre
  rw [show (⟨#[41]⟩ : ByteArray) = ⟨[41].toArray⟩ from rfl, app_list, List.take_of_length_le (by rw [textL_len, dualL_len]; omega)]
  congr 2
  simp [dualT, textT]
theorem dPre_size (n : Nat) (ts : List Tr) (k : Nat) : (dPre (ts.length - n + 1) ts k).size + 1 ≤ (textT (dualT (.gate n ts))).length := by
  have := join_take [44] (textL (dualL ts)) k
  unfold dPre
  rw [size_list]
  simp only [dualT, textT, List.length_append, List.length_cons, List.length_nil]
  omega

end Go.Proofs.YtbokieephhffnaaDoor
