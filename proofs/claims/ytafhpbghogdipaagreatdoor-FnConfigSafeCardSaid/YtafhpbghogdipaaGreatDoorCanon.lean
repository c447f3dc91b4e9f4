/- A member set is the list of its mask's members: so that what is said of sets is decided over 64 masks. -/
import Derived.Test.YtafhpbghogdipaaGreatDoorFam0
import Derived.Test.YtafhpbghogdipaaGreatDoorMask
namespace Go.Proofs.YtafhpbghogdipaaGreatDoor
open Go.RowKit

theorem ofTo_put : ∀ s : Nat, s < 64 → ∀ j : Nat, j < 6 → s < 2 ^ j → ofTo (s + 2 ^ j) 6 = ofTo s 6 ++ [(j : Int) + 1] := by decide +kernel
theorem take_is (zs : List Int) : ∀ k, k ≤ zs.length → okTo zs k = true → zs.take k = ofTo (sumTo zs k) 6
  | 0, _, _ => by simp [sumTo]; decide
  | k + 1, hk, h => by
    have h1 := okTo_le (Nat.le_succ k) h
    have h2 := sum_lt zs k h
    have ih := take_is zs k (by omega) h1
    have hs := sum_small h1
    rw [okTo_next] at h
    simp only [Bool.and_eq_true, okAt] at h
    obtain ⟨v1, v2⟩ := inB_iff.1 h.2.1
    obtain ⟨j, hj, e⟩ : ∃ j : Nat, j < 6 ∧ zs.getD k 0 = (j : Int) + 1 := ⟨(zs.getD k 0 - 1).toNat, by omega, by omega⟩
    have hp : pw (zs.getD k 0) = 2 ^ j := by unfold pw; congr 1; omega
    rw [hp] at h2
    have hput := ofTo_put _ hs j hj h2
    have hg : zs.getD k 0 = zs[k]'(by omega) := by simp [show k < zs.length by omega]
    rw [List.take_succ_eq_append_getElem (by omega), ih, ← hg, e, ← hput]
    show ofTo (sumTo zs k + 2 ^ j) 6 = ofTo (sumTo zs k + pw (zs.getD k 0)) 6
    rw [hp]
theorem set_canon {zs : List Int} (h : setB zs = true) : zs = ofTo (mkS zs) 6 := by
  have := take_is zs zs.length (Nat.le_refl _) h
  rw [List.take_length] at this
  exact this
theorem mk_small {zs : List Int} (h : setB zs = true) : mkS zs < 64 := sum_small h
theorem canon_set : ∀ m : Nat, m < 64 → setB (ofTo m 6) = true := by decide +kernel
theorem canon_mk : ∀ m : Nat, m < 64 → mkS (ofTo m 6) = m := by decide +kernel

/-- What is left of a when b is taken away. -/
def minusL (a b : List Int) : List Int := a.filter fun x => !(b.any fun y => y == x)
theorem minus_full : ∀ m : Nat, m < 64 → minusL (ofTo 63 6) (ofTo m 6) = ofTo (63 - m) 6 := by decide +kernel
/-- How many members a mask has. -/
def cnt (m : Nat) : Nat := (ofTo m 6).length
theorem cnt_set {zs : List Int} (h : setB zs = true) : zs.length = cnt (mkS zs) := by
  unfold cnt
  rw [← set_canon h]
theorem cnt_le (m : Nat) : cnt m ≤ 6 := ofTo_len m 6
end Go.Proofs.YtafhpbghogdipaaGreatDoor
