/- Lists of which all are good, or one is bad. -/
import Derived.Test.YtafhpbghogdipaaGreatDoorInts2
namespace Go.Proofs.YtafhpbghogdipaaGreatDoor
open Go.RowKit

theorem all_next (P : Int → Bool) (zs : List Int) (k : Nat) (h : k < zs.length) : (zs.take (k + 1)).all P = ((zs.take k).all P && P (zs.getD k 0)) := by
  have hg : zs.getD k 0 = zs[k] := by simp [h]
  rw [hg, List.take_succ_eq_append_getElem h, List.all_append]
  simp only [List.all_cons, List.all_nil, Bool.and_true]
theorem all_bad (P : Int → Bool) (zs : List Int) (k : Nat) (h : k < zs.length) (hP : P (zs.getD k 0) = false) : zs.all P = false := by
  have hg : zs.getD k 0 = zs[k] := by simp [h]
  rw [hg] at hP
  rw [List.all_eq_false]
  exact ⟨zs[k], List.getElem_mem h, by simp [hP]⟩
theorem ret_bool' {a b : Bool} (h : a = b) : Ending.returned (.bool a) = .returned (.bool b) := by rw [h]

end Go.Proofs.YtafhpbghogdipaaGreatDoor
