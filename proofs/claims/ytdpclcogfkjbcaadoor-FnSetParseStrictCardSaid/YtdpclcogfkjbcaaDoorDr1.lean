/- The draws of vote assignments and of lists of members. -/
import Derived.Test.YtdpclcogfkjbcaaDoorMask
import Derived.Test.YtdpclcogfkjbcaaDoorPick2
namespace Go.Proofs.YtdpclcogfkjbcaaDoor
open Go.RowKit
set_option maxHeartbeats 2000000

theorem own_empty {B : Nat} (w : World) (hB : B ≤ w.heap.size) : OwnI (w.alloc (.cells #[] 3)) B (.slice (some ⟨w.heap.size, 0, none⟩) 0 0) [] := owns_empty w _ hB
theorem own_grown {w w' : World} {B R : Nat} {v : Value} {zs : List Int} (h : OwnI w B v zs) (hg : w.grownBy w' (some R)) (hR : R < B) : OwnI w' B v zs := by
  refine World.ownsRow.kept h hg ?_
  cases hv : v.ownBlock with
  | none => exact .inl rfl
  | some k =>
    right
    intro e
    have := h.lt k hv
    cases e
    omega
theorem grown_below {a w w' : World} {row : Option Nat} {K : Nat} (h : a.grownBy w row) (hb : Below K w w') (hK : a.heap.size ≤ K) : a.grownBy w' row :=
  ⟨hb.os.trans h.os, hb.tape.trans h.tape, hb.output.trans h.output, Nat.le_trans h.size hb.size, fun i hi hne => (hb.block i (by omega)).trans (h.block i hi hne)⟩
theorem all_snoc {P : Int → Prop} {zs : List Int} {x : Int} (h : ∀ z ∈ zs, P z) (hx : P x) : ∀ z ∈ zs ++ [x], P z := by
  intro z hz
  rw [List.mem_append] at hz
  rcases hz with hz | hz
  · exact h z hz
  · simp at hz
    subst hz
    exact hx

end Go.Proofs.YtdpclcogfkjbcaaDoor
