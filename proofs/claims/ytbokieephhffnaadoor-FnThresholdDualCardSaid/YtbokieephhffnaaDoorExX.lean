/- The law FnDepth: its walk. -/
import Derived.Test.YtbokieephhffnaaDoorExW
namespace Go.Proofs.YtbokieephhffnaaDoor
open Go.RowKit
set_option maxHeartbeats 8000000
set_option linter.unusedVariables false

theorem depth_zero {s : ByteArray} {t : Tr} (ht : tree s = some (t, s.size)) : (depthT t = 0 ∧ s.size = 1) ∨ (0 < depthT t ∧ 1 < s.size) := by
  cases t with
  | leaf n => exact .inl ⟨rfl, leaf_size ⟨_, ht⟩⟩
  | gate n ts =>
    obtain ⟨_, _, _, h⟩ := gate_parts (u := s) (n := n) (ts := ts) ⟨_, ht⟩
    exact .inr ⟨Nat.succ_pos _, by omega⟩

end Go.Proofs.YtbokieephhffnaaDoor
