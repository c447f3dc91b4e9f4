/- Slices of Acceptor: the laws' copy and comparison. -/
import Derived.Test.YtagiiclmlpflkaaAcc6
import Derived.Test.YtagiiclmlpflkaaPart
import Derived.Deep.RegionHeld3
import Derived.Deep.DrawnRows
namespace Go.Proofs.Ytagiiclmlpflkaa
open Go.RowKit
set_option maxHeartbeats 2000000
set_option linter.unusedVariables false
attribute [local go_sem ↓] Go.wp_at_zero Go.wp_at_succ

theorem rec_src {w : World} {B n : Nat} {A : Option Addr} {fl : List Int} (h : Row w B A (fl.map (Value.int .i64))) (hl : fl.length = n * 3) :
    ∀ k : Nat, k < n → ∃ b off, A = some ⟨b, off, none⟩ ∧ b < B ∧ w.cell? ⟨b, off + k * 3, none⟩ = some (.int .i64 (fl.getD (k * 3) 0)) ∧ w.cell? ⟨b, off + k * 3 + 1, none⟩ = some (.int .i64 (fl.getD (k * 3 + 1) 0)) ∧ w.cell? ⟨b, off + k * 3 + 2, none⟩ = some (.int .i64 (fl.getD (k * 3 + 2) 0)) := fun k hk => by
  obtain ⟨b, off, e, hb, hc⟩ := h (by
    intro e
    have : fl.length = 0 := by simpa using congrArg List.length e
    omega)
  refine ⟨b, off, e, hb, ?_, ?_, ?_⟩
  · have h0 : k * 3 < fl.length := by omega
    exact hc (k * 3) _ (by simp [h0])
  · have h0 : k * 3 + 1 < fl.length := by omega
    rw [Nat.add_assoc]
    exact hc (k * 3 + 1) _ (by simp [h0])
  · have h0 : k * 3 + 2 < fl.length := by omega
    rw [Nat.add_assoc]
    exact hc (k * 3 + 2) _ (by simp [h0])

theorem rec_set {W : World} {g k : Nat} {T : TypeId} {fl : List Int} (h : W.heap[g]? = some (.cells (part fl (k * 3)).toArray T (0, 0))) (hk : k * 3 + 2 < fl.length) :
    ((((W.setCell ⟨g, k * 3, none⟩ (.int .i64 (fl.getD (k * 3) 0))).setCell ⟨g, k * 3 + 1, none⟩ (.int .i64 (fl.getD (k * 3 + 1) 0))).setCell ⟨g, k * 3 + 2, none⟩ (.int .i64 (fl.getD (k * 3 + 2) 0)))).heap[g]? = some (.cells (part fl ((k + 1) * 3)).toArray T (0, 0)) := by
  have e0 := part_set fl (k * 3) (by omega)
  have e1 := part_set fl (k * 3 + 1) (by omega)
  have e2 := part_set fl (k * 3 + 2) (by omega)
  have h0 := blk_set (k := k * 3) h (.int .i64 (fl.getD (k * 3) 0))
  rw [e0] at h0
  have h1 := blk_set (k := k * 3 + 1) h0 (.int .i64 (fl.getD (k * 3 + 1) 0))
  rw [e1] at h1
  have h2 := blk_set (k := k * 3 + 2) h1 (.int .i64 (fl.getD (k * 3 + 2) 0))
  rw [e2] at h2
  rw [show (k + 1) * 3 = k * 3 + 2 + 1 by omega]
  exact h2

theorem acceptor_info : (Try.prog.info? 29).map (fun i => (i.zero, i.size, i.bytes)) = some (some (.agg #[Value.int .i64 0, Value.int .i64 0, Value.int .i64 0]), 3, 24) := by kernel_rfl

end Go.Proofs.Ytagiiclmlpflkaa
