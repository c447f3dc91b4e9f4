/- laws.eqIntS answers true where both slices read as one list. -/
import Derived.Test.YtafhpbghogdipaaGreatDoorInts1
namespace Go.Proofs.YtafhpbghogdipaaGreatDoor
open Go.RowKit
theorem Row.src {w : World} {B : Nat} {A : Option Addr} {zs : List Int} {n : Nat} (h : Row w B A (zs.map (Value.int .i64))) (hl : zs.length = n) : ∀ k : Nat, k < n → ∃ b off, A = some ⟨b, off, none⟩ ∧ b < B ∧ w.cell? ⟨b, off + k, none⟩ = some (.int .i64 (zs.getD k 0)) := fun k hk => by
  have hkl : k < zs.length := by omega
  exact h.at_ (by simp [hkl])
theorem row_new {w : World} {g : Nat} {t : TypeId} {xs : List Value} (h : w.heap[g]? = some (.cells xs.toArray t (0, 0))) {B : Nat} (hB : g < B) : Row w B (some ⟨g, 0, none⟩) xs := fun _ =>
  ⟨g, 0, rfl, hB, fun j u hu => by simp [World.cell?, h, hu]⟩

set_option maxHeartbeats 1000000
end Go.Proofs.YtafhpbghogdipaaGreatDoor
