/- laws.eqIntS answers true where both slices read as one list. -/
import Derived.Test.YtafhpbghogdipaaDoorInts1
namespace Go.Proofs.YtafhpbghogdipaaDoor
open Go.RowKit
theorem Row.src {w : World} {B : Nat} {A : Option Addr} {zs : List Int} {n : Nat} (h : Row w B A (zs.map (Value.int .i64))) (hl : zs.length = n) : ∀ k : Nat, k < n → ∃ b off, A = some ⟨b, off, none⟩ ∧ b < B ∧ w.cell? ⟨b, off + k, none⟩ = some (.int .i64 (zs.getD k 0)) := fun k hk => by
  have hkl : k < zs.length := by omega
  exact h.at_ (by simp [hkl])
theorem row_new {w : World} {g : Nat} {t : TypeId} {xs : List Value} (h : w.heap[g]? = some (.cells xs.toArray t (0, 0))) {B : Nat} (hB : g < B) : Row w B (some ⟨g, 0, none⟩) xs := fun _ =>
  ⟨g, 0, rfl, hB, fun j u hu => by simp [World.cell?, h, hu]⟩

set_option maxHeartbeats 1000000
theorem eqIntS_same (A B : Option Addr) (n c d : Nat) (zs : List Int) (w : World) (hA : Row w w.heap.size A (zs.map (Value.int .i64))) (hB : Row w w.heap.size B (zs.map (Value.int .i64))) (hl : zs.length = n) (hn : n ≤ 1048576) :
    Calls Tryd.prog 9 #[.slice A n c, .slice B n d] w fun e w' => e = .returned (.bool true) ∧ ∃ m, w' = w.drewN m := by
  have HA := Lib.hid (hA.src hl)
  have HB := Lib.hid (hB.src hl)
  clear hA hB hl
  by_cases hn0 : n ≤ 0
  · go_enter Tryd.func9, Tryd.ntmps9
    go_wp2
    go_loopw [5] (fun i wr => ∃ k m : Nat, k ≤ n ∧ i = .int .i64 k ∧ wr = w.drewN m) (fun i _ => n - (intOf i).toNat)
    case atStart => exact ⟨0, 0, Nat.zero_le _, rfl, rfl⟩
    case round =>
      obtain ⟨k, m, hk, rfl, rfl⟩ := hrel
      have hkn : ¬ k < n := by omega
      go_wp2
      go_ret
      exact ⟨rfl, m, rfl⟩
  · obtain ⟨b, off, rfl, _, _⟩ := HA.out 0 (by omega)
    obtain ⟨b2, off2, rfl, _, _⟩ := HB.out 0 (by omega)
    go_enter Tryd.func9, Tryd.ntmps9
    go_wp2
    go_loopw [5] (fun i wr => ∃ k m : Nat, k ≤ n ∧ i = .int .i64 k ∧ wr = w.drewN m) (fun i _ => n - (intOf i).toNat)
    case atStart => exact ⟨0, 0, Nat.zero_le _, rfl, rfl⟩
    case round =>
      obtain ⟨k, m, hk, rfl, rfl⟩ := hrel
      by_cases hkn : k < n
      · obtain ⟨_, _, e1, _, h1⟩ := HA.out k hkn
        cases e1
        obtain ⟨_, _, e2, _, h2⟩ := HB.out k hkn
        cases e2
        generalize zs.getD k 0 = v at h1 h2
        have i1 : (k : Int) < n := by omega
        have hq : (v != v) = false := by simp
        go_wp2
        go_quiet (fail)
        go_wp2
        go_roundw
        case rel => exact ⟨k + 1, _, by omega, by go_num, rfl⟩
        case measure => simp [intOf]; omega
      · go_wp2
        go_ret
        exact ⟨rfl, m, rfl⟩
end Go.Proofs.YtafhpbghogdipaaDoor
