/- Marks written into a slice of integers; the same integers. -/
import Derived.Test.YtdpclcogfkjbcaaDoorPar3
import Derived.Test.YtdpclcogfkjbcaaDoorInts2
namespace Go.Proofs.YtdpclcogfkjbcaaDoor
open Go.RowKit
set_option maxHeartbeats 8000000
set_option linter.unusedVariables false

theorem sameInts_same (A B : Option Addr) (n c d : Nat) (zs : List Int) (w : World) (hA : Row w w.heap.size A (zs.map (Value.int .i64))) (hB : Row w w.heap.size B (zs.map (Value.int .i64))) (hl : zs.length = n) (hn : n ≤ 1048576) :
    Calls Tryd.prog 15 #[.slice A n c, .slice B n d] w fun e w' => e = .returned (.bool true) ∧ ∃ m, w' = w.drewN m := by
  have HA := Lib.hid (hA.src hl)
  have HB := Lib.hid (hB.src hl)
  clear hA hB hl
  by_cases hn0 : n ≤ 0
  · go_enter Tryd.func15, Tryd.ntmps15
    go_wp2
    go_loopw [5] (fun i wr => ∃ k m : Nat, k ≤ n ∧ i = .int .i64 k ∧ wr = w.drewN m) (fun i _ => n - (intOf i).toNat)
    case atStart => exact ⟨0, 0, Nat.zero_le _, rfl, rfl⟩
    case round =>
      obtain ⟨k, m, hk, rfl, rfl⟩ := hrel
      have hkn : ¬ k < n := by omega
      go_wp2
      go_ret
      exact ⟨rfl, m, rfl⟩
  · obtain ⟨b, off, rfl, _, _⟩ := HA.out 0 (by omega)
    obtain ⟨b2, off2, rfl, _, _⟩ := HB.out 0 (by omega)
    go_enter Tryd.func15, Tryd.ntmps15
    go_wp2
    go_loopw [5] (fun i wr => ∃ k m : Nat, k ≤ n ∧ i = .int .i64 k ∧ wr = w.drewN m) (fun i _ => n - (intOf i).toNat)
    case atStart => exact ⟨0, 0, Nat.zero_le _, rfl, rfl⟩
    case round =>
      obtain ⟨k, m, hk, rfl, rfl⟩ := hrel
      by_cases hkn : k < n
      · obtain ⟨_, _, e1, _, h1⟩ := HA.out k hkn
        cases e1
        obtain ⟨_, _, e2, _, h2⟩ := HB.out k hkn
        cases e2
        generalize zs.getD k 0 = v at h1 h2
        have i1 : (k : Int) < n := by omega
        have hq : (v != v) = false := by simp
        go_wp2
        go_quiet (fail)
        go_wp2
        go_roundw
        case rel => exact ⟨k + 1, _, by omega, by go_num, rfl⟩
        case measure => simp [intOf]; omega
      · go_wp2
        go_ret
        exact ⟨rfl, m, rfl⟩

theorem mark_zero (A : Option Addr) (c : Nat) (k : Int) (w : World) : Calls Tryd.prog 10 #[.slice A 0 c, .int .i64 k] w fun e w' => e = .returned (.int .i64 k) ∧ w' = w := by
  go_enter Tryd.func10, Tryd.ntmps10
  go_wp2
  go_loopw [1, 5] (fun q i wr => q = .int .i64 k ∧ i = .int .i64 0 ∧ wr = w) (fun _ _ _ => 0)
  case atStart => exact ⟨rfl, rfl, rfl⟩
  case round =>
    obtain ⟨rfl, rfl, rfl⟩ := hrel
    go_wp2
    go_ret
    exact ⟨rfl, rfl⟩
theorem held_zero (A : Option Addr) (c : Nat) (k : Int) (w : World) : Calls Tryd.prog 11 #[.slice A 0 c, .int .i64 k] w fun e w' => e = .returned (.int .i64 k) ∧ w' = w := by
  go_enter Tryd.func11, Tryd.ntmps11
  go_wp2
  go_loopw [1, 5] (fun q i wr => q = .int .i64 k ∧ i = .int .i64 0 ∧ wr = w) (fun _ _ _ => 0)
  case atStart => exact ⟨rfl, rfl, rfl⟩
  case round =>
    obtain ⟨rfl, rfl, rfl⟩ := hrel
    go_wp2
    go_ret
    exact ⟨rfl, rfl⟩
/-- What marks leave. -/
structure Marked (g n : Nat) (k : Int) (w w' : World) : Prop where
  at_ : ∀ i : Nat, i < n → w'.cell? ⟨g, i, none⟩ = some (.int .i64 (k + i))
  off : ∀ b : Nat, b ≠ g → w'.heap[b]? = w.heap[b]?
  grw : Below g w w'
theorem mark_any (g n c : Nat) (k : Int) (w : World) (hk0 : 0 ≤ k) (hk1 : k ≤ 1000) (hn : n ≤ 1048576) (hc : ∀ i : Nat, i < n → ∃ u, w.cell? ⟨g, i, none⟩ = some (.int .i64 u)) (hf : ∀ i : Nat, w.frozen? ⟨g, i, none⟩ = false) :
    Calls Tryd.prog 10 #[.slice (some ⟨g, 0, none⟩) n c, .int .i64 k] w fun e w' => e = .returned (.int .i64 (k + n)) ∧ Marked g n k w w' := by
  go_enter Tryd.func10, Tryd.ntmps10
  go_wp2
  go_loopw [1, 5] (fun q i wr => ∃ j : Nat, j ≤ n ∧ i = .int .i64 j ∧ q = .int .i64 (k + j) ∧ Marked g j k w wr ∧ (∀ i : Nat, i < n → ∃ u, wr.cell? ⟨g, i, none⟩ = some (.int .i64 u)) ∧ (∀ i : Nat, wr.frozen? ⟨g, i, none⟩ = false)) (fun _ i _ => n - (intOf i).toNat)
  case atStart => exact ⟨0, Nat.zero_le _, rfl, by simp, ⟨fun i h => absurd h (by omega), fun _ _ => rfl, Below.refl _ _⟩, hc, hf⟩
  case round =>
    obtain ⟨j, hj, rfl, rfl, M, hcr, hfr⟩ := hrel
    have HM := Lib.hid M
    have HC := Lib.hid hcr
    have HF := Lib.hid hfr
    by_cases hjn : j < n
    · have i1 : (j : Int) < n := by omega
      obtain ⟨u, hu⟩ := hcr j hjn
      have hfj := hfr j
      have j1 : IntKind.i64.wrap (k + j + 1) = k + j + 1 := IntWalk.i64_in _ (by omega)
      have J1 := Lib.hid j1
      clear M hcr hfr
      go_wp2
      go_roundw
      case rel =>
        refine ⟨j + 1, by omega, by go_num, by congr 1; omega, ⟨fun i hi => ?_, fun b hb => ?_, ?_⟩, fun i hi => ?_, fun i => ?_⟩
        · by_cases hij : i = j
          · subst hij
            rw [World.cell?_setCell_same _ _ _ (by rw [hu])]
          · rw [World.cell?_setCell_other _ _ _ _ (by intro e; cases e; exact hij rfl)]
            exact HM.out.at_ i (by omega)
        · rw [Below.heap_setCell _ _ _ b hb]
          exact HM.out.off b hb
        · exact HM.out.grw.setCell (Nat.le_refl _) _
        · by_cases hij : i = j
          · subst hij
            exact ⟨_, World.cell?_setCell_same _ _ _ (by rw [hu])⟩
          · rw [World.cell?_setCell_other _ _ _ _ (by intro e; cases e; exact hij rfl)]
            exact HC.out i hi
        · rw [World.frozen?_setCell]
          exact HF.out i
      case measure => simp [intOf]; omega
    · obtain rfl : j = n := by omega
      clear M hcr hfr
      go_wp2
      go_ret
      exact ⟨rfl, HM.out⟩
theorem held_any (g n c : Nat) (k : Int) (w : World) (hk0 : 0 ≤ k) (hk1 : k ≤ 1000) (hn : n ≤ 1048576) (hc : ∀ i : Nat, i < n → w.cell? ⟨g, i, none⟩ = some (.int .i64 (k + i))) :
    Calls Tryd.prog 11 #[.slice (some ⟨g, 0, none⟩) n c, .int .i64 k] w fun e w' => e = .returned (.int .i64 (k + n)) ∧ w' = w := by
  have HC := Lib.hid hc
  clear hc
  go_enter Tryd.func11, Tryd.ntmps11
  go_wp2
  go_loopw [1, 5] (fun q i wr => ∃ j : Nat, j ≤ n ∧ i = .int .i64 j ∧ q = .int .i64 (k + j) ∧ wr = w) (fun _ i _ => n - (intOf i).toNat)
  case atStart => exact ⟨0, Nat.zero_le _, rfl, by simp, rfl⟩
  case round =>
    obtain ⟨j, hj, rfl, rfl, rfl⟩ := hrel
    by_cases hjn : j < n
    · have i1 : (j : Int) < n := by omega
      have hu := HC.out j hjn
      have j1 : IntKind.i64.wrap (k + j + 1) = k + j + 1 := IntWalk.i64_in _ (by omega)
      have J1 := Lib.hid j1
      go_wp2
      go_roundw
      case rel => exact ⟨j + 1, by omega, by go_num, by congr 1; omega, by first | trivial | rfl⟩
      case measure => simp [intOf]; omega
    · obtain rfl : j = n := by omega
      go_wp2
      go_ret
      exact ⟨rfl, rfl⟩
end Go.Proofs.YtdpclcogfkjbcaaDoor
