/- sameLog of equal logs. -/
import Derived.Test.YtijilikkdnpbmaaLog8
import Derived.Deep.RegionHeld3
namespace Go.Proofs.Ytijilikkdnpbmaa
open Go.RowKit
set_option maxHeartbeats 4000000
set_option linter.unusedVariables false

theorem sameLog_same (A B : Option Addr) (n c d : Nat) (fl : List Int) (w : World) (B1 B2 : Nat) (hA : Row w B1 A (fl.map (Value.int .i64))) (hB : Row w B2 B (fl.map (Value.int .i64))) (hl : fl.length = n * 2) (hn : n ≤ 1048576) :
    Calls Try.prog 27 #[.slice A n c, .slice B n d] w fun e w' => e = .returned (.bool true) ∧ ∃ m, w' = w.drewN m := by
  have HA := Lib.hid (row_src hA hl)
  have HB := Lib.hid (row_src hB hl)
  clear hA hB hl
  go_enter Try.func27, Try.ntmps27
  go_wp2
  go_loopw [5] (fun i wr => ∃ k m : Nat, k ≤ n ∧ i = .int .i64 k ∧ wr = w.drewN m) (fun i _ => n - (intOf i).toNat)
  case atStart => exact ⟨0, 0, Nat.zero_le _, rfl, rfl⟩
  case round =>
    obtain ⟨k, m, hk, rfl, rfl⟩ := hrel
    by_cases hkn : k < n
    · obtain ⟨b, off, rfl, _, h0, h1⟩ := HA.out k hkn
      obtain ⟨b2, off2, rfl, _, g0, g1⟩ := HB.out k hkn
      generalize fV fl k = v at h0 g0
      generalize fC fl k = cc at h1 g1
      have c0 : (w.drewN m).cell? ⟨b, off + k * 2, none⟩ = some (.int .i64 v) := h0
      have c1 : (w.drewN m).cell? ⟨b, off + k * 2 + 1, none⟩ = some (.int .i64 cc) := h1
      have p0 : (w.drewN m).cell? ⟨b2, off2 + k * 2, none⟩ = some (.int .i64 v) := g0
      have p1 : (w.drewN m).cell? ⟨b2, off2 + k * 2 + 1, none⟩ = some (.int .i64 cc) := g1
      have i1 : (k : Int) < n := by omega
      have i2 : (0 : Int) ≤ (k : Int) := by omega
      have q0 : (v == v) = true := by simp
      have q1 : (cc == cc) = true := by simp
      go_wp2
      go_region_held3 (fun w' => w'.cell? ⟨b, off + k * 2, none⟩ = some (.int .i64 v) ∧ w'.cell? ⟨b, off + k * 2 + 1, none⟩ = some (.int .i64 cc) ∧ w'.cell? ⟨b2, off2 + k * 2, none⟩ = some (.int .i64 v) ∧ w'.cell? ⟨b2, off2 + k * 2 + 1, none⟩ = some (.int .i64 cc)) (exact ⟨c0, c1, p0, p1⟩) (fail)
      go_wp2
      go_roundw
      case rel => exact ⟨k + 1, _, by omega, by go_num, by first | rfl | exact World.drewN_drewN _ _ 1⟩
      case measure => simp [intOf]; omega
    · go_wp2
      go_ret
      exact ⟨rfl, m, rfl⟩
end Go.Proofs.Ytijilikkdnpbmaa
