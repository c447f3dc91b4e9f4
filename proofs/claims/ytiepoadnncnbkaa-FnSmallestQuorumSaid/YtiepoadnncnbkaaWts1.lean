/- WeightsValid, the program's and the reference's, and the law FnExactWeightsValid. -/
import Derived.Test.YtiepoadnncnbkaaWts0
namespace Go.Proofs.Ytiepoadnncnbkaa
open Go.RowKit

/-- A vote assignment is valid. -/
def wtsB (zs : List Int) : Bool := zs.all (fun z => inB z 0 9) && inB zs.length 1 6
set_option maxHeartbeats 1000000

theorem specWeights_any (A : Option Addr) (n c : Nat) (zs : List Int) (w : World) (hA : Row w w.heap.size A (zs.map (Value.int .i64))) (hl : zs.length = n) (hn : n ≤ 1048576) :
    Calls Try.prog 67 #[.slice A n c] w fun e w' => e = .returned (.bool (wtsB zs)) ∧ w' = w := by
  have HA := Lib.hid (hA.src hl)
  have HL := Lib.hid hl
  clear hA hl
  by_cases hn0 : n ≤ 0
  · go_enter Try.func67, Try.ntmps67
    go_wp2
    go_loop [3] (fun i => ∃ k : Nat, k ≤ n ∧ i = .int .i64 k ∧ (zs.take k).all (fun z => inB z 0 9) = true) (fun i => n - (intOf i).toNat)
    case atStart => exact ⟨0, Nat.zero_le _, rfl, by simp⟩
    case round =>
      obtain ⟨k, hk, rfl, hall⟩ := hrel
      have HAll := Lib.hid hall
      clear hall
      by_cases hkn : k < n
      · omega
      · have hr : wtsB zs = inB n 1 6 := by
          have := HAll.out
          rw [List.take_of_length_le (by rw [HL.out]; omega)] at this
          simp [wtsB, this, HL.out]
        have HR := Lib.hid hr
        clear hr
        go_wp2_with (go_at_call 46; refine (l6In_any _ _ _ _).mono ?_; rintro e w' ⟨rfl, rfl⟩)
        go_ret
        exact ⟨ret_bool' HR.out.symm, rfl⟩
  · obtain ⟨b, off, rfl, _, _⟩ := HA.out 0 (by omega)
    go_enter Try.func67, Try.ntmps67
    go_wp2
    go_loop [3] (fun i => ∃ k : Nat, k ≤ n ∧ i = .int .i64 k ∧ (zs.take k).all (fun z => inB z 0 9) = true) (fun i => n - (intOf i).toNat)
    case atStart => exact ⟨0, Nat.zero_le _, rfl, by simp⟩
    case round =>
      obtain ⟨k, hk, rfl, hall⟩ := hrel
      have HAll := Lib.hid hall
      clear hall
      by_cases hkn : k < n
      · obtain ⟨_, _, e1, _, h1⟩ := HA.out k hkn
        cases e1
        have hkl : k < zs.length := by rw [HL.out]; exact hkn
        have HN := Lib.hid (all_next (fun z => inB z 0 9) zs k hkl)
        have HF := Lib.hid (all_bad (fun z => inB z 0 9) zs k hkl)
        generalize zs.getD k 0 = v at h1 HN HF
        cases hb : inB v 0 9
        · have hr : wtsB zs = false := by
            have := HF.out hb
            simp [wtsB, this]
          have HR := Lib.hid hr
          clear hr
          go_wp2_with (go_at_call 46; refine (l6In_any _ _ _ _).mono ?_; rintro e w' ⟨rfl, rfl⟩)
          go_ret
          exact ⟨ret_bool' HR.out.symm, rfl⟩
        · go_wp2_with (go_at_call 46; refine (l6In_any _ _ _ _).mono ?_; rintro e w' ⟨rfl, rfl⟩)
          go_round
          case rel => exact ⟨k + 1, by omega, by go_num, by rw [HN.out, HAll.out]; simp [hb]⟩
          case measure => simp [intOf]; omega
      · have hr : wtsB zs = inB n 1 6 := by
          have := HAll.out
          rw [List.take_of_length_le (by rw [HL.out]; omega)] at this
          simp [wtsB, this, HL.out]
        have HR := Lib.hid hr
        clear hr
        go_wp2_with (go_at_call 46; refine (l6In_any _ _ _ _).mono ?_; rintro e w' ⟨rfl, rfl⟩)
        go_ret
        exact ⟨ret_bool' HR.out.symm, rfl⟩

end Go.Proofs.Ytiepoadnncnbkaa
