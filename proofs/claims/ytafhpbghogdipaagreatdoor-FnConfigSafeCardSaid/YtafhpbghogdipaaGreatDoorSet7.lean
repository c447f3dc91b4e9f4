/- SetSubset, the program's and the reference's. -/
import Derived.Test.YtafhpbghogdipaaGreatDoorSet6
namespace Go.Proofs.YtafhpbghogdipaaGreatDoor
open Go.RowKit
set_option maxHeartbeats 1000000

theorem within_any (a b : Nat) (w : World) (ha : a < 64) (hb : b < 64) : Calls Tryz.prog 75 #[.int .u64 a, .int .u64 b] w fun e w' => e = .returned (.bool ((a &&& (18446744073709551615 - b)) == 0)) ∧ w' = w := by
  have h1 := u64_andNot_nat a b (by omega) (by omega)
  obtain ⟨x, hx⟩ : ∃ x : Nat, x = a &&& (18446744073709551615 - b) := ⟨_, rfl⟩
  rw [← hx] at h1 ⊢
  clear hx
  cases h0 : (x == 0)
  · have h2 : ((x : Int) == 0) = false := by simpa using h0
    go_enter Tryz.func75, Tryz.ntmps75
    go_wp2
    go_ret
    exact ⟨by first | rfl | simp [h2], rfl⟩
  · have h2 : ((x : Int) == 0) = true := by simpa using h0
    go_enter Tryz.func75, Tryz.ntmps75
    go_wp2
    go_ret
    exact ⟨by first | rfl | simp [h2], rfl⟩

theorem l1Subset_any (A : Option Addr) (n c : Nat) (zs : List Int) (A2 : Option Addr) (n2 c2 : Nat) (ys : List Int) (w : World) (B : Nat) (hA : Row w B A (zs.map (Value.int .i64))) (hl : zs.length = n) (hn : n ≤ 1048576)
    (hB : Row w B A2 (ys.map (Value.int .i64))) (hl2 : ys.length = n2) (hn2 : n2 ≤ 1048576) :
    Calls Tryz.prog 36 #[.slice A n c, .slice A2 n2 c2] w fun e w' => e = .returned (.bool (subB zs ys)) ∧ w' = w := by
  have HA := Lib.hid (hA.src hl)
  have HL := Lib.hid hl
  have HL2 := Lib.hid hl2
  clear hA hl hl2
  have hcon := fun (x : Int) => l1Contains_any A2 n2 c2 ys x w B hB HL2.out hn2
  have HC := Lib.hid hcon
  clear hcon hB
  obtain ⟨r, hr⟩ : ∃ r, r = subB zs ys := ⟨_, rfl⟩
  rw [← hr]
  have HR := Lib.hid hr
  clear hr
  by_cases hn0 : n ≤ 0
  · have hz : r = true := by
      have : zs = [] := List.eq_nil_of_length_eq_zero (by rw [HL.out]; omega)
      rw [HR.out, this]
      rfl
    rw [hz]
    clear hz
    go_enter Tryz.func36, Tryz.ntmps36
    go_wp2
    go_loop [5] (fun i => ∃ k : Nat, k ≤ n ∧ i = .int .i64 k) (fun i => n - (intOf i).toNat)
    case atStart => exact ⟨0, Nat.zero_le _, rfl⟩
    case round =>
      obtain ⟨k, hk, rfl⟩ := hrel
      have hkn : ¬ k < n := by omega
      go_wp2
      go_ret
      exact ⟨rfl, rfl⟩
  · obtain ⟨b, off, rfl, _, _⟩ := HA.out 0 (by omega)
    go_enter Tryz.func36, Tryz.ntmps36
    go_wp2
    go_loop [5] (fun i => ∃ k : Nat, k ≤ n ∧ i = .int .i64 k ∧ (zs.take k).all (fun x => ys.any fun y => y == x) = true) (fun i => n - (intOf i).toNat)
    case atStart => exact ⟨0, Nat.zero_le _, rfl, by simp⟩
    case round =>
      obtain ⟨k, hk, rfl, hall⟩ := hrel
      have HN0 := Lib.hid hall
      clear hall
      by_cases hkn : k < n
      · obtain ⟨_, _, e1, _, h1⟩ := HA.out k hkn
        cases e1
        have hkl : k < zs.length := by rw [HL.out]; exact hkn
        have HN := Lib.hid (all_next (fun x => ys.any fun y => y == x) zs k hkl)
        have HF := Lib.hid (all_bad (fun x => ys.any fun y => y == x) zs k hkl)
        generalize zs.getD k 0 = v at h1 HN HF
        obtain ⟨q, hq⟩ : ∃ q, q = ys.any (fun y => y == v) := ⟨_, rfl⟩
        have HQ := Lib.hid hq
        have hcv := HC.out v
        rw [← hq] at hcv
        have HCV := Lib.hid hcv
        clear hq hcv
        cases q
        · have ht : r = false := by rw [HR.out]; exact HF.out HQ.out.symm
          have HT := Lib.hid ht
          clear ht
          go_wp2_with (go_at_call 70; refine HCV.out.mono ?_; rintro e w' ⟨rfl, rfl⟩)
          go_ret
          exact ⟨ret_bool' HT.out.symm, rfl⟩
        · go_wp2_with (go_at_call 70; refine HCV.out.mono ?_; rintro e w' ⟨rfl, rfl⟩)
          go_round
          case rel => exact ⟨k + 1, by omega, by go_num, by rw [HN.out, HN0.out, ← HQ.out]; rfl⟩
          case measure => simp [intOf]; omega
      · have ht : r = true := by
          have := HN0.out
          rw [List.take_of_length_le (by rw [HL.out]; omega)] at this
          rw [HR.out]
          exact this
        have HT := Lib.hid ht
        clear ht
        go_wp2
        go_ret
        exact ⟨ret_bool' HT.out.symm, rfl⟩
end Go.Proofs.YtafhpbghogdipaaGreatDoor
