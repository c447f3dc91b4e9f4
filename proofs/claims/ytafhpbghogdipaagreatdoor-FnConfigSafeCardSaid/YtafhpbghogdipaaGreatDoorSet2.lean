/- readSet, the program's SetValid, and the law FnExactSetValid. -/
import Derived.Test.YtafhpbghogdipaaGreatDoorSet1
namespace Go.Proofs.YtafhpbghogdipaaGreatDoor
open Go.RowKit
set_option maxHeartbeats 1000000

theorem isMember_any (n : Int) (w : World) : Calls Tryz.prog 73 #[.int .i64 n] w fun e w' => e = .returned (.bool (inB n 1 6)) ∧ w' = w := by
  unfold inB
  by_cases h1 : 1 ≤ n <;> by_cases h2 : n ≤ 6
  all_goals
    go_enter Tryz.func73, Tryz.ntmps73
    go_wp2
    go_ret
    exact ⟨by simp [*], rfl⟩
theorem with_any (m v : Int) (w : World) (h1 : 1 ≤ v) (h2 : v ≤ 6) : Calls Tryz.prog 74 #[.int .u64 m, .int .i64 v] w fun e w' => ∃ m' : Int, e = .returned (.int .u64 m') ∧ w' = w := by
  rcases (show v = 1 ∨ v = 2 ∨ v = 3 ∨ v = 4 ∨ v = 5 ∨ v = 6 by omega) with rfl | rfl | rfl | rfl | rfl | rfl
  all_goals
    go_enter Tryz.func74, Tryz.ntmps74
    go_wp2
    go_ret
    exact ⟨_, rfl, rfl⟩

/-- What readSet hands back: some mask, and whether the list is a member set. -/
def SetRes (zs : List Int) (w : World) (e : Ending) (w' : World) : Prop := ∃ m : Int, e = .returned (.tuple #[.int .u64 m, .bool (setB zs)]) ∧ w' = w
theorem SetRes.mk {zs : List Int} {w w' : World} {m : Int} {b : Bool} (h : setB zs = b) (hw : w' = w) : SetRes zs w (.returned (.tuple #[.int .u64 m, .bool b])) w' := ⟨m, by rw [h], hw⟩
theorem readSet_any (A : Option Addr) (n c : Nat) (zs : List Int) (w : World) (hA : Row w w.heap.size A (zs.map (Value.int .i64))) (hl : zs.length = n) (hn : n ≤ 1048576) :
    Calls Tryz.prog 42 #[.slice A n c] w (SetRes zs w) := by
  have HA := Lib.hid (hA.src hl)
  have HL := Lib.hid hl
  clear hA hl
  by_cases hn0 : n ≤ 0
  · have hr : setB zs = true := by
      have : zs = [] := List.eq_nil_of_length_eq_zero (by rw [HL.out]; omega)
      rw [this]
      rfl
    have HR := Lib.hid hr
    clear hr
    go_enter Tryz.func42, Tryz.ntmps42
    go_wp2
    go_loop [4, 9] (fun cv i => ∃ (k : Nat) (m : Int), k ≤ n ∧ i = .int .i64 k ∧ cv = .int .u64 m) (fun _ i => n - (intOf i).toNat)
    case atStart => exact ⟨0, 0, Nat.zero_le _, rfl, rfl⟩
    case round =>
      obtain ⟨k, m, hk, rfl, rfl⟩ := hrel
      have hkn : ¬ k < n := by omega
      go_wp2
      go_ret2
      exact SetRes.mk HR.out rfl
  · obtain ⟨b, off, rfl, _, _⟩ := HA.out 0 (by omega)
    go_enter Tryz.func42, Tryz.ntmps42
    go_wp2
    go_loop [4, 9] (fun cv i => ∃ (k : Nat) (m : Int), k ≤ n ∧ i = .int .i64 k ∧ cv = .int .u64 m ∧ okTo zs k = true) (fun _ i => n - (intOf i).toNat)
    case atStart => exact ⟨0, 0, Nat.zero_le _, rfl, rfl, by simp [okTo]⟩
    case round =>
      obtain ⟨k, m, hk, rfl, rfl, hok⟩ := hrel
      have HK := Lib.hid hok
      clear hok
      by_cases hkn : k < n
      · obtain ⟨_, _, e1, _, h1⟩ := HA.out k hkn
        cases e1
        have hkl : k < zs.length := by rw [HL.out]; exact hkn
        have HO := Lib.hid (@okAt_iff zs k _ rfl)
        generalize zs.getD k 0 = v at h1 HO
        have i1 : (k : Int) < n := by omega
        cases hb : inB v 1 6
        · have hr : setB zs = false := set_bad zs k hkl (by rw [HO.out, hb]; rfl)
          have HR := Lib.hid hr
          clear hr
          go_wp2_with (go_at_call 73; refine (isMember_any _ _).mono ?_; rintro e w' ⟨rfl, rfl⟩)
          go_ret2
          exact SetRes.mk HR.out rfl
        · obtain ⟨v1, v2⟩ := inB_iff.1 hb
          by_cases hk0 : k = 0
          · have hd : decide ((0 : Int) < k) = false := by simp; omega
            have hd0 : decide (0 < k) = false := by simp; omega
            have hnext : okTo zs (k + 1) = true := by
              rw [okTo_next, HK.out, HO.out, hb]
              simp [hk0]
            have HN := Lib.hid hnext
            clear hk0 hnext
            go_wp2_with (first | (go_at_call 73; refine (isMember_any _ _).mono ?_; rintro e w' ⟨rfl, rfl⟩) | (go_at_call 74; refine (with_any _ _ _ (by omega) (by omega)).mono ?_; rintro e w' ⟨m', rfl, rfl⟩))
            go_round
            case rel => exact ⟨k + 1, _, by omega, by go_num, rfl, HN.out⟩
            case measure => simp [intOf]; omega
          · have hd : decide ((0 : Int) < k) = true := by simp; omega
            have hd0 : decide (0 < k) = true := by simp; omega
            obtain ⟨_, _, e2, _, h2⟩ := HA.out (k - 1) (by omega)
            cases e2
            generalize zs.getD (k - 1) 0 = u at h2 HO
            have j2 : (0 : Int) ≤ (k : Int) - 1 := by omega
            have j2' : (1 : Int) ≤ (k : Int) := by omega
            have j3 : ((k : Int) - 1).toNat = k - 1 := by omega
            have j4 : (k : Int) - 1 < n := by omega
            by_cases huv : u < v
            · have hd2 : ¬ v ≤ u := by omega
              have hnext : okTo zs (k + 1) = true := by
                rw [okTo_next, HK.out, HO.out, hb]
                simp [huv]
              have HN := Lib.hid hnext
              clear hnext hk0 huv
              go_wp2_with (first | (go_at_call 73; refine (isMember_any _ _).mono ?_; rintro e w' ⟨rfl, rfl⟩) | (go_at_call 74; refine (with_any _ _ _ (by omega) (by omega)).mono ?_; rintro e w' ⟨m', rfl, rfl⟩))
              clear j3
              go_round
              case rel => exact ⟨k + 1, _, by omega, by go_num, rfl, HN.out⟩
              case measure => simp [intOf]; omega
            · have hd2 : v ≤ u := by omega
              have hr : setB zs = false := set_bad zs k hkl (by rw [HO.out, hb]; simp [hk0]; omega)
              have HR := Lib.hid hr
              clear hr hk0 huv
              go_wp2_with (go_at_call 73; refine (isMember_any _ _).mono ?_; rintro e w' ⟨rfl, rfl⟩)
              go_ret2
              exact SetRes.mk HR.out rfl
      · have hr : setB zs = true := by
          have := HK.out
          rw [show k = zs.length by rw [HL.out]; omega] at this
          exact this
        have HR := Lib.hid hr
        clear hr
        go_wp2
        go_ret2
        exact SetRes.mk HR.out rfl

end Go.Proofs.YtafhpbghogdipaaGreatDoor
