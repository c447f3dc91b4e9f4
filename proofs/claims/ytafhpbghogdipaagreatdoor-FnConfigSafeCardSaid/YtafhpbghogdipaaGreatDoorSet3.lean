/- The mask that readSet makes, and the program's SetMask. -/
import Derived.Test.YtafhpbghogdipaaGreatDoorSet2
namespace Go.Proofs.YtafhpbghogdipaaGreatDoor
open Go.RowKit
set_option maxHeartbeats 1000000

/-- A member's bit, and the sum of the bits of the first k members. -/
def pw (z : Int) : Nat := 2 ^ (z - 1).toNat
def sumTo (zs : List Int) : Nat → Nat
  | 0 => 0
  | k + 1 => sumTo zs k + pw (zs.getD k 0)
theorem pw_mono {a b : Int} (h1 : 1 ≤ a) (h : a < b) : 2 * pw a ≤ pw b := by
  unfold pw
  have : (b - 1).toNat = (a - 1).toNat + 1 + ((b - 1).toNat - (a - 1).toNat - 1) := by omega
  rw [this, Nat.pow_add, Nat.pow_succ]
  have hp : 0 < 2 ^ ((b - 1).toNat - (a - 1).toNat - 1) := Nat.two_pow_pos _
  have := Nat.le_mul_of_pos_right (2 ^ (a - 1).toNat * 2) hp
  omega
theorem pw_pos (a : Int) : 0 < pw a := Nat.two_pow_pos _
theorem pw_small {a : Int} (h : a ≤ 6) : pw a ≤ 32 := by
  unfold pw
  have h5 : 2 ^ (a - 1).toNat ≤ 2 ^ 5 := Nat.pow_le_pow_right (by omega) (by omega)
  simpa using h5
theorem sum_lt (zs : List Int) : ∀ k, okTo zs (k + 1) = true → sumTo zs k < pw (zs.getD k 0)
  | 0, _ => pw_pos _
  | k + 1, h => by
    rw [okTo_next] at h
    simp only [Bool.and_eq_true] at h
    obtain ⟨h1, h2⟩ := h
    have ih := sum_lt zs k h1
    have h0 := h1
    rw [okTo_next] at h0
    simp only [Bool.and_eq_true, okAt] at h0 h2
    obtain ⟨_, h3, _⟩ := h0
    obtain ⟨_, h4⟩ := h2
    have h5 : zs.getD k 0 < zs.getD (k + 1) 0 := by simpa using h4
    have h6 := (inB_iff.1 h3).1
    have := pw_mono h6 h5
    show sumTo zs k + pw (zs.getD k 0) < _
    omega
theorem or_add (m : Nat) (j : Nat) (h : m < 2 ^ j) : m ||| 2 ^ j = m + 2 ^ j := by
  have := Nat.two_pow_add_eq_or_of_lt h 1
  rw [Nat.mul_one] at this
  rw [Nat.or_comm, ← this, Nat.add_comm]

theorem with_mask (m : Nat) (v : Int) (w : World) (h1 : 1 ≤ v) (h2 : v ≤ 6) (hm : m < pw v) : Calls Tryz.prog 74 #[.int .u64 m, .int .i64 v] w fun e w' => e = .returned (.int .u64 ((m + pw v : Nat) : Int)) ∧ w' = w := by
  have h32 := pw_small h2
  have hj : ∃ j : Nat, j ≤ 5 ∧ v = (j : Int) + 1 := ⟨(v - 1).toNat, by omega, by omega⟩
  obtain ⟨j, hj5, rfl⟩ := hj
  have hpw : pw ((j : Int) + 1) = 2 ^ j := by unfold pw; congr 1; omega
  rw [hpw] at hm h32
  rw [hpw]
  have hor := or_add m j hm
  have hb := u64_or_nat m (2 ^ j) (by omega) (by omega)
  rw [hor] at hb
  have HB := Lib.hid hb
  clear hb hor hpw
  rcases (show j = 0 ∨ j = 1 ∨ j = 2 ∨ j = 3 ∨ j = 4 ∨ j = 5 by omega) with rfl | rfl | rfl | rfl | rfl | rfl
  all_goals
    have hbb := HB.out
    simp at hbb
    go_enter Tryz.func74, Tryz.ntmps74
    go_wp2
    go_ret
    exact ⟨by simp, rfl⟩

/-- What readSet hands back, with the mask of a member set. -/
def MaskRes (zs : List Int) (w : World) (e : Ending) (w' : World) : Prop := ∃ m : Nat, e = .returned (.tuple #[.int .u64 m, .bool (setB zs)]) ∧ (setB zs = true → m = sumTo zs zs.length) ∧ w' = w
theorem MaskRes.mk {zs : List Int} {w w' : World} {m : Nat} {b : Bool} (h : setB zs = b) (hm : b = true → m = sumTo zs zs.length) (hw : w' = w) : MaskRes zs w (.returned (.tuple #[.int .u64 m, .bool b])) w' := ⟨m, by rw [h], fun hs => hm (by rw [← h]; exact hs), hw⟩
theorem MaskRes.bad {zs : List Int} {w w' : World} {b : Bool} (h : setB zs = b) (hm : b = true → 0 = sumTo zs zs.length) (hw : w' = w) : MaskRes zs w (.returned (.tuple #[.int .u64 0, .bool b])) w' := MaskRes.mk (m := 0) h hm hw
theorem readSet_mask (A : Option Addr) (n c : Nat) (zs : List Int) (w : World) (hA : Row w w.heap.size A (zs.map (Value.int .i64))) (hl : zs.length = n) (hn : n ≤ 1048576) :
    Calls Tryz.prog 42 #[.slice A n c] w (MaskRes zs w) := by
  have HA := Lib.hid (hA.src hl)
  have HL := Lib.hid hl
  clear hA hl
  by_cases hn0 : n ≤ 0
  · have hr : setB zs = true := by
      have : zs = [] := List.eq_nil_of_length_eq_zero (by rw [HL.out]; omega)
      rw [this]
      rfl
    have HR := Lib.hid hr
    clear hr
    go_enter Tryz.func42, Tryz.ntmps42
    go_wp2
    go_loop [4, 9] (fun cv i => ∃ (k m : Nat), k ≤ n ∧ i = .int .i64 k ∧ cv = .int .u64 m ∧ m = 0) (fun _ i => n - (intOf i).toNat)
    case atStart => exact ⟨0, 0, Nat.zero_le _, rfl, rfl, rfl⟩
    case round =>
      obtain ⟨k, m, hk, rfl, rfl, hm0⟩ := hrel
      have HM0 := Lib.hid hm0
      clear hm0
      have hkn : ¬ k < n := by omega
      go_wp2
      go_ret2
      exact MaskRes.mk HR.out (fun _ => by rw [HM0.out, show zs.length = 0 by rw [HL.out]; omega]; rfl) rfl
  · obtain ⟨b, off, rfl, _, _⟩ := HA.out 0 (by omega)
    go_enter Tryz.func42, Tryz.ntmps42
    go_wp2
    go_loop [4, 9] (fun cv i => ∃ (k m : Nat), k ≤ n ∧ i = .int .i64 k ∧ cv = .int .u64 m ∧ okTo zs k = true ∧ m = sumTo zs k) (fun _ i => n - (intOf i).toNat)
    case atStart => exact ⟨0, 0, Nat.zero_le _, rfl, rfl, by simp [okTo], rfl⟩
    case round =>
      obtain ⟨k, m, hk, rfl, rfl, hok, hms⟩ := hrel
      have HK := Lib.hid hok
      have HS := Lib.hid hms
      clear hok hms
      by_cases hkn : k < n
      · obtain ⟨_, _, e1, _, h1⟩ := HA.out k hkn
        cases e1
        have hkl : k < zs.length := by rw [HL.out]; exact hkn
        have HO := Lib.hid (@okAt_iff zs k _ rfl)
        have HL2 := Lib.hid (fun h : okTo zs (k + 1) = true => sum_lt zs k h)
        have HS2 := Lib.hid (show sumTo zs (k + 1) = sumTo zs k + pw (zs.getD k 0) from rfl)
        generalize zs.getD k 0 = v at h1 HO HL2 HS2
        have i1 : (k : Int) < n := by omega
        cases hb : inB v 1 6
        · have hr : setB zs = false := set_bad zs k hkl (by rw [HO.out, hb]; rfl)
          have HR := Lib.hid hr
          clear hr
          go_wp2_with (go_at_call 73; refine (isMember_any _ _).mono ?_; rintro e w' ⟨rfl, rfl⟩)
          go_ret2
          exact MaskRes.bad HR.out (fun h => by cases h) rfl
        · obtain ⟨v1, v2⟩ := inB_iff.1 hb
          by_cases hk0 : k = 0
          · have hd : decide ((0 : Int) < k) = false := by simp; omega
            have hd0 : decide (0 < k) = false := by simp; omega
            have hnext : okTo zs (k + 1) = true := by
              rw [okTo_next, HK.out, HO.out, hb]
              simp [hk0]
            have HN := Lib.hid hnext
            have hmp : m < pw v := by rw [HS.out]; exact HL2.out hnext
            have HM := Lib.hid hmp
            clear hmp
            clear hk0 hnext
            go_wp2_with (first | (go_at_call 73; refine (isMember_any _ _).mono ?_; rintro e w' ⟨rfl, rfl⟩) | (go_at_call 74; refine (with_mask _ _ _ (by omega) (by omega) HM.out).mono ?_; rintro e w' ⟨rfl, rfl⟩))
            go_round
            case rel => exact ⟨k + 1, m + pw v, by omega, by go_num, rfl, HN.out, by rw [HS2.out, HS.out]⟩
            case measure => simp [intOf]; omega
          · have hd : decide ((0 : Int) < k) = true := by simp; omega
            have hd0 : decide (0 < k) = true := by simp; omega
            obtain ⟨_, _, e2, _, h2⟩ := HA.out (k - 1) (by omega)
            cases e2
            generalize zs.getD (k - 1) 0 = u at h2 HO
            have j2 : (0 : Int) ≤ (k : Int) - 1 := by omega
            have j2' : (1 : Int) ≤ (k : Int) := by omega
            have j3 : ((k : Int) - 1).toNat = k - 1 := by omega
            have j4 : (k : Int) - 1 < n := by omega
            by_cases huv : u < v
            · have hd2 : ¬ v ≤ u := by omega
              have hnext : okTo zs (k + 1) = true := by
                rw [okTo_next, HK.out, HO.out, hb]
                simp [huv]
              have HN := Lib.hid hnext
              have hmp : m < pw v := by rw [HS.out]; exact HL2.out hnext
              have HM := Lib.hid hmp
              clear hmp
              clear hnext hk0 huv
              go_wp2_with (first | (go_at_call 73; refine (isMember_any _ _).mono ?_; rintro e w' ⟨rfl, rfl⟩) | (go_at_call 74; refine (with_mask _ _ _ (by omega) (by omega) HM.out).mono ?_; rintro e w' ⟨rfl, rfl⟩))
              clear j3
              go_round
              case rel => exact ⟨k + 1, m + pw v, by omega, by go_num, rfl, HN.out, by rw [HS2.out, HS.out]⟩
              case measure => simp [intOf]; omega
            · have hd2 : v ≤ u := by omega
              have hr : setB zs = false := set_bad zs k hkl (by rw [HO.out, hb]; simp [hk0]; omega)
              have HR := Lib.hid hr
              clear hr hk0 huv
              go_wp2_with (go_at_call 73; refine (isMember_any _ _).mono ?_; rintro e w' ⟨rfl, rfl⟩)
              go_ret2
              exact MaskRes.bad HR.out (fun h => by cases h) rfl
      · have hr : setB zs = true := by
          have := HK.out
          rw [show k = zs.length by rw [HL.out]; omega] at this
          exact this
        have HR := Lib.hid hr
        clear hr
        go_wp2
        go_ret2
        exact MaskRes.mk HR.out (fun _ => by rw [HS.out, show k = zs.length by rw [HL.out]; omega]) rfl

end Go.Proofs.YtafhpbghogdipaaGreatDoor
