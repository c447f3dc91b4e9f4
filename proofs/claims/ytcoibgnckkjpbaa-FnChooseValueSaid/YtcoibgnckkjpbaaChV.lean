/- The law FnChooseValue: its walk. -/
import Derived.Test.YtcoibgnckkjpbaaChL
namespace Go.Proofs.Ytcoibgnckkjpbaa
open Go.RowKit
set_option maxHeartbeats 4000000
set_option linter.unusedVariables false

theorem chooseValue_walk (A : Option Addr) (na ca : Nat) (zs0 : List Int) (w : World) (h : Ints .u8 w A na ca zs0) : Calls Try.prog 14 #[.slice A na ca] w fun e w' => e = .returned (.bool true) ∧ Below w.heap.size w w' := by
  have hmx := h.max
  unfold maxLen at hmx
  by_cases hl : 1048576 < na
  · go_enter Try.func14, Try.ntmps14
    go_wp2
    go_ret
    exact ⟨rfl, Below.refl _ _⟩
  go_enter Try.func14, Try.ntmps14
  go_wp2_with fail
  refine (drawChoose_any A na ca zs0 _ h).mono ?_
  rintro e wd ⟨B, m, cc, fl, o, rfl, hD, ⟨hm, ho1, ho2⟩, hbd⟩
  have hbz := hbd.size
  have hDm := hD.max
  have hDc := hD.cap
  have HD := Lib.hid hD
  clear hD
  obtain ⟨r, hr⟩ : ∃ r, chV fl m o = r := ⟨_, rfl⟩
  obtain ⟨q, hq⟩ : ∃ q, chB fl m o = q := ⟨_, rfl⟩
  have HR := Lib.hid hr
  have HQ := Lib.hid hq
  clear hr hq
  go_wp2_with fail
  refine (specChoose_is B m cc fl o _ _ HD.out.row (Nat.le_refl _) HD.out.len (by omega) HR.out HQ.out).mono ?_
  rintro e wa ⟨rfl, hba⟩
  have hza := hba.size
  have R1 := Lib.hid (HD.out.row.below hba)
  have hbwa := hbd.trans (hba.mono hbz)
  clear hbd hba
  go_wp2_with fail
  refine (implChoose_is B m cc fl o _ _ R1.out hza HD.out.len (by omega) HR.out HQ.out).mono ?_
  rintro e wb ⟨rfl, hbb⟩
  have hzb := hbb.size
  have R2 := Lib.hid (R1.out.keep fun p hp => hbb.cell (Nat.lt_of_lt_of_le hp hza))
  have hbwb := hbwa.trans (hbb.mono (by omega))
  clear hbwa hbb R1
  cases q
  · go_wp2
    go_ret
    exact ⟨by first | rfl | (apply ret_bool; simp), hbwb⟩
  have HV := Lib.hid (show r = bestV fl o m by rw [← HR.out]; simp [chV, HQ.out])
  have HS := Lib.hid (rec_src R2.out HD.out.len)
  go_wp2_with fail
  go_loop [9, 10] (fun bv i => ∃ j : Nat, j ≤ m ∧ i = .int .i64 j ∧ bv = .int .i64 (bestA fl j)) (fun _ i => m - (intOf i).toNat)
  case atStart => exact ⟨0, Nat.zero_le _, rfl, rfl⟩
  case round =>
    obtain ⟨j, hj, rfl, rfl⟩ := hrel
    by_cases hjm : j < m
    · obtain ⟨b, off, rfl, hb, c0, c1, c2⟩ := HS.out j hjm
      have H1 := Lib.hid (show bestA fl (j + 1) = if bestA fl j < fl.getD (j * 3 + 1) 0 then fl.getD (j * 3 + 1) 0 else bestA fl j from rfl)
      generalize fl.getD (j * 3) 0 = p at c0
      generalize fl.getD (j * 3 + 1) 0 = a at c1 H1
      generalize fl.getD (j * 3 + 2) 0 = v at c2
      have i1 : (j : Int) < m := by omega
      by_cases hq : bestA fl j < a
      · have m1 : max (bestA fl j) a = a := by omega
        go_wp2
        go_round
        case rel => exact ⟨j + 1, by omega, by go_num, by rw [H1.out, if_pos hq]⟩
        case measure => simp [intOf]; omega
      · have m1 : max (bestA fl j) a = bestA fl j := by omega
        go_wp2
        go_round
        case rel => exact ⟨j + 1, by omega, by go_num, by rw [H1.out, if_neg hq]⟩
        case measure => simp [intOf]; omega
    · obtain rfl : j = m := by omega
      by_cases hz : bestA fl j = 0
      · have hv : r = o := by rw [HV.out, best_zero fl o j hz]
        subst hv
        rw [hz]
        clear hz
        go_wp2
        go_ret
        exact ⟨by first | rfl | (apply ret_bool; simp), hbwb⟩
      · have hpos : 0 < bestA fl j := by have := bestA_nn fl j; omega
        obtain ⟨i0, g1, g2, g3, g4⟩ := best_first fl o j hpos
        have G2 := Lib.hid g2
        have G3 := Lib.hid g3
        have G4 := Lib.hid (HV.out.trans g4)
        obtain ⟨ba, hba⟩ : ∃ ba, bestA fl j = ba := ⟨_, rfl⟩
        rw [hba] at G2 G3 ⊢
        rw [hba] at hpos
        have hb0 : (ba == 0) = false := by simp; omega
        clear hz hba g2 g3 g4
        go_wp2_with fail
        go_loop [11] (fun i => ∃ k : Nat, k ≤ i0 ∧ i = .int .i64 k) (fun i => j - (intOf i).toNat)
        case atStart => exact ⟨0, Nat.zero_le _, rfl⟩
        case round =>
          obtain ⟨k, hk, rfl⟩ := hrel
          have hkj : k < j := by omega
          obtain ⟨b, off, rfl, hb, c0, c1, c2⟩ := HS.out k hkj
          have i1 : (k : Int) < j := by omega
          by_cases hki : k = i0
          · subst hki
            rw [G2.out] at c1
            rw [← G4.out] at c2
            go_wp2
            go_ret
            exact ⟨by first | rfl | (apply ret_bool; simp), hbwb⟩
          · have hlt := G3.out k (by omega)
            generalize fl.getD (k * 3 + 1) 0 = a at c1 hlt
            have hab : (a == ba) = false := by simp; omega
            go_wp2
            go_round
            case rel => exact ⟨k + 1, by omega, by go_num⟩
            case measure => simp [intOf]; omega
end Go.Proofs.Ytcoibgnckkjpbaa
