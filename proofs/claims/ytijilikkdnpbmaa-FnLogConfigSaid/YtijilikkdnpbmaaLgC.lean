/- The law FnLogConfig: its walk. -/
import Derived.Test.YtijilikkdnpbmaaLog6
namespace Go.Proofs.Ytijilikkdnpbmaa
open Go.RowKit
set_option maxHeartbeats 4000000
set_option linter.unusedVariables false

theorem logConfig_walk (A : Option Addr) (na ca : Nat) (zs0 : List Int) (w : World) (h : Ints .u8 w A na ca zs0) : Calls Try.prog 5 #[.slice A na ca] w fun e w' => e = .returned (.bool true) ∧ Below w.heap.size w w' := by
  have hmx := h.max
  unfold maxLen at hmx
  by_cases hl : 1048576 < na
  · go_enter Try.func5, Try.ntmps5
    go_wp2
    go_ret
    exact ⟨rfl, Below.refl _ _⟩
  go_enter Try.func5, Try.ntmps5
  go_wp2_with fail
  refine (drawLogConfig_any A na ca zs0 _ h).mono ?_
  rintro e wd ⟨B, m, cc, fl, k, s, rfl, hD, ⟨hm, hk1, hk4, hs0, hs2⟩, hbd⟩
  have hbz := hbd.size
  have hDm := hD.max
  have hDc := hD.cap
  have HD := Lib.hid hD
  clear hD
  obtain ⟨v, hv⟩ : ∃ v, cfgB fl k m s = v := ⟨_, rfl⟩
  have HV := Lib.hid hv
  clear hv
  go_wp2_with fail
  refine (implLogConfig_is B m cc fl k _ _ HD.out.row (Nat.le_refl _) HD.out.len (by omega) s HV.out).mono ?_
  rintro e w1 ⟨rfl, hb1⟩
  have hz1 := hb1.size
  have R1 := Lib.hid (HD.out.row.below hb1)
  have hbw1 := hbd.trans (hb1.mono hbz)
  clear hbd hb1
  go_wp2_with fail
  refine (specLogConfig_is B m cc fl k _ _ R1.out hz1 HD.out.len (by omega) s HV.out).mono ?_
  rintro e w2 ⟨rfl, hb2⟩
  have hz2 := hb2.size
  have R2 := Lib.hid (R1.out.keep fun p hp => hb2.cell (Nat.lt_of_lt_of_le hp hz1))
  have hbw2 := hbw1.trans (hb2.mono (by omega))
  clear hbw1 hb2 R1
  by_cases h0 : v = 0
  · subst h0
    go_wp2_with fail
    refine (specLogConfig_is B m cc fl k _ _ R2.out (by omega) HD.out.len (by omega) s HV.out).mono ?_
    rintro e w3 ⟨rfl, hb3⟩
    go_wp2
    go_ret
    exact ⟨rfl, hbw2.trans (hb3.mono (by omega))⟩
  have hv0 : (v == 0) = false := by simpa using h0
  obtain ⟨hlg, s0, s1, hvc⟩ := cfg_nz HV.out h0
  have HL := Lib.hid hlg
  have HC := Lib.hid hvc
  clear hlg hvc h0
  have HS := Lib.hid (row_src R2.out HD.out.len)
  go_wp2_with fail
  go_loop [7, 8] (fun wv i => ∃ j : Nat, j ≤ m ∧ i = .int .i64 j ∧ wv = .int .i64 (cfgTo fl (min j (stopAt m s)))) (fun _ i => m - (intOf i).toNat)
  case atStart => exact ⟨0, Nat.zero_le _, rfl, by rw [Nat.zero_min]; rfl⟩
  case round =>
    obtain ⟨j, hj, rfl, rfl⟩ := hrel
    by_cases hjm : j < m
    · obtain ⟨b, off, rfl, hb, hc0, hc1⟩ := HS.out j hjm
      have i1 : (j : Int) < m := by omega
      by_cases hjs : (j : Int) ≤ s - 2
      · have e1 : min j (stopAt m s) = j := by unfold stopAt; omega
        have e2 : min (j + 1) (stopAt m s) = j + 1 := by unfold stopAt; omega
        have E2 := Lib.hid e2
        rw [e1]
        have HN := Lib.hid (show cfgTo fl (j + 1) = if 0 < fC fl j then fC fl j else cfgTo fl j from rfl)
        clear e1 e2
        by_cases hq : 0 < fC fl j
        all_goals
          go_wp2
          go_round
          case rel => exact ⟨j + 1, by omega, by go_num, by rw [E2.out, HN.out]; simp [hq]⟩
          case measure => simp [intOf]; omega
      · have e1 : min (j + 1) (stopAt m s) = min j (stopAt m s) := by unfold stopAt; omega
        have E1 := Lib.hid e1
        clear e1
        obtain ⟨x, hx⟩ : ∃ x, cfgTo fl (min j (stopAt m s)) = x := ⟨_, rfl⟩
        rw [hx]
        have HX := Lib.hid hx
        clear hx
        go_wp2
        go_round
        case rel => exact ⟨j + 1, by omega, by go_num, by rw [E1.out, HX.out]⟩
        case measure => simp [intOf]; omega
    · have e1 : min j (stopAt m s) = stopAt m s := by unfold stopAt; omega
      rw [e1, ← HC.out]
      clear e1
      go_wp2
      go_ret
      exact ⟨by first | rfl | (apply ret_bool; simp), hbw2⟩
end Go.Proofs.Ytijilikkdnpbmaa
