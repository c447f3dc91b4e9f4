/- The law FnLogConfigPrefix: its walk. -/
import Derived.Test.YtijilikkdnpbmaaLog6
namespace Go.Proofs.Ytijilikkdnpbmaa
open Go.RowKit
set_option maxHeartbeats 4000000
set_option linter.unusedVariables false

theorem logConfigPrefix_walk (A : Option Addr) (na ca : Nat) (zs0 : List Int) (w : World) (h : Ints .u8 w A na ca zs0) : Calls Try.prog 6 #[.slice A na ca] w fun e w' => e = .returned (.bool true) ∧ Below w.heap.size w w' := by
  have hmx := h.max
  unfold maxLen at hmx
  by_cases hl : 1048576 < na
  · go_enter Try.func6, Try.ntmps6
    go_wp2
    go_ret
    exact ⟨rfl, Below.refl _ _⟩
  go_enter Try.func6, Try.ntmps6
  go_wp2_with fail
  refine (drawLogConfig_any A na ca zs0 _ h).mono ?_
  rintro e wd ⟨B, m, cc, fl, k, s, rfl, hD, ⟨hm, hk1, hk4, hs0, hs2⟩, hbd⟩
  have hbz := hbd.size
  have hDm := hD.max
  have hDc := hD.cap
  have HD := Lib.hid hD
  clear hD
  obtain ⟨v, hv⟩ : ∃ v, cfgB fl k m s = v := ⟨_, rfl⟩
  have HV := Lib.hid hv
  clear hv
  go_wp2_with fail
  refine (implLogConfig_is B m cc fl k _ _ HD.out.row (Nat.le_refl _) HD.out.len (by omega) s HV.out).mono ?_
  rintro e w1 ⟨rfl, hb1⟩
  have hz1 := hb1.size
  have R1 := Lib.hid (HD.out.row.below hb1)
  have hbw1 := hbd.trans (hb1.mono hbz)
  clear hbd hb1
  go_wp2_with fail
  refine (specLogConfig_is B m cc fl k _ _ R1.out hz1 HD.out.len (by omega) s HV.out).mono ?_
  rintro e w2 ⟨rfl, hb2⟩
  have hz2 := hb2.size
  have R2 := Lib.hid (R1.out.keep fun p hp => hb2.cell (Nat.lt_of_lt_of_le hp hz1))
  have hbw2 := hbw1.trans (hb2.mono (by omega))
  clear hbw1 hb2 R1
  by_cases h0 : v = 0
  · subst h0
    go_wp2_with fail
    refine (specLogConfig_is B m cc fl k _ _ R2.out (by omega) HD.out.len (by omega) s HV.out).mono ?_
    rintro e w3 ⟨rfl, hb3⟩
    go_wp2
    go_ret
    exact ⟨rfl, hbw2.trans (hb3.mono (by omega))⟩
  have hv0 : (v == 0) = false := by simpa using h0
  obtain ⟨hlg, s0, s1, hvc⟩ := cfg_nz HV.out h0
  have HL := Lib.hid hlg
  have HC := Lib.hid hvc
  clear hlg hvc h0
  obtain ⟨j, hjs⟩ : ∃ j : Nat, (s = 0 ∧ j = 0) ∨ (1 ≤ s ∧ s = (j : Int) + 1 ∧ j ≤ m) := by
    by_cases h : s = 0
    · exact ⟨0, .inl ⟨h, rfl⟩⟩
    · exact ⟨(s - 1).toNat, .inr ⟨by omega, by omega, by omega⟩⟩
  have hj : j ≤ m := by omega
  have hst : stopAt m s = j := by unfold stopAt; omega
  have hst' : ∀ s' : Int, (s' = s) → cfgB (fl.take (j * 2)) k j s' = v := by
    rintro s' rfl
    rw [cfg_yes (log_take HL.out hj) (inB_true (by omega) (by omega)), cfg_take _ (by unfold stopAt; omega), HC.out, hst]
    congr 1
    unfold stopAt
    omega
  have HST := Lib.hid hst'
  have hlt : (fl.take (j * 2)).length = j * 2 := by rw [List.length_take, HD.out.len]; omega
  have HLT := Lib.hid hlt
  have RT : Row w2 wd.heap.size B ((fl.take (j * 2)).map (Value.int .i64)) := by rw [List.map_take]; exact R2.out.take _
  have HRT := Lib.hid RT
  have HBn := Lib.hid HD.out.nil
  clear hst hst' hlt RT
  rcases B with _ | ad
  · have hm0 : m = 0 := HBn.out rfl
    have hj0 : j = 0 := by omega
    subst hm0 hj0
    rcases (show s = 0 ∨ s = 1 by omega) with rfl | rfl
    all_goals
      clear hjs
      go_wp2_with fail
      refine (implLogConfig_is none 0 _ _ k _ _ HRT.out (by omega) HLT.out (by omega) _ (HST.out _ (by omega))).mono ?_
      rintro e w3 ⟨rfl, hb3⟩
      go_wp2
      go_ret
      exact ⟨by first | rfl | (apply ret_bool; simp), hbw2.trans (hb3.mono (by omega))⟩
  · rcases hjs with ⟨rfl, rfl⟩ | ⟨h1, h2, h3⟩
    · have i1 : (0 : Int) ≤ (m : Int) := by omega
      go_wp2_with fail
      refine (implLogConfig_is _ 0 _ _ k _ _ HRT.out (by omega) HLT.out (by omega) _ (HST.out _ (by omega))).mono ?_
      rintro e w3 ⟨rfl, hb3⟩
      go_wp2
      go_ret
      exact ⟨by first | rfl | (apply ret_bool; simp), hbw2.trans (hb3.mono (by omega))⟩
    · have i1 : s - 2 + 1 = (j : Int) := by omega
      have i2 : (j : Int) ≤ (m : Int) := by omega
      have i3 : min (j : Int) (m : Int) = j := by omega
      have i4 : max (j : Int) 0 = j := by omega
      have i5 : (0 : Int) ≤ (j : Int) := by omega
      have HS2 := Lib.hid h2
      clear h2
      go_wp2_with fail
      refine (implLogConfig_is _ j _ _ k _ _ HRT.out (by omega) HLT.out (by omega) _ (HST.out _ (by first | rfl | omega))).mono ?_
      rintro e w3 ⟨rfl, hb3⟩
      go_wp2
      go_ret
      exact ⟨by first | rfl | (apply ret_bool; simp), hbw2.trans (hb3.mono (by omega))⟩
end Go.Proofs.Ytijilikkdnpbmaa
