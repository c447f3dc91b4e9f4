/- The law FnLogConfigSteps: its walk. -/
import Derived.Test.YtijilikkdnpbmaaLog6
namespace Go.Proofs.Ytijilikkdnpbmaa
open Go.RowKit
set_option maxHeartbeats 4000000
set_option linter.unusedVariables false

theorem logConfigSteps_walk (A : Option Addr) (na ca : Nat) (zs0 : List Int) (w : World) (h : Ints .u8 w A na ca zs0) : Calls Try.prog 7 #[.slice A na ca] w fun e w' => e = .returned (.bool true) ∧ Below w.heap.size w w' := by
  have hmx := h.max
  unfold maxLen at hmx
  by_cases hl : 1048576 < na
  · go_enter Try.func7, Try.ntmps7
    go_wp2
    go_ret
    exact ⟨rfl, Below.refl _ _⟩
  go_enter Try.func7, Try.ntmps7
  go_wp2_with fail
  refine (drawLogConfig_any A na ca zs0 _ h).mono ?_
  rintro e wd ⟨B, m, cc, fl, k, s, rfl, hD, ⟨hm, hk1, hk4, hs0, hs2⟩, hbd⟩
  have hbz := hbd.size
  have hDm := hD.max
  have hDc := hD.cap
  have HD := Lib.hid hD
  clear hD
  obtain ⟨v, hv⟩ : ∃ v, cfgB fl k m s = v := ⟨_, rfl⟩
  have HV := Lib.hid hv
  clear hv
  go_wp2_with fail
  refine (implLogConfig_is B m cc fl k _ _ HD.out.row (Nat.le_refl _) HD.out.len (by omega) s HV.out).mono ?_
  rintro e w1 ⟨rfl, hb1⟩
  have hz1 := hb1.size
  have R1 := Lib.hid (HD.out.row.below hb1)
  have hbw1 := hbd.trans (hb1.mono hbz)
  clear hbd hb1
  go_wp2_with fail
  refine (specLogConfig_is B m cc fl k _ _ R1.out hz1 HD.out.len (by omega) s HV.out).mono ?_
  rintro e w2 ⟨rfl, hb2⟩
  have hz2 := hb2.size
  have R2 := Lib.hid (R1.out.keep fun p hp => hb2.cell (Nat.lt_of_lt_of_le hp hz1))
  have hbw2 := hbw1.trans (hb2.mono (by omega))
  clear hbw1 hb2 R1
  by_cases h0 : v = 0
  · subst h0
    go_wp2_with fail
    refine (specLogConfig_is B m cc fl k _ _ R2.out (by omega) HD.out.len (by omega) s HV.out).mono ?_
    rintro e w3 ⟨rfl, hb3⟩
    go_wp2
    go_ret
    exact ⟨rfl, hbw2.trans (hb3.mono (by omega))⟩
  have hv0 : (v == 0) = false := by simpa using h0
  obtain ⟨hlg, s0, s1, hvc⟩ := cfg_nz HV.out h0
  have HL := Lib.hid hlg
  have HC := Lib.hid hvc
  clear hlg hvc h0
  by_cases hs00 : s = 0
  · have hv1 : v = 1 := by rw [HC.out, hs00]; simp [stopAt, cfgTo]
    subst hv1
    have hsb : (s == 0) = true := by simpa using hs00
    clear hs00
    go_wp2
    go_ret
    exact ⟨rfl, hbw2⟩
  have hsb : (s == 0) = false := by simpa using hs00
  have hq : cfgB fl k m (s - 1) = cfgTo fl (stopAt m (s - 1)) := cfg_yes HL.out (inB_true (by omega) (by omega))
  obtain ⟨u, hu⟩ : ∃ u, cfgTo fl (stopAt m (s - 1)) = u := ⟨_, rfl⟩
  rw [hu] at hq
  have HQ := Lib.hid hq
  have HU := Lib.hid hu
  have hs01 : 1 ≤ s := by omega
  clear hq hu hs00
  have HS := Lib.hid (row_src R2.out HD.out.len)
  go_wp2_with fail
  refine (implLogConfig_is B m cc fl k _ _ R2.out (by omega) HD.out.len (by omega) (s - 1) HQ.out).mono ?_
  rintro e w3 ⟨rfl, hb3⟩
  by_cases h1 : s = 1
  · have hvu : v = u := by rw [HC.out, ← HU.out, h1]; simp [stopAt]
    subst hvu
    subst h1
    go_wp2
    go_ret
    exact ⟨by first | rfl | (apply ret_bool; simp), hbw2.trans (hb3.mono (by omega))⟩
  · obtain ⟨j, hj⟩ : ∃ j : Nat, s - 2 = (j : Int) := ⟨(s - 2).toNat, by omega⟩
    have hjm : j < m := by omega
    have e1 : stopAt m s = j + 1 := by unfold stopAt; omega
    have e2 : stopAt m (s - 1) = j := by unfold stopAt; omega
    have hvv : v = if 0 < fC fl j then fC fl j else u := by rw [HC.out, e1, ← HU.out, e2]; rfl
    have HVV := Lib.hid hvv
    obtain ⟨b, off, rfl, hb, hc0, hc1⟩ := HS.out j hjm
    have c1 := (hb3.cell (p := ⟨b, off + j * 2 + 1, none⟩) (Nat.lt_of_lt_of_le hb (Nat.le_trans hz1 hz2))).trans hc1
    have i1 : (j : Int) < m := by omega
    clear hvv e1 e2 hc0 hc1
    by_cases hq : 0 < fC fl j
    · have hvv := HVV.out
      rw [if_pos hq] at hvv
      subst hvv
      go_wp2
      go_ret
      exact ⟨by first | rfl | (apply ret_bool; simp), hbw2.trans (hb3.mono (by omega))⟩
    · have hvv := HVV.out
      rw [if_neg hq] at hvv
      subst hvv
      go_wp2
      go_ret
      exact ⟨by first | rfl | (apply ret_bool; simp), hbw2.trans (hb3.mono (by omega))⟩
end Go.Proofs.Ytijilikkdnpbmaa
