/- FamilyValid, the reference's. -/
import Derived.Test.YtafhpbghogdipaaGreatDoorFam1
import Derived.Test.YtafhpbghogdipaaGreatDoorSet5
namespace Go.Proofs.YtafhpbghogdipaaGreatDoor
open Go.RowKit
set_option maxHeartbeats 4000000

theorem specFamily_any (A : Option Addr) (n c : Nat) (zss : List (List Int)) (w : World) (h : Mat w w.heap.size A n zss) (hz : SzOk zss n) : Calls Tryz.prog 19 #[.slice A n c] w fun e w' => e = .returned (.bool (famB zss)) ∧ ∃ m, w' = w.drewN m := by
  have hn1 := hz.1
  have HM := Lib.hid h
  have HZ := Lib.hid hz
  have HL := Lib.hid h.len
  clear h hz
  obtain ⟨r, hr⟩ : ∃ r, r = famB zss := ⟨_, rfl⟩
  rw [← hr]
  have HR := Lib.hid hr
  clear hr
  go_enter Tryz.func19, Tryz.ntmps19
  go_wp2
  go_loopw [3] (fun i wr => ∃ k m : Nat, k ≤ n ∧ i = .int .i64 k ∧ wr = w.drewN m ∧ famTo zss k = true) (fun i _ => n - (intOf i).toNat)
  case atStart => exact ⟨0, 0, Nat.zero_le _, rfl, rfl, rfl⟩
  case round =>
    obtain ⟨k, m, hk, rfl, hw, hto⟩ := hrel
    have HMr := Lib.hid (show Mat wr wr.heap.size A n zss by rw [hw]; exact HM.out.drewN m)
    have HW := Lib.hid hw
    clear hw
    have HT := Lib.hid hto
    clear hto
    by_cases hkn : k < n
    · have i1 : (k : Int) < n := by omega
      have hkl : k < zss.length := by rw [HL.out]; exact hkn
      obtain ⟨b, off, C, cc, g⟩ := HMr.out.get hkn
      have G := Lib.hid g
      obtain rfl := g.adr
      have hcell := g.cell
      have HSV := Lib.hid (fun (q : Nat) => specSetValid_any C (ln zss k) cc (rw_ zss k) (wr.drewN q) g.row rfl (HZ.out.2 k hkn))
      have HM1p := Lib.hid (fun (hs : setB (rw_ zss k) = true) (q : Nat) => l1Mask_any C (ln zss k) cc (rw_ zss k) (wr.drewN q) g.row rfl (HZ.out.2 k hkn) hs)
      have HBad := Lib.hid (fun h => fam_bad (zss := zss) hkl h)
      have HRow := Lib.hid (@rowA_of zss k)
      have HNext := Lib.hid (show famTo zss (k + 1) = (famTo zss k && rowA zss k) from rfl)
      clear g
      obtain ⟨p, hp⟩ : ∃ p, setB (rw_ zss k) = p := ⟨_, rfl⟩
      rw [hp] at HSV
      have HP := Lib.hid hp
      clear hp
      have HPs : Hid (sAt zss k = p) := HP
      cases p
      · have HF : Hid (r = false) := by rw [HR.out]; exact HBad.out (by rw [HRow.out, HPs.out]; rfl)
        clear HM1p
        go_wp2
        go_quiet ((go_at_call 34; exact Calls.quiet_of (HSV.out _)))
        go_wp2
        go_ret
        exact ⟨ret_bool' HF.out.symm, _, by rw [HW.out, World.drewN_drewN]⟩
      · have HM1 := Lib.hid (HM1p.out HP.out)
        clear HM1p
        have hmk : sumTo (rw_ zss k) (rw_ zss k).length = mAt zss k := rfl
        have hm0 : (mAt zss k == 0) = (ln zss k == 0) := mk_zero (rw_ zss k)
        rw [hmk] at HM1
        have HMZ := Lib.hid hm0
        clear hmk hm0
        have h64 := m_small (zss := zss) (k := k) HP.out
        obtain ⟨M, hM⟩ : ∃ M, M = mAt zss k := ⟨_, rfl⟩
        rw [← hM] at h64 HM1
        have HMk := Lib.hid hM
        clear hM
        by_cases hl0 : ln zss k = 0
        · have HF : Hid (r = false) := by rw [HR.out]; exact HBad.out (by rw [HRow.out, HPs.out, HMZ.out, hl0]; rfl)
          rw [hl0] at hcell HSV
          clear HM1 hl0
          go_wp2
          go_quiet ((go_at_call 34; exact Calls.quiet_of (HSV.out _)))
          go_wp2
          go_ret
          exact ⟨ret_bool' HF.out.symm, _, by rw [HW.out, World.drewN_drewN]⟩
        · have hl1 : ((ln zss k : Nat) == 0) = false := by simpa using hl0
          have hl2 : (((ln zss k : Nat) : Int) == 0) = false := by simp; omega
          have HMZ2 : Hid ((M == 0) = false) := by rw [HMk.out, HMZ.out]; exact hl1
          by_cases hk0 : k = 0
          · have hd : decide ((0 : Int) < k) = false := by simp; omega
            have hd0 : decide (0 < k) = false := by simp; omega
            have HOrd : Hid (k = 0 ∨ mAt zss (k - 1) < mAt zss k) := .inl hk0
            have ho : (k == 0 || decide (mAt zss (k - 1) < M)) = true := by rw [hk0]; rfl
            have HO := Lib.hid ho
            clear ho
            clear hk0
            go_wp2
            go_quiet (first | (go_at_call 34; exact Calls.quiet_of (HSV.out _)) | (go_at_call 35; first | with_reducible exact Calls.quiet_of_same (HM1.out _) | with_reducible exact Calls.quiet_of_same (HM0.out _)))
            go_wp2
            go_loopw [4] (fun j wr2 => ∃ jj m2 : Nat, jj ≤ k ∧ j = .int .i64 jj ∧ wr2 = w.drewN m2 ∧ anyTo (mAt zss) M jj = false) (fun j _ => k - (intOf j).toNat)
            case atStart => exact ⟨0, _, Nat.zero_le _, rfl, by rw [HW.out, World.drewN_drewN], rfl⟩
            case round =>
              obtain ⟨jj, m2, hjk, rfl, hw2, hno⟩ := hrel
              have HMs := HM.out.drewN m2
              rw [← hw2] at HMs
              have HW2 := Lib.hid hw2
              clear hw2
              have HN := Lib.hid hno
              clear hno
              by_cases hj : jj < k
              · have i2 : (jj : Int) < k := by omega
                obtain ⟨b2, off2, C2, cc2, g2⟩ := HMs.get (k := jj) (by omega)
                obtain ⟨b1, off1, C1, cc1, g1⟩ := HMs.get (k := k) hkn
                have G1 := Lib.hid g1
                cases g1.adr
                have hcell1 := g1.cell
                have G2 := Lib.hid g2
                cases g2.adr
                have hcell2 := g2.cell
                have i3 : (jj : Int) < n := by omega
                have HS1 := Lib.hid (fun (q : Nat) => l1Subset_any C2 (ln zss jj) cc2 (rw_ zss jj) C1 (ln zss k) cc1 (rw_ zss k) (wr.drewN q) w.heap.size g2.row rfl (HZ.out.2 jj (by omega)) g1.row rfl (HZ.out.2 k hkn))
                have HS2 := Lib.hid (fun (q : Nat) => l1Subset_any C1 (ln zss k) cc1 (rw_ zss k) C2 (ln zss jj) cc2 (rw_ zss jj) (wr.drewN q) w.heap.size g1.row rfl (HZ.out.2 k hkn) g2.row rfl (HZ.out.2 jj (by omega)))
                have hb1 : subB (rw_ zss k) (rw_ zss jj) = false := no_back HT.out HP.out HOrd.out hj
                have hb2 : subB (rw_ zss jj) (rw_ zss k) = inM (mAt zss jj) M := by rw [HMk.out]; exact sub_at HP.out (fam_set hj HT.out)
                rw [hb1] at HS2
                rw [hb2] at HS1
                have HX := Lib.hid (show anyTo (mAt zss) M (jj + 1) = (anyTo (mAt zss) M jj || inM (mAt zss jj) M) from rfl)
                have HY := Lib.hid (fun h : inM (mAt zss jj) M = true => any_is (g := mAt zss) (m := M) hj h)
                clear g1 g2 hb1 hb2 HMs
                obtain ⟨q, hq⟩ : ∃ q, q = inM (mAt zss jj) M := ⟨_, rfl⟩
                rw [← hq] at HS1 HX HY
                clear hq
                cases q
                · go_wp2
                  go_quiet ((go_at_call 36; first | with_reducible exact Calls.quiet_of_same (HS1.out _) | with_reducible exact Calls.quiet_of_same (HS2.out _)))
                  go_wp2
                  go_roundw
                  case rel => exact ⟨jj + 1, _, by omega, by go_num, by rw [HW2.out, World.drewN_drewN], by rw [HX.out, HN.out]; rfl⟩
                  case measure => simp [intOf]; omega
                · have HF : Hid (r = false) := by rw [HR.out]; exact HBad.out (by rw [HRow.out, ← HMk.out, HY.out rfl]; simp)
                  go_wp2
                  go_quiet ((go_at_call 36; first | with_reducible exact Calls.quiet_of_same (HS1.out _) | with_reducible exact Calls.quiet_of_same (HS2.out _)))
                  go_wp2
                  go_ret
                  exact ⟨ret_bool' HF.out.symm, _, by rw [HW2.out, World.drewN_drewN]⟩
              · obtain rfl : jj = k := by omega
                have HW : Hid (rowA zss jj = true) := by rw [HRow.out, HPs.out, ← HMk.out, HN.out, HMZ2.out, HO.out]; rfl
                go_wp2
                go_roundw
                case rel => exact ⟨jj + 1, m2, by omega, by go_num, HW2.out, by rw [HNext.out, HT.out, HW.out]; rfl⟩
                case measure => simp [intOf]; omega
          · have hd : decide ((0 : Int) < k) = true := by simp; omega
            have hd0 : decide (0 < k) = true := by simp; omega
            obtain ⟨b0, off0, C0, cc0, g0⟩ := HMr.out.get (k := k - 1) (by omega)
            cases g0.adr
            have hcell0 := g0.cell
            have HM0 := Lib.hid (fun (q : Nat) => l1Mask_any C0 (ln zss (k - 1)) cc0 (rw_ zss (k - 1)) (wr.drewN q) g0.row rfl (HZ.out.2 (k - 1) (by omega)) (fam_set (by omega) HT.out))
            have hmk : sumTo (rw_ zss (k - 1)) (rw_ zss (k - 1)).length = mAt zss (k - 1) := rfl
            rw [hmk] at HM0
            clear hmk g0
            have h640 := m_small (zss := zss) (k := k - 1) (fam_set (by omega) HT.out)
            obtain ⟨U, hU⟩ : ∃ U, U = mAt zss (k - 1) := ⟨_, rfl⟩
            rw [← hU] at HM0 h640
            have HU := Lib.hid hU
            clear hU
            have j1 : IntKind.i64.wrap ((k : Int) - 1) = (k : Int) - 1 := IntWalk.i64_in _ (by omega)
            have j2 : (0 : Int) ≤ (k : Int) - 1 := by omega
            have j2' : (1 : Int) ≤ (k : Int) := by omega
            have j3 : ((k : Int) - 1).toNat = k - 1 := by omega
            have j4 : (k : Int) - 1 < n := by omega
            by_cases huv : U < M
            · have hd2 : decide ((M : Int) ≤ U) = false := by simp; omega
              have hd3 : decide (M ≤ U) = false := by simp; omega
              have HOrd : Hid (k = 0 ∨ mAt zss (k - 1) < mAt zss k) := .inr (by rw [← HMk.out, ← HU.out]; exact huv)
              have ho : (k == 0 || decide (mAt zss (k - 1) < M)) = true := by rw [← HU.out]; simp [huv]
              have HO := Lib.hid ho
              clear ho
              clear hk0 huv
              go_wp2
              go_quiet (first | (go_at_call 34; exact Calls.quiet_of (HSV.out _)) | (go_at_call 35; first | with_reducible exact Calls.quiet_of_same (HM1.out _) | with_reducible exact Calls.quiet_of_same (HM0.out _)))
              clear j1 j2 j3 j4
              go_wp2
              go_loopw [4] (fun j wr2 => ∃ jj m2 : Nat, jj ≤ k ∧ j = .int .i64 jj ∧ wr2 = w.drewN m2 ∧ anyTo (mAt zss) M jj = false) (fun j _ => k - (intOf j).toNat)
              case atStart => exact ⟨0, _, Nat.zero_le _, rfl, by rw [HW.out, World.drewN_drewN], rfl⟩
              case round =>
                obtain ⟨jj, m2, hjk, rfl, hw2, hno⟩ := hrel
                have HMs := HM.out.drewN m2
                rw [← hw2] at HMs
                have HW2 := Lib.hid hw2
                clear hw2
                have HN := Lib.hid hno
                clear hno
                by_cases hj : jj < k
                · have i2 : (jj : Int) < k := by omega
                  obtain ⟨b2, off2, C2, cc2, g2⟩ := HMs.get (k := jj) (by omega)
                  obtain ⟨b1, off1, C1, cc1, g1⟩ := HMs.get (k := k) hkn
                  have G1 := Lib.hid g1
                  cases g1.adr
                  have hcell1 := g1.cell
                  have G2 := Lib.hid g2
                  cases g2.adr
                  have hcell2 := g2.cell
                  have i3 : (jj : Int) < n := by omega
                  have HS1 := Lib.hid (fun (q : Nat) => l1Subset_any C2 (ln zss jj) cc2 (rw_ zss jj) C1 (ln zss k) cc1 (rw_ zss k) (wr.drewN q) w.heap.size g2.row rfl (HZ.out.2 jj (by omega)) g1.row rfl (HZ.out.2 k hkn))
                  have HS2 := Lib.hid (fun (q : Nat) => l1Subset_any C1 (ln zss k) cc1 (rw_ zss k) C2 (ln zss jj) cc2 (rw_ zss jj) (wr.drewN q) w.heap.size g1.row rfl (HZ.out.2 k hkn) g2.row rfl (HZ.out.2 jj (by omega)))
                  have hb1 : subB (rw_ zss k) (rw_ zss jj) = false := no_back HT.out HP.out HOrd.out hj
                  have hb2 : subB (rw_ zss jj) (rw_ zss k) = inM (mAt zss jj) M := by rw [HMk.out]; exact sub_at HP.out (fam_set hj HT.out)
                  rw [hb1] at HS2
                  rw [hb2] at HS1
                  have HX := Lib.hid (show anyTo (mAt zss) M (jj + 1) = (anyTo (mAt zss) M jj || inM (mAt zss jj) M) from rfl)
                  have HY := Lib.hid (fun h : inM (mAt zss jj) M = true => any_is (g := mAt zss) (m := M) hj h)
                  clear g1 g2 hb1 hb2 HMs
                  obtain ⟨q, hq⟩ : ∃ q, q = inM (mAt zss jj) M := ⟨_, rfl⟩
                  rw [← hq] at HS1 HX HY
                  clear hq
                  cases q
                  · go_wp2
                    go_quiet ((go_at_call 36; first | with_reducible exact Calls.quiet_of_same (HS1.out _) | with_reducible exact Calls.quiet_of_same (HS2.out _)))
                    go_wp2
                    go_roundw
                    case rel => exact ⟨jj + 1, _, by omega, by go_num, by rw [HW2.out, World.drewN_drewN], by rw [HX.out, HN.out]; rfl⟩
                    case measure => simp [intOf]; omega
                  · have HF : Hid (r = false) := by rw [HR.out]; exact HBad.out (by rw [HRow.out, ← HMk.out, HY.out rfl]; simp)
                    go_wp2
                    go_quiet ((go_at_call 36; first | with_reducible exact Calls.quiet_of_same (HS1.out _) | with_reducible exact Calls.quiet_of_same (HS2.out _)))
                    go_wp2
                    go_ret
                    exact ⟨ret_bool' HF.out.symm, _, by rw [HW2.out, World.drewN_drewN]⟩
                · obtain rfl : jj = k := by omega
                  have HW : Hid (rowA zss jj = true) := by rw [HRow.out, HPs.out, ← HMk.out, HN.out, HMZ2.out, HO.out]; rfl
                  go_wp2
                  go_roundw
                  case rel => exact ⟨jj + 1, m2, by omega, by go_num, HW2.out, by rw [HNext.out, HT.out, HW.out]; rfl⟩
                  case measure => simp [intOf]; omega
            · have hd2 : decide ((M : Int) ≤ U) = true := by simp; omega
              have hd3 : decide (M ≤ U) = true := by simp; omega
              have HF : Hid (r = false) := by rw [HR.out]; exact HBad.out (by rw [HRow.out, HPs.out, ← HMk.out, ← HU.out]; simp [hk0]; omega)
              clear hk0 huv
              go_wp2
              go_quiet (first | (go_at_call 34; exact Calls.quiet_of (HSV.out _)) | (go_at_call 35; first | with_reducible exact Calls.quiet_of_same (HM1.out _) | with_reducible exact Calls.quiet_of_same (HM0.out _)))
              go_wp2
              go_ret
              exact ⟨ret_bool' HF.out.symm, _, by rw [HW.out, World.drewN_drewN]⟩
    · obtain rfl : k = n := by omega
      have hr2 : r = decide (k ≤ 20) := by rw [HR.out, famB, HL.out, HT.out, Bool.and_true]
      have HF := Lib.hid hr2
      clear hr2
      by_cases h20 : k ≤ 20
      · go_wp2
        go_ret
        exact ⟨ret_bool' (by rw [HF.out]; simp [h20]; omega), _, HW.out⟩
      · go_wp2
        go_ret
        exact ⟨ret_bool' (by rw [HF.out]; simp [h20]; omega), _, HW.out⟩
end Go.Proofs.YtafhpbghogdipaaGreatDoor
