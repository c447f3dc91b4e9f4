/- The law FnChooseOrder: its walk. -/
import Derived.Test.YtcoibgnckkjpbaaChR
namespace Go.Proofs.Ytcoibgnckkjpbaa
open Go.RowKit
set_option maxHeartbeats 4000000
set_option linter.unusedVariables false

theorem chooseOrder_walk (A : Option Addr) (na ca : Nat) (zs0 : List Int) (w : World) (h : Ints .u8 w A na ca zs0) : Calls Try.prog 13 #[.slice A na ca] w fun e w' => e = .returned (.bool true) ∧ Below w.heap.size w w' := by
  have hmx := h.max
  unfold maxLen at hmx
  by_cases hl : 1048576 < na
  · go_enter Try.func13, Try.ntmps13
    go_wp2
    go_ret
    exact ⟨rfl, Below.refl _ _⟩
  go_enter Try.func13, Try.ntmps13
  go_wp2_with fail
  refine (drawChoose_any A na ca zs0 _ h).mono ?_
  rintro e wd ⟨B, m, cc, fl, o, rfl, hD, ⟨hm, ho1, ho2⟩, hbd⟩
  have hbz := hbd.size
  have hDm := hD.max
  have hDc := hD.cap
  have HD := Lib.hid hD
  clear hD
  obtain ⟨r, hr⟩ : ∃ r, chV fl m o = r := ⟨_, rfl⟩
  obtain ⟨q, hq⟩ : ∃ q, chB fl m o = q := ⟨_, rfl⟩
  have HR := Lib.hid hr
  have HQ := Lib.hid hq
  clear hr hq
  go_wp2_with fail
  refine (specChoose_is B m cc fl o _ _ HD.out.row (Nat.le_refl _) HD.out.len (by omega) HR.out HQ.out).mono ?_
  rintro e wa ⟨rfl, hba⟩
  have hza := hba.size
  have R1 := Lib.hid (HD.out.row.below hba)
  have hbwa := hbd.trans (hba.mono hbz)
  clear hbd hba
  go_wp2_with fail
  refine (implChoose_is B m cc fl o _ _ R1.out hza HD.out.len (by omega) HR.out HQ.out).mono ?_
  rintro e wb ⟨rfl, hbb⟩
  have hzb := hbb.size
  have R2 := Lib.hid (R1.out.keep fun p hp => hbb.cell (Nat.lt_of_lt_of_le hp hza))
  have hbwb := hbwa.trans (hbb.mono (by omega))
  clear hbwa hbb R1
  cases q
  · go_wp2
    go_ret
    exact ⟨by first | rfl | (apply ret_bool; simp), hbwb⟩
  have HV := Lib.hid (show r = bestV fl o m by rw [← HR.out]; simp [chV, HQ.out])
  have HS := Lib.hid (rec_src R2.out HD.out.len)
  have HOK : inB o 1 99 = true ∧ accTo fl m = true := by
    have := HQ.out
    simp only [chB, Bool.and_eq_true] at this
    exact this
  have HO := Lib.hid HOK
  clear HOK
  go_wp2_with fail
  go_loopw [9, 10] (fun u i wr => ∃ t : Nat, t ≤ m ∧ i = .int .i64 ((t : Int) - 1) ∧ OwnR wr wb.heap.size u (m - t) (revTo fl m (m - t)) ∧ (∀ i k, k < i → i < m → t ≤ i → ¬ (fl.getD (k * 3 + 1) 0 = fl.getD (i * 3 + 1) 0 ∧ 0 < fl.getD (i * 3 + 1) 0)) ∧ Below wb.heap.size wb wr) (fun _ i _ => (intOf i + 1).toNat)
  case atStart => exact ⟨m, Nat.le_refl _, rfl, by rw [Nat.sub_self]; exact ownr_empty wb (Nat.le_refl _), fun i k h1 h2 h3 => by omega, (Below.refl _ _).alloc (Nat.le_refl _) _⟩
  case round =>
    obtain ⟨t, ht, rfl, hown, hd, hB⟩ := hrel
    have hsz := hB.size
    have HDt := Lib.hid hd
    clear hd
    rcases t with _ | s
    · have e0 : ((0 : Nat) : Int) - 1 = -1 := by omega
      rw [e0]
      clear e0
      rw [Nat.sub_zero] at hown
      obtain ⟨B5, c5, rfl, _, _, hA5⟩ := ownr_form hown
      have HX := Lib.hid (ownr_dlog hown hA5)
      have HW := Lib.hid (show chV (revTo fl m m) m o = r by
        simp only [chV, chB, HO.out.1, rev_acc HO.out.2, Bool.and_self, if_true]
        rw [rev_val fl o m (fun i k h1 h2 => HDt.out i k h1 h2 (Nat.zero_le _)), HV.out])
      have HWB := Lib.hid (show chB (revTo fl m m) m o = true by simp only [chB, HO.out.1, rev_acc HO.out.2, Bool.and_self])
      clear hown hA5
      go_wp2_with fail
      refine (implChoose_is B5 m c5 (revTo fl m m) o _ _ HX.out.row (Nat.le_refl _) HX.out.len (by omega) HW.out HWB.out).mono ?_
      rintro e wc ⟨rfl, hbc⟩
      go_wp2
      go_ret
      exact ⟨by first | rfl | (apply ret_bool; simp), (hbwb.trans (hB.mono (by omega))).trans (hbc.mono (by omega))⟩
    · have e0 : ((s + 1 : Nat) : Int) - 1 = (s : Int) := by omega
      rw [e0]
      clear e0
      have hsm : s < m := by omega
      obtain ⟨b, off, rfl, hb, d0, d1, d2⟩ := HS.out s hsm
      have hb' : b < wb.heap.size := by omega
      have c0 := (hB.cell (p := ⟨b, off + s * 3, none⟩) hb').trans d0
      have c1 := (hB.cell (p := ⟨b, off + s * 3 + 1, none⟩) hb').trans d1
      have c2 := (hB.cell (p := ⟨b, off + s * 3 + 2, none⟩) hb').trans d2
      have HR1 := Lib.hid (show revTo fl m (m - (s + 1) + 1) = revTo fl m (m - (s + 1)) ++ [fl.getD (s * 3) 0, fl.getD (s * 3 + 1) 0, fl.getD (s * 3 + 2) 0] by
        simp only [revTo]
        rw [show m - 1 - (m - (s + 1)) = s by omega])
      have HE := Lib.hid (show m - (s + 1) + 1 = m - s by omega)
      obtain ⟨n1, hn1⟩ : ∃ n1, m - (s + 1) = n1 := ⟨_, rfl⟩
      rw [hn1] at hown HR1 HE
      have hn1' : n1 ≤ m := by omega
      clear hn1 d0 d2
      have HA1 := Lib.hid d1
      clear d1
      have i1 : (s : Int) < m := by omega
      obtain ⟨p, hp⟩ : ∃ p, fl.getD (s * 3) 0 = p := ⟨_, rfl⟩
      obtain ⟨a, ha⟩ : ∃ a, fl.getD (s * 3 + 1) 0 = a := ⟨_, rfl⟩
      obtain ⟨v, hv⟩ : ∃ v, fl.getD (s * 3 + 2) 0 = v := ⟨_, rfl⟩
      rw [hp] at c0 HR1
      rw [ha] at c1 HR1 HA1
      rw [hv] at c2 HR1
      have HAA := Lib.hid ha
      clear hp ha hv
      go_wp2_with (at_builtin; refine wpl_append_rec rfl _ _ (by rfl) wb.heap.size _ _ _ _ _ _ (by rfl) hown (by rfl) (by omega) hsz ?_; intro v' w1 hown1 hb1 hgr1 hat1; clear hgr1 hat1)
      have hs1 := hb1.size
      have hbw1 := hB.trans hb1
      clear c0 c1 c2 hown
      have HOW := Lib.hid hown1
      clear hown1
      go_loopw [11] (fun kv wx => ∃ (k x : Nat), k ≤ s ∧ kv = .int .i64 (k : Int) ∧ wx = w1.drewN x ∧ ∀ k', k' < k → ¬ (fl.getD (k' * 3 + 1) 0 = a ∧ 0 < a)) (fun kv _ => s - (intOf kv).toNat)
      case atStart => exact ⟨0, 0, Nat.zero_le _, rfl, rfl, fun k' h => by omega⟩
      case round =>
        obtain ⟨k, x, hk, rfl, rfl, hno⟩ := hrel
        have HNO := Lib.hid hno
        clear hno
        by_cases hks : k < s
        · obtain ⟨b3, off3, e3, hb3, d0, d1, d2⟩ := HS.out k (by omega)
          cases e3
          have c1 := (hbw1.cell (p := ⟨b, off + s * 3 + 1, none⟩) hb').trans HA1.out
          have c3 := (hbw1.cell (p := ⟨b, off + k * 3 + 1, none⟩) hb').trans d1
          clear d0 d1 d2
          obtain ⟨a3, ha3⟩ : ∃ a3, fl.getD (k * 3 + 1) 0 = a3 := ⟨_, rfl⟩
          rw [ha3] at c3
          have HA3 := Lib.hid ha3
          clear ha3
          have i2 : (k : Int) < m := by omega
          have i3 : (k : Int) < s := by omega
          have i4 : (0 : Int) ≤ (k : Int) := by omega
          have i5 : (0 : Int) ≤ (s : Int) := by omega
          rcases (show (a3 = a ∧ 0 < a) ∨ (a3 = a ∧ ¬ 0 < a) ∨ ¬ a3 = a by omega) with ⟨rfl, hq⟩ | ⟨rfl, hq⟩ | hq
          · have q1 : decide ((0 : Int) < a3) = true := by simpa using hq
            go_wp2
            go_quiet (fail)
            go_wp2
            go_ret
            exact ⟨rfl, below_drewN (below_drewN (hbwb.trans (hbw1.mono (by omega))) _) _⟩
          · have q1 : decide ((0 : Int) < a3) = false := by simpa using hq
            go_wp2
            go_quiet (fail)
            go_wp2
            go_roundw
            case rel => exact ⟨k + 1, _, by omega, by go_num, rfl, fun k' hk' hh => by
              by_cases e : k' = k
              · omega
              · exact HNO.out k' (by omega) hh⟩
            case measure => simp [intOf]; omega
          · have q1 : (a3 == a) = false := by simpa using hq
            go_wp2
            go_quiet (fail)
            go_wp2
            go_roundw
            case rel => exact ⟨k + 1, _, by omega, by go_num, rfl, fun k' hk' hh => by
              by_cases e : k' = k
              · subst e
                rw [HA3.out] at hh
                exact hq hh.1
              · exact HNO.out k' (by omega) hh⟩
            case measure => simp [intOf]; omega
        · obtain rfl : k = s := by omega
          go_wp2
          go_roundw
          case rel =>
            refine ⟨k, by omega, by first | rfl | go_num, ?_, ?_, below_drewN hbw1 _⟩
            · rw [← HE.out, HR1.out]; exact HOW.out
            · intro i k' h1 h2 h3 hh
              by_cases e : i = k
              · subst e
                rw [HAA.out] at hh
                exact HNO.out k' h1 hh
              · exact HDt.out i k' h1 h2 (by omega) hh
          case measure => first | (simp [intOf]; done) | (simp [intOf]; omega)
end Go.Proofs.Ytcoibgnckkjpbaa
