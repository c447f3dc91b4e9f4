/- The law FnLogValues: its walk. -/
import Derived.Test.YtijilikkdnpbmaaLog8
namespace Go.Proofs.Ytijilikkdnpbmaa
open Go.RowKit
set_option maxHeartbeats 4000000
set_option linter.unusedVariables false

theorem logValues_walk (A : Option Addr) (na ca : Nat) (zs0 : List Int) (w : World) (h : Ints .u8 w A na ca zs0) : Calls Try.prog 9 #[.slice A na ca] w fun e w' => e = .returned (.bool true) ∧ Below w.heap.size w w' := by
  have hmx := h.max
  unfold maxLen at hmx
  by_cases hl : 1048576 < na
  · go_enter Try.func9, Try.ntmps9
    go_wp2
    go_ret
    exact ⟨rfl, Below.refl _ _⟩
  go_enter Try.func9, Try.ntmps9
  go_wp2_with fail
  refine (drawLogValues_any A na ca zs0 _ h).mono ?_
  rintro e wd ⟨B, m, cc, fl, k, rfl, hD, ⟨hm, hk0, hk6⟩, hbd⟩
  have hbz := hbd.size
  have hDm := hD.max
  have hDc := hD.cap
  have HD := Lib.hid hD
  clear hD
  obtain ⟨zs, hz⟩ : ∃ zs, lvB fl k m = zs := ⟨_, rfl⟩
  have HZ := Lib.hid hz
  clear hz
  have hzl : zs.length ≤ 9 := by
    rw [← HZ.out]
    unfold lvB
    split
    · have := vals_len fl m; omega
    · simp
  go_wp2_with fail
  refine (implLogValues_any B m cc fl k _ _ HD.out.row (Nat.le_refl _) HD.out.len (by omega)).mono ?_
  rintro e wa ⟨v, rfl, hown, hba⟩
  rw [HZ.out] at hown
  obtain ⟨Ai, ci, rfl, hci, hmi, hri⟩ := owns_row hown
  unfold maxLen at hmi
  have HI := Lib.hid hri
  have hza := hba.size
  have R1 := Lib.hid (HD.out.row.below hba)
  have hbwa := hbd.trans (hba.mono hbz)
  clear hbd hba hown hri
  go_wp2_with fail
  refine (specLogValues_any B m cc fl k _ _ R1.out hza HD.out.len (by omega)).mono ?_
  rintro e wb ⟨v, rfl, hown, hbb⟩
  rw [HZ.out] at hown
  obtain ⟨As, cs, rfl, hcs, hms, hrs⟩ := owns_row hown
  unfold maxLen at hms
  have HSp := Lib.hid hrs
  have hzb := hbb.size
  have R2 := Lib.hid (R1.out.keep fun p hp => hbb.cell (Nat.lt_of_lt_of_le hp hza))
  have HI2 := Lib.hid (HI.out.below hbb)
  have hbwb := hbwa.trans (hbb.mono (by omega))
  clear hbwa hbb R1 hown hrs
  go_wp2_with fail
  refine (sameInts_same Ai As _ ci cs zs wb _ _ HI2.out HSp.out rfl (by omega)).mono ?_
  rintro e wc ⟨rfl, x, hx⟩
  have hbc : Below wb.heap.size wb wc := by rw [hx]; exact below_drewN (Below.refl _ _) x
  have hzc := hbc.size
  have R3 := Lib.hid (R2.out.keep (w' := wc) fun p hp => hbc.cell (Nat.lt_of_lt_of_le hp (by omega)))
  have HI3 := Lib.hid (HI2.out.keep (w' := wc) fun p hp => hbc.cell (Nat.lt_of_lt_of_le hp (by omega)))
  have hbwc := hbwb.trans (hbc.mono (by omega))
  clear hx hbc R2 HI2 HSp hbwb
  obtain ⟨q, hq⟩ : ∃ q, logB fl k m = q := ⟨_, rfl⟩
  have HQ := Lib.hid hq
  clear hq
  go_wp2_with fail
  refine (specLogValid_is B m cc fl k _ _ R3.out (by omega) HD.out.len (by omega) HQ.out).mono ?_
  rintro e we ⟨rfl, hbe⟩
  have hze := hbe.size
  have R4 := Lib.hid (R3.out.keep (w' := we) fun p hp => hbe.cell (Nat.lt_of_lt_of_le hp (by omega)))
  have HI4 := Lib.hid (HI3.out.keep (w' := we) fun p hp => hbe.cell (Nat.lt_of_lt_of_le hp (by omega)))
  have hbwe := hbwc.trans (hbe.mono (by omega))
  clear hbe R3 HI3 hbwc
  cases q
  · go_wp2_with fail
    refine (specLogValues_any B m cc fl k _ _ R4.out (by omega) HD.out.len (by omega)).mono ?_
    rintro e wf ⟨v, rfl, hown, hbf⟩
    rw [HZ.out] at hown
    obtain ⟨At, ct, rfl, hct, hmt, hrt⟩ := owns_row hown
    unfold maxLen at hmt
    have HT := Lib.hid hrt
    have HI5 := Lib.hid (HI4.out.keep (w' := wf) fun p hp => hbf.cell (Nat.lt_of_lt_of_le hp (by omega)))
    clear hown hrt
    go_wp2_with fail
    refine (sameInts_same Ai At _ ci ct zs wf _ _ HI5.out HT.out rfl (by omega)).mono ?_
    rintro e wg ⟨rfl, x, rfl⟩
    go_wp2
    go_ret
    exact ⟨rfl, below_drewN (hbwe.trans (hbf.mono (by omega))) _⟩
  have HV := Lib.hid (show zs = valsTo fl m by rw [← HZ.out]; simp [lvB, HQ.out])
  have HS := Lib.hid (row_src R4.out HD.out.len)
  have HIS := Lib.hid (int_src HI4.out rfl)
  go_wp2_with fail
  go_loopw [6, 7] (fun kv i wr => ∃ j x : Nat, j ≤ m ∧ i = .int .i64 j ∧ kv = .int .i64 (((valsTo fl j).length : Nat) : Int) ∧ wr = we.drewN x) (fun _ i _ => m - (intOf i).toNat)
  case atStart => exact ⟨0, 0, Nat.zero_le _, rfl, rfl, rfl⟩
  case round =>
    obtain ⟨j, x, hj, rfl, rfl, rfl⟩ := hrel
    by_cases hjm : j < m
    · obtain ⟨b, off, rfl, hb, d0, d1⟩ := HS.out j hjm
      have c0 : (we.drewN x).cell? ⟨b, off + j * 2, none⟩ = some (.int .i64 (fV fl j)) := d0
      have c1 : (we.drewN x).cell? ⟨b, off + j * 2 + 1, none⟩ = some (.int .i64 (fC fl j)) := d1
      have i1 : (j : Int) < m := by omega
      have i2 : (0 : Int) ≤ (j : Int) := by omega
      have he := ent_iff.1 (ent_at hjm (log_iff HQ.out).2.2.2)
      have hln := vals_len fl j
      rcases (show 0 < fC fl j ∨ fC fl j = 0 by omega) with hc | hc
      · have HN := Lib.hid (show (valsTo fl (j + 1)).length = (valsTo fl j).length by simp only [valsTo, if_neg (show ¬ fC fl j = 0 by omega), List.append_nil])
        clear he
        go_wp2
        go_roundw
        case rel => exact ⟨j + 1, _, by omega, by go_num, by rw [HN.out], rfl⟩
        case measure => simp [intOf]; omega
      · obtain ⟨g1, g2, g3⟩ := vals_at fl hjm hc
        rw [← HV.out] at g1 g2
        obtain ⟨b2, off2, rfl, hb2, dd⟩ := HIS.out _ g1
        rw [g2] at dd
        have HG3 := Lib.hid g3
        obtain ⟨L, hL⟩ : ∃ L, (valsTo fl j).length = L := ⟨_, rfl⟩
        rw [hL] at dd HG3 g1 hln ⊢
        have c2 : (we.drewN x).cell? ⟨b2, off2 + L, none⟩ = some (.int .i64 (fV fl j)) := dd
        obtain ⟨N, hN⟩ : ∃ N, zs.length = N := ⟨_, rfl⟩
        rw [hN] at hzl g1
        have HNN := Lib.hid hN
        rw [hN]
        have i3 : (L : Int) < N := by omega
        have i4 : (0 : Int) ≤ (L : Int) := by omega
        have i5 : decide ((N : Int) ≤ (L : Int)) = false := by simp; omega
        have i6 : decide (N ≤ L) = false := by simp; omega
        have HC := Lib.hid hc
        have q1 : ¬ 0 < fC fl j := by omega
        clear hc he g2 g3 hL hN d0 d1 dd
        generalize fV fl j = v at c0 c2
        generalize fC fl j = cc2 at c1 q1
        have hvv : (v != v) = false := by simp
        go_wp2
        go_region_held3 (fun w' => w'.cell? ⟨b2, off2 + L, none⟩ = some (.int .i64 v) ∧ w'.cell? ⟨b, off + j * 2, none⟩ = some (.int .i64 v)) (exact ⟨c2, c0⟩) (fail)
        go_wp2
        go_roundw
        case rel => exact ⟨j + 1, _, by omega, by go_num, by rw [HG3.out]; go_num, by first | rfl | exact World.drewN_drewN _ _ _ | (exact World.drewN_drewN _ _ 1)⟩
        case measure => simp [intOf]; omega
    · obtain rfl : j = m := by omega
      rw [← HV.out]
      go_wp2
      go_ret
      exact ⟨by first | rfl | (apply ret_bool; simp), below_drewN hbwe _⟩
end Go.Proofs.Ytijilikkdnpbmaa
