/- The law FnLogValid: its walk. -/
import Derived.Test.YtijilikkdnpbmaaLog7
namespace Go.Proofs.Ytijilikkdnpbmaa
open Go.RowKit
set_option maxHeartbeats 4000000
set_option linter.unusedVariables false

theorem logValid_walk (A : Option Addr) (na ca : Nat) (zs0 : List Int) (A2 : Option Addr) (n2 c2 : Nat) (zs2 : List Int) (w : World) (h : Ints .u8 w A na ca zs0) (h2 : Ints .u8 w A2 n2 c2 zs2) : Calls Try.prog 4 #[.slice A na ca, .slice A2 n2 c2] w fun e w' => e = .returned (.bool true) ∧ Below w.heap.size w w' := by
  have hmx := h.max
  unfold maxLen at hmx
  have hmx2 := h2.max
  unfold maxLen at hmx2
  have hcp2 := h2.cap
  by_cases hl : 1048576 < na
  · go_enter Try.func4, Try.ntmps4
    go_wp2
    go_ret
    exact ⟨rfl, Below.refl _ _⟩
  by_cases hl2 : 1048576 < n2
  · go_enter Try.func4, Try.ntmps4
    go_wp2
    go_ret
    exact ⟨rfl, Below.refl _ _⟩
  go_enter Try.func4, Try.ntmps4
  go_wp2_with fail
  refine (drawLogValid_any A na ca zs0 _ h).mono ?_
  rintro e wd ⟨B, m, cc, fl, k, rfl, hD, ⟨hm, hk0, hk6⟩, hbd⟩
  have hbz := hbd.size
  have hDm := hD.max
  have hDc := hD.cap
  have HD := Lib.hid hD
  clear hD
  obtain ⟨q, hq⟩ : ∃ q, logB fl k m = q := ⟨_, rfl⟩
  have HQ := Lib.hid hq
  clear hq
  go_wp2_with fail
  refine (implLogValid_is B m cc fl k _ _ HD.out.row (Nat.le_refl _) HD.out.len (by omega) HQ.out).mono ?_
  rintro e wa ⟨rfl, hba⟩
  have hza := hba.size
  have R1 := Lib.hid (HD.out.row.below hba)
  have hbwa := hbd.trans (hba.mono hbz)
  clear hbd hba
  go_wp2_with fail
  refine (specLogValid_is B m cc fl k _ _ R1.out hza HD.out.len (by omega) HQ.out).mono ?_
  rintro e wb ⟨rfl, hbb⟩
  have hzb := hbb.size
  have R2 := Lib.hid (R1.out.keep fun p hp => hbb.cell (Nat.lt_of_lt_of_le hp hza))
  have hbwb := hbwa.trans (hbb.mono (by omega))
  clear hbwa hbb R1
  cases q
  · go_wp2_with fail
    refine (specLogValid_is B m cc fl k _ _ R2.out (by omega) HD.out.len (by omega) HQ.out).mono ?_
    rintro e w3 ⟨rfl, hb3⟩
    go_wp2
    go_ret
    exact ⟨rfl, hbwb.trans (hb3.mono (by omega))⟩
  obtain ⟨l1, l2, l3, _⟩ := log_iff HQ.out
  obtain ⟨K, hK, hKlt⟩ : ∃ K : Nat, (n2 : Int) % ((m : Int) + 1) = (K : Int) ∧ K ≤ m := ⟨n2 % (m + 1), by simp, Nat.le_of_lt_succ (Nat.mod_lt _ (by omega))⟩
  have hK0 : (K : Int) ≤ m := by omega
  have HLT := Lib.hid (show (fl.take (K * 2)).length = K * 2 by rw [List.length_take, HD.out.len]; omega)
  have HRT := Lib.hid (show Row wb wd.heap.size B ((fl.take (K * 2)).map (Value.int .i64)) by rw [List.map_take]; exact R2.out.take _)
  have HT1 := Lib.hid (log_take HQ.out hKlt)
  have HT2 := Lib.hid (log_snoc_no (k := k) HLT.out (show entB 1 1 k = false by simp [entB]))
  have HT3 := Lib.hid (log_snoc_no (k := k) HLT.out (show entB 0 0 k = false by simp [entB, inB]))
  have HBn := Lib.hid HD.out.nil
  clear R2
  rcases B with _ | ad
  · have hm0 : m = 0 := HBn.out rfl
    obtain rfl : K = 0 := by omega
    obtain rfl : m = 0 := hm0
    go_wp2_with (first
      | (at_builtin; have hq1 := HRT.out; refine wpl_append_recs rfl (.tmp 47) (.tmp 50) (by rfl) wb.heap.size (.slice (some ⟨wb.heap.size, 0, none⟩) 0 0) 0 [] (by rfl) (ownr_empty' (w := wb) rfl (Nat.le_refl _)) wd.heap.size none 0 cc (fl.take (0 * 2)) (by rfl) (hq1.alloc (by omega) _) HLT.out (fun _ => rfl) (by omega) (by omega) (by simp) ?_; intro v1 w1 hown1 hb1 hgr1 hat1; simp only [List.nil_append, Nat.zero_add] at hown1; have hs1 := hb1.size; simp at hs1; clear hgr1 hat1)
      | (at_builtin; refine wpl_append_rec rfl (.tmp 51) (.tmp 53) (by rfl) wb.heap.size v1 0 _ _ _ (by rfl) hown1 (by rfl) (by omega) (by omega) ?_; intro v2 w2 hown2 hb2 hgr2 hat2; have hs2 := hb2.size; clear hgr2 hat2)
      | (at_builtin; have hq3 := ((HRT.out.alloc (by omega) (.cells #[] 33)).below (hb1.mono (by omega))).below (hb2.mono (by omega)); refine wpl_append_recs rfl (.tmp 55) (.tmp 58) (by rfl) w2.heap.size (.slice (some ⟨w2.heap.size, 0, none⟩) 0 0) 0 [] (by rfl) (ownr_empty' (w := w2) rfl (Nat.le_refl _)) wd.heap.size none 0 cc (fl.take (0 * 2)) (by rfl) (hq3.alloc (by omega) _) HLT.out (fun _ => rfl) (by omega) (by omega) (by simp) ?_; intro v3 w3 hown3 hb3 hgr3 hat3; simp only [List.nil_append, Nat.zero_add] at hown3; have hs3 := hb3.size; simp at hs3; clear hgr3 hat3)
      | (at_builtin; refine wpl_append_rec rfl (.tmp 59) (.tmp 61) (by rfl) w2.heap.size v3 0 _ _ _ (by rfl) hown3 (by rfl) (by omega) (by omega) ?_; intro v4 w4 hown4 hb4 hgr4 hat4; have hs4 := hb4.size; clear hgr4 hat4))
    have hbw4 : Below w.heap.size w w4 := (((hbwb.alloc (by omega) (.cells #[] 33)).trans (hb1.mono (by omega))).trans (hb2.mono (by omega))).trans (((Below.refl w.heap.size w2).alloc (by omega) (.cells #[] 33)).trans ((hb3.mono (by omega)).trans (hb4.mono (by omega))))
    have hb24 : Below w2.heap.size w2 w4 := (((Below.refl _ w2).alloc (Nat.le_refl _) (.cells #[] 33)).trans hb3).trans hb4
    have hown24 := ownr_below hown2 hb24 (Nat.le_refl _)
    have hrow4 := (((HRT.out.alloc (by omega) (.cells #[] 33)).below (hb1.mono (by omega))).below (hb2.mono (by omega))).below (hb24.mono (by omega))
    obtain ⟨A5, c5, rfl, _, _, hA5⟩ := ownr_form hown24
    obtain ⟨A6, c6, rfl, _, _, hA6⟩ := ownr_form hown4
    have hd5 := ownr_dlog hown24 hA5
    have hd6 := ownr_dlog hown4 hA6
    have H5 := Lib.hid hd5
    have H6 := Lib.hid hd6
    have H4 := Lib.hid hrow4
    clear hown1 hown2 hown3 hown4 hown24 hd5 hd6 hrow4 hq1 hq3 hA5 hA6
    go_wp2_with fail
    refine (implLogValid_is _ 0 cc (fl.take (0 * 2)) k w4 wd.heap.size H4.out (by omega) HLT.out (by omega) HT1.out).mono ?_
    rintro e w5 ⟨rfl, hb5⟩
    have hs5 := hb5.size
    go_wp2_with fail
    refine (implLogValid_is A5 (0 + 1) c5 _ k w5 w4.heap.size (H5.out.row.below hb5) hs5 H5.out.len (by omega) HT2.out).mono ?_
    rintro e w6 ⟨rfl, hb6⟩
    have hs6 := hb6.size
    go_wp2_with fail
    refine (implLogValid_is A6 (0 + 1) c6 _ k w6 w4.heap.size ((H6.out.row.below hb5).below (hb6.mono hs5)) (by omega) H6.out.len (by omega) HT3.out).mono ?_
    rintro e w7 ⟨rfl, hb7⟩
    go_wp2
    go_ret
    exact ⟨by first | rfl | (apply ret_bool; simp; omega), ((hbw4.trans (hb5.mono (by omega))).trans (hb6.mono (by omega))).trans (hb7.mono (by omega))⟩
  · skip
    go_wp2_with (first
      | (at_builtin; have hq1 := HRT.out; refine wpl_append_recs rfl (.tmp 47) (.tmp 50) (by rfl) wb.heap.size (.slice (some ⟨wb.heap.size, 0, none⟩) 0 0) 0 [] (by rfl) (ownr_empty' (w := wb) rfl (Nat.le_refl _)) wd.heap.size (some ad) K cc (fl.take (K * 2)) (by rfl) (hq1.alloc (by omega) _) HLT.out (by simp) (by omega) (by omega) (by simp) ?_; intro v1 w1 hown1 hb1 hgr1 hat1; simp only [List.nil_append, Nat.zero_add] at hown1; have hs1 := hb1.size; simp at hs1; clear hgr1 hat1)
      | (at_builtin; refine wpl_append_rec rfl (.tmp 51) (.tmp 53) (by rfl) wb.heap.size v1 K _ _ _ (by rfl) hown1 (by rfl) (by omega) (by omega) ?_; intro v2 w2 hown2 hb2 hgr2 hat2; have hs2 := hb2.size; clear hgr2 hat2)
      | (at_builtin; have hq3 := ((HRT.out.alloc (by omega) (.cells #[] 33)).below (hb1.mono (by omega))).below (hb2.mono (by omega)); refine wpl_append_recs rfl (.tmp 55) (.tmp 58) (by rfl) w2.heap.size (.slice (some ⟨w2.heap.size, 0, none⟩) 0 0) 0 [] (by rfl) (ownr_empty' (w := w2) rfl (Nat.le_refl _)) wd.heap.size (some ad) K cc (fl.take (K * 2)) (by rfl) (hq3.alloc (by omega) _) HLT.out (by simp) (by omega) (by omega) (by simp) ?_; intro v3 w3 hown3 hb3 hgr3 hat3; simp only [List.nil_append, Nat.zero_add] at hown3; have hs3 := hb3.size; simp at hs3; clear hgr3 hat3)
      | (at_builtin; refine wpl_append_rec rfl (.tmp 59) (.tmp 61) (by rfl) w2.heap.size v3 K _ _ _ (by rfl) hown3 (by rfl) (by omega) (by omega) ?_; intro v4 w4 hown4 hb4 hgr4 hat4; have hs4 := hb4.size; clear hgr4 hat4))
    have hbw4 : Below w.heap.size w w4 := (((hbwb.alloc (by omega) (.cells #[] 33)).trans (hb1.mono (by omega))).trans (hb2.mono (by omega))).trans (((Below.refl w.heap.size w2).alloc (by omega) (.cells #[] 33)).trans ((hb3.mono (by omega)).trans (hb4.mono (by omega))))
    have hb24 : Below w2.heap.size w2 w4 := (((Below.refl _ w2).alloc (Nat.le_refl _) (.cells #[] 33)).trans hb3).trans hb4
    have hown24 := ownr_below hown2 hb24 (Nat.le_refl _)
    have hrow4 := (((HRT.out.alloc (by omega) (.cells #[] 33)).below (hb1.mono (by omega))).below (hb2.mono (by omega))).below (hb24.mono (by omega))
    obtain ⟨A5, c5, rfl, _, _, hA5⟩ := ownr_form hown24
    obtain ⟨A6, c6, rfl, _, _, hA6⟩ := ownr_form hown4
    have hd5 := ownr_dlog hown24 hA5
    have hd6 := ownr_dlog hown4 hA6
    have H5 := Lib.hid hd5
    have H6 := Lib.hid hd6
    have H4 := Lib.hid hrow4
    clear hown1 hown2 hown3 hown4 hown24 hd5 hd6 hrow4 hq1 hq3 hA5 hA6
    go_wp2_with fail
    refine (implLogValid_is _ K cc (fl.take (K * 2)) k w4 wd.heap.size H4.out (by omega) HLT.out (by omega) HT1.out).mono ?_
    rintro e w5 ⟨rfl, hb5⟩
    have hs5 := hb5.size
    go_wp2_with fail
    refine (implLogValid_is A5 (K + 1) c5 _ k w5 w4.heap.size (H5.out.row.below hb5) hs5 H5.out.len (by omega) HT2.out).mono ?_
    rintro e w6 ⟨rfl, hb6⟩
    have hs6 := hb6.size
    go_wp2_with fail
    refine (implLogValid_is A6 (K + 1) c6 _ k w6 w4.heap.size ((H6.out.row.below hb5).below (hb6.mono hs5)) (by omega) H6.out.len (by omega) HT3.out).mono ?_
    rintro e w7 ⟨rfl, hb7⟩
    go_wp2
    go_ret
    exact ⟨by first | rfl | (apply ret_bool; simp; omega), ((hbw4.trans (hb5.mono (by omega))).trans (hb6.mono (by omega))).trans (hb7.mono (by omega))⟩
end Go.Proofs.Ytijilikkdnpbmaa
