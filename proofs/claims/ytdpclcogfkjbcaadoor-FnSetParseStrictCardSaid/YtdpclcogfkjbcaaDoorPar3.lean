/- The reference's SetParse. -/
import Derived.Test.YtdpclcogfkjbcaaDoorPar2
import Derived.Test.YtdpclcogfkjbcaaDoorDr1
namespace Go.Proofs.YtdpclcogfkjbcaaDoor
open Go.RowKit
set_option maxHeartbeats 8000000
set_option linter.unusedVariables false

theorem szTo_next (t : ByteArray) (k : Nat) : szTo t (k + 1) = szTo t k ++ [(bt8 t (1 + 2 * k) : Int) - 48] := by
  unfold szTo
  rw [List.range_succ, List.map_append]
  rfl
theorem szTo_len (t : ByteArray) (k : Nat) : (szTo t k).length = k := by simp [szTo]
theorem no_empty (d : ByteArray) (h : 0 < d.size) : d.toList.isEmpty = false := by
  rw [Lib.toList_data]
  cases hd : d.data.toList with
  | nil =>
    have h2 : d.data.toList.length = 0 := by rw [hd]; rfl
    have h3 : 0 < d.data.toList.length := by simpa using h
    omega
  | cons a l => rfl
theorem ParQ.no2 {t : ByteArray} {W W' : World} (h : parV t = ([], false)) (hb : Below W.heap.size W W') : ParQ t W (.returned (.tuple #[.slice (some ⟨W'.heap.size, 0, none⟩) 0 0, .bool false])) (W'.alloc (.cells #[] 3)) := by
  refine ⟨_, by rw [h], ?_, hb.alloc hb.size _⟩
  rw [h]
  exact own_empty W' hb.size

theorem specParse_any (t : ByteArray) (ht : t.size ≤ 1048576) (W : World) : Calls Tryd.prog 7 #[.string t] W (ParQ t W) := by
  obtain ⟨K, hK⟩ : ∃ K, szK t = K := ⟨_, rfl⟩
  have hK6 : K ≤ 6 := by rw [← hK]; unfold szK; split <;> omega
  have hin : ∀ k, k < K → t.size ≤ 13 ∧ 1 + 2 * k + 1 < t.size := fun k hk => by
    rw [← hK] at hk
    unfold szK at hk
    split at hk <;> omega
  have hout : ¬ (1 + 2 * K + 1 < t.size ∧ t.size ≤ 13) := by
    rw [← hK]
    unfold szK
    split <;> omega
  have HPV : 0 < t.size → Hid (parV t = if fmtO (szTo t K) = t then (szTo t K, true) else ([], false)) := fun h => Lib.hid (by
    rw [parV_spec t h, show sz t = szTo t K by unfold sz; rw [hK]])
  have HIn := Lib.hid hin
  clear hK hin
  go_enter Tryd.func7, Tryd.ntmps7
  go_wp2
  go_loopw [4, 5] (fun u i wr => ∃ k : Nat, k ≤ K ∧ i = .int .i64 ((1 + 2 * k : Nat) : Int) ∧ OwnI wr W.heap.size u (szTo t k) ∧ Below W.heap.size W wr) (fun _ i _ => 100 - (intOf i).toNat)
  case atStart => exact ⟨0, Nat.zero_le _, rfl, own_empty W (Nat.le_refl _), (Below.refl _ _).alloc (Nat.le_refl _) _⟩
  case round =>
    obtain ⟨k, hk, rfl, hown, hB⟩ := hrel
    have HO := Lib.hid hown
    have HB := Lib.hid hB
    have hsz := hB.size
    have hlen := szTo_len t k
    by_cases hkK : k < K
    · obtain ⟨h13, hlt⟩ := HIn.out k hkK
      have HN := Lib.hid (szTo_next t k)
      have hnx : ((1 + 2 * (k + 1) : Nat) : Int) = ((1 + 2 * k : Nat) : Int) + 2 := by omega
      obtain ⟨j, hj⟩ : ∃ j : Nat, 1 + 2 * k = j := ⟨_, rfl⟩
      rw [hj] at HN hlt ⊢
      have HJ := Lib.hid hj
      have hjt : j < t.size := by omega
      have i1 : (j : Int) + 1 < t.size := by omega
      have i2 : (t.size : Int) ≤ 13 := by omega
      have i3 : (j : Int) < t.size := by omega
      have i4 : (0 : Int) ≤ j := by omega
      obtain ⟨b, hb⟩ : ∃ b : Nat, t[j].toNat = b := ⟨_, rfl⟩
      have hb8 : bt8 t j = b := by unfold bt8; rw [dif_pos hjt]; exact hb
      have hb255 : b < 256 := by rw [← hb]; exact t[j].toNat_lt
      rw [hb8] at HN
      have j1 : IntKind.i64.wrap ((b : Int) - 48) = (b : Int) - 48 := IntWalk.i64_in _ (by omega)
      have j2 : IntKind.i64.wrap (b : Int) = (b : Int) := IntWalk.i64_in _ (by omega)
      have j3 : IntKind.i64.wrap ((j : Int) + 1) = (j : Int) + 1 := IntWalk.i64_in _ (by omega)
      have j4 : IntKind.i64.wrap ((j : Int) + 2) = (j : Int) + 2 := IntWalk.i64_in _ (by omega)
      clear hj hb8 hown hB
      go_wp2_with (at_builtin; refine wpl_append_int rfl _ _ (by rfl) W.heap.size _ _ _ (by rfl) HO.out (by rfl) (by omega) hsz ?_; intro v3 w3 hown3 hb3 _ _)
      go_roundw
      case rel => exact ⟨k + 1, by omega, by have := HJ.out; first | omega | (go_num), by rw [HN.out]; exact hown3, HB.out.trans hb3⟩
      case measure => simp [intOf]; omega
    · obtain rfl : k = K := by omega
      obtain ⟨j, hj⟩ : ∃ j : Nat, 1 + 2 * k = j := ⟨_, rfl⟩
      rw [hj] at hout ⊢
      have j3 : IntKind.i64.wrap ((j : Int) + 1) = (j : Int) + 1 := IntWalk.i64_in _ (by omega)
      obtain ⟨A, c, hu, hle, hmx, hrow⟩ := owns_row HO.out
      rw [szTo_len] at hu
      have HF := Lib.hid (fun W2 (hb : Below wr.heap.size wr W2) => specFormat_any A k c (szTo t k) W2 ((hrow.below hb).more hb.size) (szTo_len t k) (by omega))
      clear hj hown hB hrow
      by_cases ht0 : 0 < t.size
      · have hne0 := no_empty t ht0
        have HPV := HPV ht0
        by_cases hA : j + 1 < t.size
        · have i1 : (j : Int) + 1 < t.size := by omega
          have i2 : ¬ (t.size : Int) ≤ 13 := by
            have : ¬ t.size ≤ 13 := fun h => hout ⟨hA, h⟩
            omega
          clear hout hA ht0
          by_cases hf : fmtO (szTo t k) = t
          · have HV2 := Lib.hid (show parV t = (szTo t k, true) by rw [HPV.out, if_pos hf])
            rw [hf] at HF
            clear hf HPV
            generalize szTo t k = zs at HO HV2
            subst hu
            go_wp2_with (go_at_call 14; go_loud (refine (HF.out _ (by first | exact Below.refl _ _ | exact Below.drew (Below.refl _ _))).mono ?_; rintro e w2 ⟨rfl, hb2⟩; have HO2 := Lib.hid (owns_below HO.out hb2 (Nat.le_refl _)); have HB2 := Lib.hid (HB.out.trans (hb2.mono hsz)); clear hb2))
            go_ret2
            exact ⟨_, by rw [HV2.out]; rfl, by rw [HV2.out]; exact HO2.out, HB2.out⟩
          · have HV2 := Lib.hid (show parV t = ([], false) by rw [HPV.out, if_neg hf])
            have hne := str_ne hf
            clear hf HPV
            generalize fmtO (szTo t k) = x at HF hne
            subst hu
            go_wp2_with (go_at_call 14; refine (HF.out _ (by first | exact Below.refl _ _ | exact Below.drew (Below.refl _ _))).mono ?_; rintro e w2 ⟨rfl, hb2⟩; have HB2 := Lib.hid (HB.out.trans (hb2.mono hsz)); clear hb2)
            go_ret2
            exact ParQ.no2 HV2.out HB2.out
        · have i1 : ¬ (j : Int) + 1 < t.size := by omega
          clear hout hA ht0
          by_cases hf : fmtO (szTo t k) = t
          · have HV2 := Lib.hid (show parV t = (szTo t k, true) by rw [HPV.out, if_pos hf])
            rw [hf] at HF
            clear hf HPV
            generalize szTo t k = zs at HO HV2
            subst hu
            go_wp2_with (go_at_call 14; go_loud (refine (HF.out _ (by first | exact Below.refl _ _ | exact Below.drew (Below.refl _ _))).mono ?_; rintro e w2 ⟨rfl, hb2⟩; have HO2 := Lib.hid (owns_below HO.out hb2 (Nat.le_refl _)); have HB2 := Lib.hid (HB.out.trans (hb2.mono hsz)); clear hb2))
            go_ret2
            exact ⟨_, by rw [HV2.out]; rfl, by rw [HV2.out]; exact HO2.out, HB2.out⟩
          · have HV2 := Lib.hid (show parV t = ([], false) by rw [HPV.out, if_neg hf])
            have hne := str_ne hf
            clear hf HPV
            generalize fmtO (szTo t k) = x at HF hne
            subst hu
            go_wp2_with (go_at_call 14; refine (HF.out _ (by first | exact Below.refl _ _ | exact Below.drew (Below.refl _ _))).mono ?_; rintro e w2 ⟨rfl, hb2⟩; have HB2 := Lib.hid (HB.out.trans (hb2.mono hsz)); clear hb2)
            go_ret2
            exact ParQ.no2 HV2.out HB2.out
      · have ht1 : t = ⟨#[]⟩ := by
          apply ByteArray.ext
          exact Array.eq_empty_of_size_eq_zero (by show t.size = 0; omega)
        subst ht1
        have HN := Lib.hid (show parV ⟨#[]⟩ = ([], false) by decide +kernel)
        have i1 : ¬ (j : Int) + 1 < 0 := by omega
        clear HPV hout ht0
        subst hu
        go_wp2
        go_ret2
        exact ParQ.no2 HN.out HB.out
end Go.Proofs.YtdpclcogfkjbcaaDoor
