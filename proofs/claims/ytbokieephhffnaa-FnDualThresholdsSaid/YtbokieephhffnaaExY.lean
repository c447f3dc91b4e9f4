/- ExprDual: the reference's, the law FnExactExprDual. -/
import Derived.Test.YtbokieephhffnaaExV
namespace Go.Proofs.Ytbokieephhffnaa
open Go.RowKit
set_option maxHeartbeats 8000000
set_option linter.unusedVariables false

theorem join_none (sep : List UInt8) : Lib.join ([] : List (List UInt8)) sep = [] := by simp [Lib.join]
/-- What the reference has written ahead of the operand k. -/
def dPre (m : Nat) (ts : List Tr) (k : Nat) : ByteArray := ⟨(Lib.decDigits m ++ (40 :: Lib.join ((textL (dualL ts)).take k) [44])).toArray⟩
theorem dPre_zero (m : Nat) (ts : List Tr) : dPre m ts 0 = ⟨(Lib.decDigits m).toArray⟩ ++ ⟨#[40]⟩ := by
  rw [show (⟨#[40]⟩ : ByteArray) = ⟨[40].toArray⟩ from rfl, app_list]
  unfold dPre
  rw [List.take_zero, join_none]
theorem dPre_one {m k : Nat} {ts : List Tr} {t : Tr} (hk : k = 0) (h : ts[k]? = some t) : dPre m ts k ++ ⟨(textT (dualT t)).toArray⟩ = dPre m ts (k + 1) := by
  subst hk
  unfold dPre
  have e1 : (textL (dualL ts)).take (0 + 1) = (textL (dualL ts)).take 0 ++ [textT (dualT t)] := take_snoc (by rw [textL_at, dualL_at, h]; rfl)
  rw [app_list, List.take_zero, join_none, e1, List.take_zero, List.nil_append]
  congr 2
  simp [Lib.join]
theorem dPre_next {m k : Nat} {ts : List Tr} {t : Tr} (hk : 0 < k) (h : ts[k]? = some t) : dPre m ts k ++ ⟨#[44]⟩ ++ ⟨(textT (dualT t)).toArray⟩ = dPre m ts (k + 1) := by
  unfold dPre
  obtain ⟨hlt, _⟩ := List.getElem?_eq_some_iff.1 h
  have e1 : (textL (dualL ts)).take (k + 1) = (textL (dualL ts)).take k ++ [textT (dualT t)] := take_snoc (by rw [textL_at, dualL_at, h]; rfl)
  have hne : (textL (dualL ts)).take k ≠ [] := by
    intro e
    have h3 : ((textL (dualL ts)).take k).length = 0 := by rw [e]; rfl
    rw [List.length_take, textL_len, dualL_len] at h3
    omega
  rw [show (⟨#[44]⟩ : ByteArray) = ⟨[44].toArray⟩ from rfl, app_list, app_list, e1, join_snoc [44] _ _ hne]
  congr 2
  simp
theorem dPre_all (n : Nat) (ts : List Tr) : dPre (ts.length - n + 1) ts ts.length ++ ⟨#[41]⟩ = ⟨(textT (dualT (.gate n ts))).toArray⟩ := by
  unfold dPre
  rw [show (⟨#[41]⟩ : ByteArray) = ⟨[41].toArray⟩ from rfl, app_list, List.take_of_length_le (by rw [textL_len, dualL_len]; omega)]
  congr 2
  simp [dualT, textT]
theorem dPre_size (n : Nat) (ts : List Tr) (k : Nat) : (dPre (ts.length - n + 1) ts k).size + 1 ≤ (textT (dualT (.gate n ts))).length := by
  have := join_take [44] (textL (dualL ts)) k
  unfold dPre
  rw [size_list]
  simp only [dualT, textT, List.length_append, List.length_cons, List.length_nil]
  omega

theorem l2Dual_any (m : Nat) : ∀ (u : ByteArray) (t : Tr) (W : World), u.size ≤ m → u.size ≤ 40 → Whole u t → Calls Try.prog 26 #[.string u] W fun e W' => e = .returned (.string ⟨(textT (dualT t)).toArray⟩) ∧ Below W.heap.size W W' := by
  induction m with
  | zero =>
    intro u t W hm hs hw
    obtain ⟨f, hf⟩ := hw
    have := pe_end _ _ _ _ hf
    omega
  | succ m IH =>
    intro u t W hm hs hw
    cases t with
    | leaf n =>
      have hsz := leaf_size hw
      have HT := Lib.hid (leaf_text hw)
      clear hw
      go_enter Try.func26, Try.ntmps26
      go_wp2_with fail
      go_ret
      exact ⟨congrArg (fun b => Ending.returned (Value.string b)) HT.out, Below.refl _ _⟩
    | gate n ts =>
      obtain ⟨hwf, htl⟩ := whole_text hw
      have HC := Lib.hid (l2Parts_gate u n ts hw hs W)
      have hbt := gate_need hw
      have hu2 : 2 < u.size := by
        obtain ⟨f, _, _, h⟩ := gate_parts hw
        exact h
      rw [bt_at (show 0 < u.size by omega)] at hbt
      have hn1 : 1 ≤ n := by cases hwf; assumption
      have hn2 : n ≤ ts.length := by cases hwf; assumption
      have h66 : ts.length ≤ 6 := by cases hwf; assumption
      have HS := Lib.hid (fun k => dPre_size n ts k)
      have HTl := Lib.hid htl
      have HA := Lib.hid (dPre_all n ts)
      have hne1 : ¬ u.size = 1 := by omega
      clear hw hwf htl
      go_enter Try.func26, Try.ntmps26
      go_wp2_with fail
      refine HC.out.mono ?_
      rintro e w1 ⟨v, ps, rfl, ho, hok, hb⟩
      have HK := Lib.hid hok
      obtain ⟨A, c, hv, hlc, hcm, hrow⟩ := owns_row ho
      unfold maxLen at hcm
      obtain ⟨L, hL⟩ : ∃ L, ps.length = L := ⟨_, rfl⟩
      have hL2 : ts.length = L := by rw [← hL, hok.1]
      rw [hL] at hv hlc
      rw [hL2] at HA HS hn2 h66
      have HL := Lib.hid hL
      have HL2 := Lib.hid hL2
      have HI := Lib.hid (show Row w1 w1.heap.size A (ps.map Value.string) ∧ Below W.heap.size W w1 from ⟨hrow, hb⟩)
      subst hv
      clear hb ho hok hrow hL hL2
      obtain ⟨M, hM⟩ : ∃ M : Nat, M = L - n + 1 := ⟨_, rfl⟩
      rw [← hM] at HA HS
      have hM1 : (L : Int) - n + 1 = (M : Int) := by omega
      have HM := Lib.hid hM
      have HDc := Lib.hid (l6Dec_is M (by omega) w1)
      have h00 : ⟨(Lib.decDigits M).toArray⟩ ++ ⟨#[40]⟩ = dPre M ts 0 := (dPre_zero M ts).symm
      have hdl := dig_len (n := M) (by omega)
      rw [← size_list] at hdl
      generalize (⟨(Lib.decDigits M).toArray⟩ : ByteArray) = D at HDc h00 hdl
      have H0 := Lib.hid h00
      have c0 : ¬ 9223372036854775807 < D.size + 1 := by omega
      clear hM h00
      go_wp2_with fail
      refine HDc.out.mono ?_
      rintro e w2 ⟨rfl, hb2⟩
      have HI2 := Lib.hid (show Row w2 w1.heap.size A (ps.map Value.string) ∧ Below W.heap.size W w2 from ⟨HI.out.1.below hb2, HI.out.2.trans (hb2.mono HI.out.2.size)⟩)
      have hz2 := hb2.size
      clear hb2 hM1
      go_wp2_with fail
      go_loopw [4, 5] (fun o i wr => ∃ k : Nat, k ≤ L ∧ i = .int .i64 k ∧ o = .string (dPre M ts k) ∧ (Row wr wr.heap.size A (ps.map Value.string) ∧ Below W.heap.size W wr)) (fun _ i _ => L - (intOf i).toNat)
      case atStart => exact ⟨0, Nat.zero_le _, rfl, by rw [← H0.out], HI2.out.1.more hz2, HI2.out.2⟩
      case round =>
        obtain ⟨k, hk, rfl, rfl, hrow, hB⟩ := hrel
        have HR := Lib.hid hrow
        have HB := Lib.hid hB
        have hsz := hB.size
        clear hrow hB
        by_cases hkn : k < L
        · have i1 : (k : Int) < L := by omega
          have hkp : k < ps.length := by rw [HL.out]; exact hkn
          have hkt : k < ts.length := by rw [HL2.out]; exact hkn
          obtain ⟨hw, hsm⟩ := HK.out.2 k _ _ (List.getElem?_eq_getElem hkp) (List.getElem?_eq_getElem hkt)
          have ht := List.getElem?_eq_getElem hkt
          obtain ⟨b, off, hA, hbl, hcell⟩ := HR.out.at_ (k := k) (u := .string ps[k]) (by simp [hkp])
          have hxs := HS.out (k + 1)
          have hxt := HTl.out
          have hks := HS.out k
          generalize ps[k] = p at hw hsm hcell
          generalize ts[k] = t at hw ht
          have HCk := Lib.hid (IH p t wr (by omega) (by omega) hw)
          obtain ⟨X, hX⟩ : ∃ X : ByteArray, X = ⟨(textT (dualT t)).toArray⟩ := ⟨_, rfl⟩
          rw [← hX] at HCk
          subst hA
          by_cases hk0 : k = 0
          · have hone := dPre_one (m := M) hk0 ht
            rw [← hX] at hone
            have hsum : (dPre M ts k).size + X.size = (dPre M ts (k + 1)).size := by rw [← hone, ByteArray.size_append]
            have c1 : ¬ 9223372036854775807 < (dPre M ts k).size + X.size := by omega
            have k1 : ¬ (0 : Int) < k := by omega
            have HN := Lib.hid hone
            clear hw hkp hkt ht hX hone hsum hk0
            generalize dPre M ts k = o at HN c1 hks ⊢
            go_wp2_with (go_at_call 26; refine HCk.out.mono ?_; rintro e w3 ⟨rfl, hb3⟩; have HB3 := Lib.hid hb3; clear hb3)
            go_roundw
            case rel => exact ⟨k + 1, by omega, by go_num, by rw [HN.out], ((HR.out.below HB3.out).more HB3.out.size), HB.out.trans (HB3.out.mono hsz)⟩
            case measure => simp [intOf]; omega
          · have hone := dPre_next (m := M) (by omega) ht
            rw [← hX] at hone
            have hsum : (dPre M ts k).size + 1 + X.size = (dPre M ts (k + 1)).size := by rw [← hone, ByteArray.size_append, ByteArray.size_append]; rfl
            have c1 : ¬ 9223372036854775807 < (dPre M ts k).size + 1 := by omega
            have c2 : ¬ 9223372036854775807 < (dPre M ts k).size + 1 + X.size := by omega
            have k1 : (0 : Int) < k := by omega
            have HN := Lib.hid hone
            clear hw hkp hkt ht hX hone hsum
            generalize dPre M ts k = o at HN c1 c2 hks ⊢
            go_wp2_with (go_at_call 26; refine HCk.out.mono ?_; rintro e w3 ⟨rfl, hb3⟩; have HB3 := Lib.hid hb3; clear hb3)
            go_roundw
            case rel => exact ⟨k + 1, by omega, by go_num, by rw [HN.out], ((HR.out.below HB3.out).more HB3.out.size), HB.out.trans (HB3.out.mono hsz)⟩
            case measure => simp [intOf]; omega
        · obtain rfl : k = L := by omega
          have hks := HS.out k
          have hxt := HTl.out
          have c3 : ¬ 9223372036854775807 < (dPre M ts k).size + 1 := by omega
          have HF := Lib.hid HA.out
          generalize dPre M ts k = o at HF c3 hks ⊢
          go_wp2
          go_ret
          exact ⟨congrArg (fun b => Ending.returned (Value.string b)) HF.out, HB.out⟩
end Go.Proofs.Ytbokieephhffnaa
