/- The reference's l2Satisfied, l3OfExpr and FamilyOfExpr. -/
import Derived.Test.YtiepoadnncnbkaaSqO
namespace Go.Proofs.Ytiepoadnncnbkaa
open Go.RowKit
set_option maxHeartbeats 4000000
set_option linter.unusedVariables false

/-- The call answers yes or no and turns nothing that was there. -/
def SatRes (w : World) (e : Ending) (w' : World) : Prop := ∃ b : Bool, e = .returned (.bool b) ∧ Below w.heap.size w w'
theorem l2Satisfied_any (A : Option Addr) (n c : Nat) (zs : List Int) (hl : zs.length = n) (hn : n ≤ 1048576) (m : Nat) : ∀ (u : ByteArray) (t : Tr) (W : World), u.size ≤ m → u.size ≤ 40 → Whole u t → Row W W.heap.size A (zs.map (Value.int .i64)) →
    Calls Try.prog 70 #[.string u, .slice A n c] W (SatRes W) := by
  induction m with
  | zero =>
    intro u t W hm hs hw hA
    obtain ⟨f, hf⟩ := hw
    have := pe_end _ _ _ _ hf
    omega
  | succ m IH =>
    intro u t W hm hs hw hA
    have hpos : 0 < u.size := by
      obtain ⟨f, hf⟩ := hw
      have := pe_end _ _ _ _ hf
      omega
    cases t with
    | leaf k =>
      have hsz := leaf_size hw
      have HC := Lib.hid (fun x => l1Contains_any A n c zs x W W.heap.size hA hl hn)
      clear hw hA hl
      go_enter Try.func70, Try.ntmps70
      go_wp2_with fail
      refine (HC.out _).mono ?_
      generalize (zs.any _) = b
      rintro e w1 ⟨rfl, rfl⟩
      go_wp2
      go_ret
      exact ⟨b, rfl, Below.refl _ _⟩
    | gate k ts =>
      have HC := Lib.hid (l2Parts_gate u k ts hw hs W)
      have hne1 : ¬ u.size = 1 := by
        obtain ⟨f, _, _, h⟩ := gate_parts hw
        omega
      have hne2 : ¬ (u.size : Int) = 1 := by omega
      have HA := Lib.hid hA
      clear hw hA hl
      go_enter Try.func70, Try.ntmps70
      go_wp2_with fail
      refine HC.out.mono ?_
      rintro e w1 ⟨v, ps, rfl, ho, hok, hb⟩
      have HK := Lib.hid hok
      obtain ⟨A1, c1, hv, hlc, hcm, hrow⟩ := owns_row ho
      unfold maxLen at hcm
      obtain ⟨L, hL⟩ : ∃ L, ps.length = L := ⟨_, rfl⟩
      rw [hL] at hv hlc
      have HL := Lib.hid hL
      have HI := Lib.hid (show Row w1 w1.heap.size A1 (ps.map Value.string) ∧ Below W.heap.size W w1 from ⟨hrow, hb⟩)
      subst hv
      clear hb ho hok hrow hL
      go_wp2_with fail
      go_loopw [7, 8] (fun d i wr => ∃ (k : Nat) (x : Int), k ≤ L ∧ i = .int .i64 k ∧ d = .int .i64 x ∧ (Row wr wr.heap.size A1 (ps.map Value.string) ∧ Below W.heap.size W wr)) (fun _ i _ => L - (intOf i).toNat)
      case atStart => exact ⟨0, 0, Nat.zero_le _, rfl, rfl, HI.out⟩
      case round =>
        obtain ⟨k, x, hk, rfl, rfl, hrow, hB⟩ := hrel
        have HR := Lib.hid hrow
        have HB := Lib.hid hB
        have hsz := hB.size
        clear hrow hB
        by_cases hkn : k < L
        · have i1 : (k : Int) < L := by omega
          have hkp : k < ps.length := by rw [HL.out]; exact hkn
          have hkt : k < ts.length := by rw [← HK.out.1]; exact hkp
          obtain ⟨hw, hsm⟩ := HK.out.2 k _ _ (List.getElem?_eq_getElem hkp) (List.getElem?_eq_getElem hkt)
          obtain ⟨b, off, hA, hbl, hcell⟩ := HR.out.at_ (k := k) (u := .string ps[k]) (by simp [hkp])
          generalize ps[k] = p at hw hsm hcell
          generalize ts[k] = t at hw
          have HCk := Lib.hid (IH p t wr (by omega) (by omega) hw ((HA.out.below HB.out).more hsz))
          subst hA
          clear hw hkp hkt
          go_wp2_with fail
          refine HCk.out.mono ?_
          rintro e w2 ⟨b2, rfl, hb2⟩
          have HB2 := Lib.hid hb2
          clear hb2
          cases b2
          · go_wp2
            go_roundw
            case rel => exact ⟨k + 1, x, by omega, by go_num, rfl, ((HR.out.below HB2.out).more HB2.out.size), HB.out.trans (HB2.out.mono hsz)⟩
            case measure => simp [intOf]; omega
          · go_wp2
            go_roundw
            case rel => exact ⟨k + 1, _, by omega, by go_num, rfl, ((HR.out.below HB2.out).more HB2.out.size), HB.out.trans (HB2.out.mono hsz)⟩
            case measure => simp [intOf]; omega
        · obtain rfl : k = L := by omega
          go_wp2
          go_ret
          exact ⟨_, rfl, HB.out⟩

theorem l3OfExpr_any (u : ByteArray) (t : Tr) (w : World) (hu : u.size ≤ 40) (ht : Whole u t) : Calls Try.prog 63 #[.string u] w (SmRes w) := by
  have HSat := Lib.hid (fun (W : World) (m : Nat) (A : Option Addr) (n c : Nat) (h : Row W W.heap.size A ((ofTo m 6).map (Value.int .i64))) (hl : (ofTo m 6).length = n) =>
    l2Satisfied_any A n c (ofTo m 6) hl (by have := ofTo_len m 6; omega) u.size u t W (Nat.le_refl _) hu ht h)
  clear hu ht
  go_enter Try.func63, Try.ntmps63
  go_wp2_with fail
  go_loopw [3, 4] (fun u i wr => ∃ (k : Nat) (rows : List (List Int)), k ≤ 64 ∧ i = .int .i64 k ∧ OwnM wr w.heap.size u rows ∧ rows.length ≤ k ∧ (∀ z ∈ rows, Short z) ∧ Below w.heap.size w wr) (fun _ i _ => 64 - (intOf i).toNat)
  case atStart => exact ⟨0, [], Nat.zero_le _, rfl, OwnM.empty _ (Nat.le_refl _), Nat.le_refl _, (fun z h => by cases h), (Below.refl _ _).alloc (Nat.le_refl _) _⟩
  case round =>
    obtain ⟨k, rows, hk, rfl, hown, hrl, hsh, hB⟩ := hrel
    have HO := Lib.hid hown
    have HSh := Lib.hid hsh
    clear hown hsh
    go_wp2_with fail
    refine (l1Masks_any _).mono ?_
    rintro e wq ⟨rfl, hwq⟩
    subst wq
    by_cases hkn : k < 64
    · have i1 : (k : Int) < 64 := by omega
      go_wp2_with fail
      refine (l1OfMask_any k (by omega) _).mono ?_
      rintro e w5 ⟨s, rfl, ho5, hb5⟩
      have HO5 := Lib.hid (HO.out.below hb5 (Nat.le_refl _))
      obtain ⟨A5, c5, rfl, _, _, hr5⟩ := owns_row ho5
      have HH5 := Lib.hid (Hd.of_own (v := _) ho5 hB.size HO.out.lt)
      replace hb5 := hB.trans (hb5.mono hB.size)
      obtain ⟨L, hL⟩ : ∃ L, (ofTo k 6).length = L := ⟨_, rfl⟩
      have HS5 := Lib.hid (HSat.out w5 k A5 L c5 hr5 hL)
      rw [hL] at HH5
      rw [hL]
      clear ho5 hr5 hL HO hB
      go_wp2_with fail
      refine HS5.out.mono ?_
      rintro e w6 ⟨b, rfl, hb6⟩
      have HO6 := Lib.hid (HO5.out.below hb6 (Nat.le_refl _))
      have HH6 := Lib.hid (HH5.out.below hb6 (Nat.le_refl _))
      replace hb6 := hb5.trans (hb6.mono hb5.size)
      have hs6 := hb6.size
      clear HO5 HH5
      cases b
      · go_wp2
        go_roundw
        case rel => exact ⟨k + 1, rows, by omega, by go_num, HO6.out, by omega, HSh.out, hb6⟩
        case measure => simp [intOf]; omega
      · go_wp2_with (at_builtin; refine wpl_append_row rfl _ _ (by rfl) w.heap.size _ rows _ (ofTo k 6) (by rfl) HO6.out HH6.out (by rfl) (by omega) hs6 ?_; intro v8 w8 hown8 hb8 _)
        go_roundw
        case rel => exact ⟨k + 1, rows ++ [ofTo k 6], by omega, by go_num, hown8, by simp; omega, short_snoc HSh.out (short_of k), hb6.trans hb8⟩
        case measure => simp [intOf]; omega
    · obtain rfl : k = 64 := by omega
      obtain ⟨A9, c9, rfl, _, _, hM9, hZ9⟩ := HO.out.mat (by omega) HSh.out
      have HMin := Lib.hid (l3Minimize_any A9 rows.length c9 rows wr hM9 hZ9)
      clear hM9 hZ9
      go_wp2_with fail
      refine HMin.out.mono ?_
      rintro e w9 ⟨v9, rows9, rfl, ho9, hs9, hb9⟩
      have HO9 := Lib.hid (ho9.less hB.size)
      have HB9 := Lib.hid (hB.trans (hb9.mono hB.size))
      clear ho9 hb9
      go_wp2
      go_ret
      exact ⟨v9, rows9, rfl, HO9.out, hs9, HB9.out⟩

theorem familyOfExpr_any (u : ByteArray) (hu : u.size ≤ 1048576) (w : World) : Calls Try.prog 54 #[.string u] w (FmRes w) := by
  have HV := specExprValid_any u hu w
  cases h : exOk u
  · rw [h] at HV
    have HC := Lib.hid HV
    clear h HV
    go_enter Try.func54, Try.ntmps54
    go_wp2_with fail
    refine HC.out.mono ?_
    rintro e wq ⟨rfl, hwq⟩
    subst wq
    go_wp2
    go_ret2
    exact fm_no (Below.refl _ _)
  · obtain ⟨h40, t, ht⟩ := exOk_tree h
    have HO := Lib.hid (l3OfExpr_any u t w h40 ⟨_, ht⟩)
    rw [h] at HV
    have HC := Lib.hid HV
    clear h HV h40 ht
    go_enter Try.func54, Try.ntmps54
    go_wp2_with fail
    refine HC.out.mono ?_
    rintro e wq ⟨rfl, hwq⟩
    subst wq
    go_wp2_with fail
    refine HO.out.mono ?_
    rintro e w9 ⟨v9, rows9, rfl, ho9, hs9, hb9⟩
    have HO9 := Lib.hid ho9
    have HB9 := Lib.hid hb9
    clear ho9 hb9
    go_wp2
    go_ret2
    exact ⟨v9, rows9, true, rfl, HO9.out, hs9, HB9.out⟩
end Go.Proofs.Ytiepoadnncnbkaa
