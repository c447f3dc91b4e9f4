/- The reference's l4Sum and WeightsFamily. -/
import Derived.Test.YtiepoadnncnbkaaSqN
import Derived.Test.YtiepoadnncnbkaaWts1
namespace Go.Proofs.Ytiepoadnncnbkaa
open Go.RowKit
set_option maxHeartbeats 4000000
set_option linter.unusedVariables false

theorem l4Sum_any (A : Option Addr) (n c : Nat) (zs : List Int) (A2 : Option Addr) (n2 c2 : Nat) (ys : List Int) (w : World) (hA : Row w w.heap.size A (zs.map (Value.int .i64))) (hl : zs.length = n) (hn : n ≤ 1048576)
    (hB : Row w w.heap.size A2 (ys.map (Value.int .i64))) (hl2 : ys.length = n2) (hn2 : n2 ≤ 1048576) (hs : ∀ y ∈ ys, 1 ≤ y ∧ y ≤ 6) :
    Calls Try.prog 68 #[.slice A n c, .slice A2 n2 c2] w fun e w' => ∃ x : Int, e = .returned (.int .i64 x) ∧ w' = w := by
  have HA := Lib.hid (hA.src hl)
  have HB := Lib.hid (hB.src hl2)
  have HS : Hid (∀ k, k < n2 → ∃ t : Nat, t ≤ 5 ∧ ys.getD k 0 = (t : Int) + 1) := Lib.hid (fun k hk => by
    have h1 := hs (ys.getD k 0) (by
      rw [List.getD_eq_getElem?_getD]
      have hk' : k < ys.length := by omega
      simp [hk'])
    exact ⟨(ys.getD k 0 - 1).toNat, by omega, by omega⟩)
  clear hA hB hl hl2 hs
  go_enter Try.func68, Try.ntmps68
  go_wp2
  go_loop [5, 6] (fun u i => ∃ (k : Nat) (x : Int), k ≤ n2 ∧ i = .int .i64 k ∧ u = .int .i64 x) (fun _ i => n2 - (intOf i).toNat)
  case atStart => exact ⟨0, 0, Nat.zero_le _, rfl, rfl⟩
  case round =>
    obtain ⟨k, x, hk, rfl, rfl⟩ := hrel
    by_cases hkn : k < n2
    · have i1 : (k : Int) < n2 := by omega
      obtain ⟨b2, off2, rfl, _, hc2⟩ := HB.out k hkn
      obtain ⟨t, ht, hy⟩ := HS.out k hkn
      rw [hy] at hc2
      clear hy
      by_cases htn : t < n
      · have i2 : (t : Int) + 1 ≤ n := by omega
        have i3 : wrap64 (t : Int) = t := IntWalk.wrap64_in _ (by omega)
        have i4 : (t : Int) < n := by omega
        have i5 : wrap64 ((t : Int) + 1 - 1) = t := by rw [show (t : Int) + 1 - 1 = t by omega]; exact i3
        obtain ⟨b, off, rfl, _, hc⟩ := HA.out t htn
        generalize zs.getD t 0 = z at hc
        go_wp2
        go_round
        case rel => exact ⟨k + 1, _, by omega, by go_num, rfl⟩
        case measure => simp [intOf]; omega
      · have i2 : ¬ (t : Int) + 1 ≤ n := by omega
        go_wp2
        go_round
        case rel => exact ⟨k + 1, _, by omega, by go_num, rfl⟩
        case measure => simp [intOf]; omega
    · obtain rfl : k = n2 := by omega
      go_wp2
      go_ret
      exact ⟨⟨x, rfl⟩, rfl⟩

/-- The call has made a short list of short rows, and says whether it is good. -/
def FmRes (w : World) (e : Ending) (w' : World) : Prop := ∃ v rows ok, e = .returned (.tuple #[v, .bool ok]) ∧ OwnM w' w.heap.size v rows ∧ (rows.length ≤ 64 ∧ ∀ z ∈ rows, Short z) ∧ Below w.heap.size w w'
theorem fm_no {w w1 : World} (hb : Below w.heap.size w w1) : FmRes w (.returned (.tuple #[.slice (some ⟨w1.heap.size, 0, none⟩) 0 0, .bool false])) (w1.alloc (.cells #[] 27)) :=
  ⟨_, [], false, rfl, OwnM.empty w1 hb.size, ⟨by simp, fun z h => (by cases h)⟩, hb.alloc hb.size _⟩
theorem l1Of63' (w : World) : Calls Try.prog 37 #[.int .i64 63] w fun e w' =>
    ∃ v, e = .returned v ∧ OwnI w' w.heap.size v (ofTo 63 6) ∧ Below w.heap.size w w' := l1OfMask_any 63 (by omega) w

theorem weightsFamily_any (A : Option Addr) (n c : Nat) (zs : List Int) (need : Int) (w : World) (hA : Row w w.heap.size A (zs.map (Value.int .i64))) (hl : zs.length = n) (hn : n ≤ 1048576) :
    Calls Try.prog 56 #[.slice A n c, .int .i64 need] w (FmRes w) := by
  have H1 := specWeights_any A n c zs w hA hl hn
  have HSum := Lib.hid (fun (W : World) (hb : Below w.heap.size w W) (m : Nat) (A3 : Option Addr) (k3 c3 : Nat) (h3 : Row W W.heap.size A3 ((ofTo m 6).map (Value.int .i64))) (hl3 : (ofTo m 6).length = k3) =>
    l4Sum_any A n c zs A3 k3 c3 (ofTo m 6) W ((hA.below hb).more hb.size) hl hn h3 hl3 (by have := ofTo_len m 6; omega) (short_of m).2)
  obtain ⟨p, hp⟩ : ∃ p, wtsB zs = p := ⟨_, rfl⟩
  rw [hp] at H1
  have K1 := Lib.hid H1
  clear hA hl H1 hp
  go_enter Try.func56, Try.ntmps56
  go_wp2_with fail
  refine K1.out.mono ?_
  rintro e wq ⟨rfl, hw⟩
  subst wq
  cases p
  · go_wp2
    go_ret2
    exact fm_no (Below.refl _ _)
  go_wp2_with fail
  refine (l1Masks_any _).mono ?_
  rintro e wq ⟨rfl, hw⟩
  subst wq
  go_wp2_with fail
  refine (l1Of63' _).mono ?_
  rintro e w2 ⟨s, rfl, ho2, hb2⟩
  obtain ⟨A3, c3, hv, _, _, hr3⟩ := owns_row ho2
  have hv' : s = .slice A3 6 c3 := hv
  subst hv'
  have HS2 := Lib.hid (HSum.out w2 hb2 63 A3 6 c3 hr3 rfl)
  clear hv ho2 hr3
  go_wp2_with fail
  refine HS2.out.mono ?_
  rintro e w3 ⟨x, rfl, rfl⟩
  have H6 := l6In_any need 1 x w3
  obtain ⟨q, hq⟩ : ∃ q, inB need 1 x = q := ⟨_, rfl⟩
  rw [hq] at H6
  have K6 := Lib.hid H6
  clear H6 hq
  go_wp2_with fail
  refine K6.out.mono ?_
  rintro e w4 ⟨rfl, rfl⟩
  cases q
  · go_wp2
    go_ret2
    exact fm_no hb2
  go_wp2_with fail
  have hB2 := Lib.hid hb2
  clear hb2
  go_loopw [6, 7] (fun u i wr => ∃ (k : Nat) (rows : List (List Int)), k ≤ 64 ∧ i = .int .i64 k ∧ OwnM wr w.heap.size u rows ∧ rows.length ≤ k ∧ (∀ z ∈ rows, Short z) ∧ Below w.heap.size w wr) (fun _ i _ => 64 - (intOf i).toNat)
  case atStart => exact ⟨0, [], Nat.zero_le _, rfl, OwnM.empty _ hB2.out.size, Nat.le_refl _, (fun z h => by cases h), hB2.out.alloc hB2.out.size _⟩
  case round =>
    obtain ⟨k, rows, hk, rfl, hown, hrl, hsh, hB⟩ := hrel
    have HO := Lib.hid hown
    have HSh := Lib.hid hsh
    clear hown hsh
    go_wp2_with fail
    refine (l1Masks_any _).mono ?_
    rintro e wq ⟨rfl, hwq⟩
    subst wq
    by_cases hkn : k < 64
    · have i1 : (k : Int) < 64 := by omega
      go_wp2_with fail
      refine (l1OfMask_any k (by omega) _).mono ?_
      rintro e w5 ⟨s, rfl, ho5, hb5⟩
      have HO5 := Lib.hid (HO.out.below hb5 (Nat.le_refl _))
      replace hb5 := hB.trans (hb5.mono hB.size)
      obtain ⟨A5, c5, rfl, _, _, hr5⟩ := owns_row ho5
      obtain ⟨L, hL⟩ : ∃ L, (ofTo k 6).length = L := ⟨_, rfl⟩
      have HS5 := Lib.hid (HSum.out w5 hb5 k A5 L c5 hr5 hL)
      rw [hL]
      clear ho5 hr5 hL HO hB
      go_wp2_with fail
      refine HS5.out.mono ?_
      rintro e w6 ⟨x2, rfl, rfl⟩
      by_cases hx : need ≤ x2
      · go_wp2_with fail
        refine (l1OfMask_any k (by omega) _).mono ?_
        rintro e w7 ⟨s, rfl, ho7, hb7⟩
        have HO7 := Lib.hid (HO5.out.below hb7 (Nat.le_refl _))
        have hh7 := Lib.hid (Hd.of_own (v := _) ho7 hb5.size HO5.out.lt)
        replace hb7 := hb5.trans (hb7.mono hb5.size)
        have hs7 := hb7.size
        obtain ⟨A7, c7, rfl, _, _, _⟩ := owns_row ho7
        clear ho7
        go_wp2_with (at_builtin; refine wpl_append_row rfl _ _ (by rfl) w.heap.size _ rows _ (ofTo k 6) (by rfl) HO7.out hh7.out (by rfl) (by omega) hs7 ?_; intro v8 w8 hown8 hb8 _)
        go_roundw
        case rel => exact ⟨k + 1, rows ++ [ofTo k 6], by omega, by go_num, hown8, by simp; omega, short_snoc HSh.out (short_of k), hb7.trans hb8⟩
        case measure => simp [intOf]; omega
      · go_wp2
        go_roundw
        case rel => exact ⟨k + 1, rows, by omega, by go_num, HO5.out, by omega, HSh.out, hb5⟩
        case measure => simp [intOf]; omega
    · obtain rfl : k = 64 := by omega
      obtain ⟨A9, c9, rfl, _, _, hM9, hZ9⟩ := HO.out.mat (by omega) HSh.out
      have HMin := Lib.hid (l3Minimize_any A9 rows.length c9 rows wr hM9 hZ9)
      clear hM9 hZ9
      go_wp2_with fail
      refine HMin.out.mono ?_
      rintro e w9 ⟨v9, rows9, rfl, ho9, hs9, hb9⟩
      have HO9 := Lib.hid (ho9.less hB.size)
      have HB9 := Lib.hid (hB.trans (hb9.mono hB.size))
      clear ho9 hb9
      go_wp2
      go_ret2
      exact ⟨v9, rows9, true, rfl, HO9.out, hs9, HB9.out⟩
end Go.Proofs.Ytiepoadnncnbkaa
