/- The reference's Resilience. -/
import Derived.Test.YtiepoadnncnbkaaMet2
namespace Go.Proofs.Ytiepoadnncnbkaa
open Go.RowKit
set_option maxHeartbeats 4000000

theorem specResil_any (A : Option Addr) (n c : Nat) (zss : List (List Int)) (x : Int) (w : World) (h : Mat w w.heap.size A n zss) (hz : SzOk zss n) :
    Calls Try.prog 25 #[.slice A n c, .int .i64 x] w fun e w' => e = .returned (.int .i64 (rsV zss n x)) ∧ Below w.heap.size w w' := by
  have H1 := specFits_any A n c zss x w h hz
  have HL := Lib.hid h.len
  have HM := Lib.hid h
  have HZ := Lib.hid hz
  clear h hz
  obtain ⟨p, hp⟩ : ∃ p, fitB zss n x = p := ⟨_, rfl⟩
  obtain ⟨r, hr⟩ : ∃ r, r = rsV zss n x := ⟨_, rfl⟩
  rw [hp] at H1
  rw [← hr]
  have K1 := Lib.hid H1
  have HP := Lib.hid hp
  have HR := Lib.hid hr
  clear H1 hp hr
  cases p
  · have HF : Hid (r = -1) := by rw [HR.out]; exact rs_no HP.out
    go_enter Try.func25, Try.ntmps25
    go_wp2_with fail
    refine K1.out.mono ?_
    rintro e wq ⟨rfl, hb⟩
    have HB := Lib.hid hb
    clear hb
    go_wp2
    go_ret
    exact ⟨ret_i' HF.out.symm, HB.out⟩
  obtain ⟨f1, f2, f3, f4⟩ := fit_parts HP.out
  obtain ⟨N, hN1, hN6, rfl⟩ := inB_nat f3
  obtain ⟨_, hto⟩ := famB_to f1
  rw [HL.out] at hto
  have HT := Lib.hid hto
  have HF : Hid (r = ((worstTo (mAt zss) n N 64 : Nat) : Int) - 1) := by rw [HR.out]; exact rs_yes HP.out
  have hwb := worst_bd (mAt zss) n N 64
  have hwr : wrap64 (((worstTo (mAt zss) n N 64 : Nat) : Int) - 1) = ((worstTo (mAt zss) n N 64 : Nat) : Int) - 1 := IntWalk.wrap64_in _ (by omega)
  have HWR := Lib.hid hwr
  clear f1 f2 f3 f4 hto hwr hwb
  go_enter Try.func25, Try.ntmps25
  go_wp2_with fail
  refine K1.out.mono ?_
  rintro e w1 ⟨rfl, hb1⟩
  have HB1 := Lib.hid hb1
  clear hb1
  go_wp2_with fail
  go_loopw [5, 6] (fun u i wr => ∃ k : Nat, k ≤ 64 ∧ i = .int .i64 k ∧ u = .int .i64 (worstTo (mAt zss) n N k : Nat) ∧ Below w.heap.size w wr) (fun _ i _ => 64 - (intOf i).toNat)
  case atStart => exact ⟨0, Nat.zero_le _, rfl, rfl, HB1.out⟩
  case round =>
    obtain ⟨k, hk, rfl, rfl, hB⟩ := hrel
    go_wp2_with fail
    refine (l1Masks_any _).mono ?_
    rintro e wq ⟨rfl, rfl⟩
    by_cases hkn : k < 64
    · have i1 : (k : Int) < 64 := by omega
      have hle := worst_bd (mAt zss) n N k
      have HX := Lib.hid (show worstTo (mAt zss) n N (k + 1) = (if lost (mAt zss) n N k = true then min (worstTo (mAt zss) n N k) (cnt k) else worstTo (mAt zss) n N k) from rfl)
      have HH := Lib.hid (show lost (mAt zss) n N k = (inM k (fst_ N) && !(anyTo (mAt zss) (fst_ N - k) n)) from rfl)
      have HSub := fun (W : World) (A3 : Option Addr) (c3 : Nat) (A4 : Option Addr) (c4 : Nat) (h3 : Row W W.heap.size A3 ((ofTo k 6).map (Value.int .i64))) (h4 : Row W W.heap.size A4 ((ofTo (fst_ N) 6).map (Value.int .i64))) =>
        l1Subset_any A3 (ofTo k 6).length c3 (ofTo k 6) A4 (ofTo (fst_ N) 6).length c4 (ofTo (fst_ N) 6) W W.heap.size h3 rfl (Nat.le_trans (ofTo_len k 6) (by omega)) h4 rfl (Nat.le_trans (ofTo_len (fst_ N) 6) (by omega))
      have HMin := fun (W : World) (A3 : Option Addr) (c3 : Nat) (A4 : Option Addr) (c4 : Nat) (h3 : Row W W.heap.size A3 ((ofTo k 6).map (Value.int .i64))) (h4 : Row W W.heap.size A4 ((ofTo (fst_ N) 6).map (Value.int .i64))) =>
        setMinus_any A4 (ofTo (fst_ N) 6).length c4 (ofTo (fst_ N) 6) A3 (ofTo k 6).length c3 (ofTo k 6) W h4 rfl (Nat.le_trans (ofTo_len (fst_ N) 6) (by omega)) h3 rfl (Nat.le_trans (ofTo_len k 6) (by omega)) (canon_set (fst_ N) (fst_lt N hN6)) (canon_set k hkn)
      have HHas := fun (W : World) (hb : Below w.heap.size w W) (ys : List Int) (A3 : Option Addr) (c3 : Nat) (h3 : Row W W.heap.size A3 (ys.map (Value.int .i64))) (hl : ys.length ≤ 1048576) =>
        l3Has_any A n c zss A3 ys.length c3 ys W ((HM.out.below hb).more hb.size) HZ.out h3 rfl hl
      have HE : inM k (fst_ N) = true → minusL (ofTo (fst_ N) 6) (ofTo k 6) = ofTo (fst_ N - k) 6 ∧ hasS zss (ofTo (fst_ N - k) 6) n = anyTo (mAt zss) (fst_ N - k) n := fun hi => by
        obtain ⟨_, _, e3, e4⟩ := fst_co N hN6 k hkn hi
        refine ⟨e4, ?_⟩
        have := has_any (zss := zss) (canon_set (fst_ N - k) e3) n HT.out
        rw [canon_mk (fst_ N - k) e3] at this
        exact this
      rw [fst_sub N hN6 k hkn] at HSub
      have hcl : (ofTo k 6).length = cnt k := rfl
      have hc6 := cnt_le k
      obtain ⟨p1, hp1⟩ : ∃ p1, p1 = inM k (fst_ N) := ⟨_, rfl⟩
      rw [← hp1] at HSub HH HE
      have KSub := Lib.hid HSub
      have KHas := Lib.hid HHas
      have KMin := Lib.hid HMin
      have KE := Lib.hid HE
      clear HSub HHas hp1 HMin HE
      generalize worstTo (mAt zss) n N k = cn at hle HX ⊢
      go_wp2_with fail
      refine (l1OfMask_any k (by omega) _).mono ?_
      rintro e w2 ⟨v, rfl, ho2, hb2⟩
      replace hb2 := hB.trans (hb2.mono hB.size)
      obtain ⟨A3, c3, rfl, _, _, hr3⟩ := owns_row ho2
      clear ho2 hB
      go_wp2_with fail
      refine (l12First_any N hN6 _).mono ?_
      rintro e w3 ⟨v, rfl, ho3, hb3⟩
      replace hr3 := (hr3.below hb3).more hb3.size
      replace hb3 := hb2.trans (hb3.mono hb2.size)
      obtain ⟨A4, c4, rfl, _, _, hr4⟩ := owns_row ho3
      clear ho3 hb2
      go_wp2_with fail
      refine (KSub.out w3 A3 c3 A4 c4 hr3 hr4).mono ?_
      rintro e wq ⟨rfl, rfl⟩
      cases p1
      · go_wp2
        go_roundw
        case rel => exact ⟨k + 1, by omega, by go_num, by rw [HX.out, HH.out]; rfl, hb3⟩
        case measure => simp [intOf]; omega
      · obtain ⟨e4, e5⟩ := KE.out rfl
        have hl5 := ofTo_len (fst_ N - k) 6
        have E4 := Lib.hid e4
        have E5 := Lib.hid e5
        clear e4 e5 hr4
        go_wp2_with fail
        refine (l12First_any N hN6 _).mono ?_
        rintro e w4 ⟨v, rfl, ho4, hb4⟩
        replace hr3 := (hr3.below hb4).more hb4.size
        replace hb4 := hb3.trans (hb4.mono hb3.size)
        obtain ⟨A5, c5, rfl, _, _, hr5⟩ := owns_row ho4
        clear ho4 hb3
        go_wp2_with fail
        refine (KMin.out w4 A3 c3 A5 c5 hr3 hr5).mono ?_
        rintro e w5 ⟨v, rfl, ho5, hb5⟩
        replace hb5 := hb4.trans (hb5.mono hb4.size)
        rw [E4.out] at ho5
        obtain ⟨A6, c6, rfl, _, _, hr6⟩ := owns_row ho5
        clear ho5 hb4 hr3 hr5
        have K5 := KHas.out w5 hb5 (ofTo (fst_ N - k) 6) A6 c6 hr6 (by omega)
        rw [E5.out] at K5
        obtain ⟨p2, hp2⟩ : ∃ p2, p2 = anyTo (mAt zss) (fst_ N - k) n := ⟨_, rfl⟩
        rw [← hp2] at K5 HH
        have K6 := Lib.hid K5
        clear K5 hp2 hr6
        go_wp2_with fail
        refine K6.out.mono ?_
        rintro e wq ⟨rfl, rfl⟩
        cases p2
        · go_wp2
          go_roundw
          case rel => exact ⟨k + 1, by omega, by go_num, by rw [HX.out, HH.out]; simp; split <;> omega, hb5⟩
          case measure => simp [intOf]; omega
        · go_wp2
          go_roundw
          case rel => exact ⟨k + 1, by omega, by go_num, by rw [HX.out, HH.out]; rfl, hb5⟩
          case measure => simp [intOf]; omega
    · obtain rfl : k = 64 := by omega
      go_wp2
      go_ret
      exact ⟨ret_i' (HWR.out.trans HF.out.symm), hB⟩
end Go.Proofs.Ytiepoadnncnbkaa
