/- The reference's Availability and Resilience. -/
import Derived.Test.YtiepoadnncnbkaaMet1
namespace Go.Proofs.Ytiepoadnncnbkaa
open Go.RowKit
set_option maxHeartbeats 4000000

theorem av_no {zss : List (List Int)} {n : Nat} {x : Int} (h : fitB zss n x = false) : avV zss n x = -1 := by
  unfold avV
  rw [h]
  rfl
theorem av_yes {zss : List (List Int)} {n N : Nat} (h : fitB zss n (N : Int) = true) : avV zss n (N : Int) = (cntTo (hit (mAt zss) n N) 64 : Nat) := by
  unfold avV
  rw [h]
  rfl
theorem rs_no {zss : List (List Int)} {n : Nat} {x : Int} (h : fitB zss n x = false) : rsV zss n x = -1 := by
  unfold rsV
  rw [h]
  rfl
theorem rs_yes {zss : List (List Int)} {n N : Nat} (h : fitB zss n (N : Int) = true) : rsV zss n (N : Int) = ((worstTo (mAt zss) n N 64 : Nat) : Int) - 1 := by
  unfold rsV
  rw [h]
  rfl
theorem ret_i' {a b : Int} (h : a = b) : Ending.returned (.int .i64 a) = .returned (.int .i64 b) := by rw [h]

theorem specAvail_any (A : Option Addr) (n c : Nat) (zss : List (List Int)) (x : Int) (w : World) (h : Mat w w.heap.size A n zss) (hz : SzOk zss n) :
    Calls Try.prog 23 #[.slice A n c, .int .i64 x] w fun e w' => e = .returned (.int .i64 (avV zss n x)) ∧ Below w.heap.size w w' := by
  have H1 := specFits_any A n c zss x w h hz
  have HL := Lib.hid h.len
  have HM := Lib.hid h
  have HZ := Lib.hid hz
  clear h hz
  obtain ⟨p, hp⟩ : ∃ p, fitB zss n x = p := ⟨_, rfl⟩
  obtain ⟨r, hr⟩ : ∃ r, r = avV zss n x := ⟨_, rfl⟩
  rw [hp] at H1
  rw [← hr]
  have K1 := Lib.hid H1
  have HP := Lib.hid hp
  have HR := Lib.hid hr
  clear H1 hp hr
  cases p
  · have HF : Hid (r = -1) := by rw [HR.out]; exact av_no HP.out
    go_enter Try.func23, Try.ntmps23
    go_wp2_with fail
    refine K1.out.mono ?_
    rintro e wq ⟨rfl, hb⟩
    have HB := Lib.hid hb
    clear hb
    go_wp2
    go_ret
    exact ⟨ret_i' HF.out.symm, HB.out⟩
  obtain ⟨f1, f2, f3, f4⟩ := fit_parts HP.out
  obtain ⟨N, hN1, hN6, rfl⟩ := inB_nat f3
  obtain ⟨_, hto⟩ := famB_to f1
  rw [HL.out] at hto
  have HT := Lib.hid hto
  have HF : Hid (r = (cntTo (hit (mAt zss) n N) 64 : Nat)) := by rw [HR.out]; exact av_yes HP.out
  clear f1 f2 f3 f4 hto
  go_enter Try.func23, Try.ntmps23
  go_wp2_with fail
  refine K1.out.mono ?_
  rintro e w1 ⟨rfl, hb1⟩
  have HB1 := Lib.hid hb1
  clear hb1
  go_wp2_with fail
  go_loopw [5, 6] (fun u i wr => ∃ k : Nat, k ≤ 64 ∧ i = .int .i64 k ∧ u = .int .i64 (cntTo (hit (mAt zss) n N) k : Nat) ∧ Below w.heap.size w wr) (fun _ i _ => 64 - (intOf i).toNat)
  case atStart => exact ⟨0, Nat.zero_le _, rfl, rfl, HB1.out⟩
  case round =>
    obtain ⟨k, hk, rfl, rfl, hB⟩ := hrel
    go_wp2_with fail
    refine (l1Masks_any _).mono ?_
    rintro e wq ⟨rfl, rfl⟩
    by_cases hkn : k < 64
    · have i1 : (k : Int) < 64 := by omega
      have hle := cntTo_le (hit (mAt zss) n N) k
      have HX := Lib.hid (show cntTo (hit (mAt zss) n N) (k + 1) = cntTo (hit (mAt zss) n N) k + (if hit (mAt zss) n N k = true then 1 else 0) from rfl)
      have HH := Lib.hid (show hit (mAt zss) n N k = (inM k (fst_ N) && anyTo (mAt zss) k n) from rfl)
      have HSub := fun (W : World) (A3 : Option Addr) (c3 : Nat) (A4 : Option Addr) (c4 : Nat) (h3 : Row W W.heap.size A3 ((ofTo k 6).map (Value.int .i64))) (h4 : Row W W.heap.size A4 ((ofTo (fst_ N) 6).map (Value.int .i64))) =>
        l1Subset_any A3 (ofTo k 6).length c3 (ofTo k 6) A4 (ofTo (fst_ N) 6).length c4 (ofTo (fst_ N) 6) W W.heap.size h3 rfl (Nat.le_trans (ofTo_len k 6) (by omega)) h4 rfl (Nat.le_trans (ofTo_len (fst_ N) 6) (by omega))
      have HHas := fun (W : World) (hb : Below w.heap.size w W) (A3 : Option Addr) (c3 : Nat) (h3 : Row W W.heap.size A3 ((ofTo k 6).map (Value.int .i64))) =>
        l3Has_any A n c zss A3 (ofTo k 6).length c3 (ofTo k 6) W ((HM.out.below hb).more hb.size) HZ.out h3 rfl (Nat.le_trans (ofTo_len k 6) (by omega))
      have hhas := has_any (zss := zss) (canon_set k hkn) n HT.out
      rw [canon_mk k hkn] at hhas
      rw [hhas] at HHas
      rw [fst_sub N hN6 k hkn] at HSub
      clear hhas
      obtain ⟨p1, hp1⟩ : ∃ p1, p1 = inM k (fst_ N) := ⟨_, rfl⟩
      obtain ⟨p2, hp2⟩ : ∃ p2, p2 = anyTo (mAt zss) k n := ⟨_, rfl⟩
      rw [← hp1] at HSub HH
      rw [← hp2] at HHas HH
      have KSub := Lib.hid HSub
      have KHas := Lib.hid HHas
      clear HSub HHas hp1 hp2
      generalize cntTo (hit (mAt zss) n N) k = cn at hle HX ⊢
      go_wp2_with fail
      refine (l1OfMask_any k (by omega) _).mono ?_
      rintro e w2 ⟨v, rfl, ho2, hb2⟩
      replace hb2 := hB.trans (hb2.mono hB.size)
      obtain ⟨A3, c3, rfl, _, _, hr3⟩ := owns_row ho2
      clear ho2 hB
      go_wp2_with fail
      refine (l12First_any N hN6 _).mono ?_
      rintro e w3 ⟨v, rfl, ho3, hb3⟩
      replace hr3 := (hr3.below hb3).more hb3.size
      replace hb3 := hb2.trans (hb3.mono hb2.size)
      obtain ⟨A4, c4, rfl, _, _, hr4⟩ := owns_row ho3
      clear ho3 hb2
      go_wp2_with fail
      refine (KSub.out w3 A3 c3 A4 c4 hr3 hr4).mono ?_
      rintro e wq ⟨rfl, rfl⟩
      cases p1
      · go_wp2
        go_roundw
        case rel => exact ⟨k + 1, by omega, by go_num, by rw [HX.out, HH.out]; rfl, hb3⟩
        case measure => simp [intOf]; omega
      · go_wp2_with fail
        refine (KHas.out _ hb3 A3 c3 hr3).mono ?_
        rintro e wq ⟨rfl, rfl⟩
        cases p2
        · go_wp2
          go_roundw
          case rel => exact ⟨k + 1, by omega, by go_num, by rw [HX.out, HH.out]; rfl, hb3⟩
          case measure => simp [intOf]; omega
        · go_wp2
          go_roundw
          case rel => exact ⟨k + 1, by omega, by go_num, by rw [HX.out, HH.out]; go_num, hb3⟩
          case measure => simp [intOf]; omega
    · obtain rfl : k = 64 := by omega
      go_wp2
      go_ret
      exact ⟨ret_i' HF.out.symm, hB⟩
end Go.Proofs.Ytiepoadnncnbkaa
