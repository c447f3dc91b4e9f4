/- readFamily: the program reads a quorum system. -/
import Derived.Test.YtafhpbghogdipaaGreatDoorFam0
import Derived.Test.YtafhpbghogdipaaGreatDoorMat1
import Derived.Test.YtafhpbghogdipaaGreatDoorSet7
import Derived.Test.YtafhpbghogdipaaGreatDoorOwn
namespace Go.Proofs.YtafhpbghogdipaaGreatDoor
open Go.RowKit
set_option maxHeartbeats 2000000

theorem within_is (a b : Nat) (w : World) (ha : a < 64) (hb : b < 64) : Calls Tryz.prog 75 #[.int .u64 a, .int .u64 b] w fun e w' => e = .returned (.bool (inM a b)) ∧ w' = w :=
  within_any a b w ha hb

/-- The masks of the first k lists, as cells. -/
def mV (g : Nat → Nat) (k : Nat) : List Value := (List.range k).map fun j => Value.int .u64 (g j)
theorem mV_len (g : Nat → Nat) (k : Nat) : (mV g k).length = k := by simp [mV]
theorem mV_next (g : Nat → Nat) (k : Nat) : mV g (k + 1) = mV g k ++ [Value.int .u64 (g k)] := by simp [mV, List.range_succ]
theorem Row.msk {w : World} {B : Nat} {A : Option Addr} {g : Nat → Nat} {n : Nat} (h : Row w B A (mV g n)) {k : Nat} (hk : k < n) : ∃ b off, A = some ⟨b, off, none⟩ ∧ b < B ∧ w.cell? ⟨b, off + k, none⟩ = some (.int .u64 (g k)) :=
  h.at_ (by simp [mV, hk])

theorem reached_any (g : Nat → Nat) (A : Option Addr) (n c m : Nat) (w : World) (B : Nat) (hA : Row w B A (mV g n)) (hg : ∀ j, j < n → g j < 64) (hm : m < 64) (hn : n ≤ 20) :
    Calls Tryz.prog 43 #[.slice A n c, .int .u64 m] w fun e w' => e = .returned (.bool (anyTo g m n)) ∧ w' = w := by
  have HA := Lib.hid hA
  have HG := Lib.hid hg
  clear hA hg
  obtain ⟨r, hr⟩ : ∃ r, r = anyTo g m n := ⟨_, rfl⟩
  rw [← hr]
  have HR := Lib.hid hr
  clear hr
  go_enter Tryz.func43, Tryz.ntmps43
  go_wp2
  go_loop [9] (fun i => ∃ k : Nat, k ≤ n ∧ i = .int .i64 k ∧ anyTo g m k = false) (fun i => n - (intOf i).toNat)
  case atStart => exact ⟨0, Nat.zero_le _, rfl, rfl⟩
  case round =>
    obtain ⟨k, hk, rfl, hno⟩ := hrel
    have HN := Lib.hid hno
    clear hno
    by_cases hkn : k < n
    · have i1 : (k : Int) < n := by omega
      obtain ⟨b, off, rfl, _, hc⟩ := HA.out.msk hkn
      have h64 := HG.out k hkn
      have hnx : anyTo g m (k + 1) = (anyTo g m k || inM (g k) m) := rfl
      have HX := Lib.hid hnx
      have hyes := fun h : inM (g k) m = true => any_is (g := g) (m := m) hkn h
      have HY := Lib.hid hyes
      clear hnx hyes
      generalize g k = v at hc h64 HX HY
      cases hb : inM v m
      · go_wp2_with (go_at_call 75; refine (within_is _ _ _ h64 hm).mono ?_; rintro e w' ⟨rfl, rfl⟩)
        go_round
        case rel => exact ⟨k + 1, by omega, by go_num, by rw [HX.out, HN.out, hb]; rfl⟩
        case measure => simp [intOf]; omega
      · have ht : r = true := by rw [HR.out]; exact HY.out hb
        have HT := Lib.hid ht
        clear ht
        go_wp2_with (go_at_call 75; refine (within_is _ _ _ h64 hm).mono ?_; rintro e w' ⟨rfl, rfl⟩)
        go_ret
        exact ⟨ret_bool' HT.out.symm, rfl⟩
    · obtain rfl : k = n := by omega
      have ht : r = false := by rw [HR.out]; exact HN.out
      have HT := Lib.hid ht
      clear ht
      go_wp2
      go_ret
      exact ⟨ret_bool' HT.out.symm, rfl⟩

/-- What readFamily hands back. -/
def FamRes (zss : List (List Int)) (n : Nat) (w : World) (e : Ending) (w' : World) : Prop := ∃ v, e = .returned (.tuple #[v, .bool (famB zss)]) ∧ (famB zss = true → w'.ownsRow w.heap.size 46 1 v n (mV (mAt zss) n)) ∧ Below w.heap.size w w'
theorem FamRes.no {zss : List (List Int)} {n : Nat} {w w' : World} {v : Value} (h : famB zss = false) (hb : Below w.heap.size w w') : FamRes zss n w (.returned (.tuple #[v, .bool false])) w' := ⟨v, by rw [h], fun h2 => (by rw [h] at h2; cases h2), hb⟩
theorem FamRes.yes {zss : List (List Int)} {n : Nat} {w w' : World} {v : Value} (h : famB zss = true) (ho : w'.ownsRow w.heap.size 46 1 v n (mV (mAt zss) n)) (hb : Below w.heap.size w w') : FamRes zss n w (.returned (.tuple #[v, .bool true])) w' := ⟨v, by rw [h], fun _ => ho, hb⟩
theorem crew_info : (Tryz.prog.info? 46).map (fun i => (i.zero, i.size, i.bytes)) = some (some (.int .u64 0), 1, 8) := by kernel_rfl

theorem rowA_of {zss : List (List Int)} {k : Nat} : rowA zss k = (sAt zss k && !(mAt zss k == 0) && (k == 0 || decide (mAt zss (k - 1) < mAt zss k)) && !(anyTo (mAt zss) (mAt zss k) k)) := rfl
set_option maxRecDepth 100000 in
theorem readFamily_any (A : Option Addr) (n c : Nat) (zss : List (List Int)) (w : World) (h : Mat w w.heap.size A n zss) (hz : SzOk zss n) : Calls Tryz.prog 25 #[.slice A n c] w (FamRes zss n w) := by
  have hl := h.len
  have hn1 := hz.1
  by_cases hn : 20 < n
  · have hr : famB zss = false := fam_big (by omega)
    have HR := Lib.hid hr
    clear hr
    go_enter Tryz.func25, Tryz.ntmps25
    go_wp2
    go_ret2
    exact FamRes.no HR.out (Below.refl _ _)
  obtain ⟨i0, hi, hz0, hz1, hz2⟩ := info_parts crew_info
  have HM := Lib.hid h
  have HZ := Lib.hid hz
  have HL := Lib.hid hl
  have HI := Lib.hid hi
  have HI0 := Lib.hid hz0
  have HI1 := Lib.hid hz1
  have HI2 := Lib.hid hz2
  clear h hz hl hi hz0 hz1 hz2
  go_enter Tryz.func25, Tryz.ntmps25
  go_wp2
  go_loopw [4, 14] (fun u i wr => ∃ k : Nat, k ≤ n ∧ i = .int .i64 k ∧ wr.ownsRow w.heap.size 46 1 u k (mV (mAt zss) k) ∧ famTo zss k = true ∧ Below w.heap.size w wr) (fun _ i _ => n - (intOf i).toNat)
  case atStart => exact ⟨0, Nat.zero_le _, rfl, World.ownsRow_nil _ _ _ _, rfl, Below.refl _ _⟩
  case round =>
    obtain ⟨k, hk, rfl, hown, hto, hB⟩ := hrel
    have HT := Lib.hid hto
    have HO := Lib.hid hown
    have hsz := hB.size
    clear hto hown
    by_cases hkn : k < n
    · have i1 : (k : Int) < n := by omega
      have hkl : k < zss.length := by rw [HL.out]; exact hkn
      have hMr := HM.out.below hB
      obtain ⟨b, off, C, cc, g⟩ := hMr.get hkn
      have G := Lib.hid g
      obtain rfl := g.adr
      have hcell := g.cell
      have K := readSet_mask C _ cc (rw_ zss k) wr (g.row.more hsz) rfl (HZ.out.2 k hkn)
      unfold MaskRes at K
      have hbad := fun h => fam_bad (zss := zss) hkl h
      have HBad := Lib.hid hbad
      have HRow := Lib.hid (@rowA_of zss k)
      clear g hMr hbad
      have hnext : famTo zss (k + 1) = (famTo zss k && rowA zss k) := rfl
      have HNext := Lib.hid hnext
      clear hnext
      obtain ⟨p, hp⟩ : ∃ p, p = sAt zss k := ⟨_, rfl⟩
      have hp' : setB (rw_ zss k) = p := hp.symm
      rw [hp'] at K
      have HP := Lib.hid hp
      have HK := Lib.hid K
      clear hp hp' K
      obtain ⟨AQ, cq, rfl, _, _, hqrow⟩ := owns_row HO.out
      have HQ := Lib.hid hqrow
      clear hqrow
      cases p
      · have hr : famB zss = false := HBad.out (by rw [HRow.out, ← HP.out]; rfl)
        have HR := Lib.hid hr
        clear hr
        go_wp2_with (go_at_call 42; refine HK.out.mono ?_; rintro e w' ⟨m, rfl, -, rfl⟩)
        go_ret2
        exact FamRes.no HR.out hB
      · have hm64 : mAt zss k < 64 := m_small HP.out.symm
        have hmk : sumTo (rw_ zss k) (rw_ zss k).length = mAt zss k := rfl
        have hin : ∀ j, j < k → mAt zss j < 64 := fun j hj => m_small (fam_set hj HT.out)
        have HIn := Lib.hid hin
        clear hin
        obtain ⟨m, hm⟩ : ∃ m, m = mAt zss k := ⟨_, rfl⟩
        have HMk := Lib.hid hm
        have HRch := Lib.hid (reached_any (mAt zss) AQ k cq m wr _ HQ.out HIn.out (by omega) (by omega))
        rw [← hm] at hm64 hmk
        clear hm
        have HMk2 := Lib.hid hmk
        clear hmk
        by_cases hm0 : m = 0
        · subst hm0
          have hr : famB zss = false := HBad.out (by rw [HRow.out, ← HP.out, ← HMk.out]; rfl)
          have HR := Lib.hid hr
          clear hr
          go_wp2_with (go_at_call 42; refine HK.out.mono ?_; rintro e w' ⟨m1, rfl, hm1, rfl⟩; have hm2 : m1 = 0 := (by rw [hm1 rfl]; exact HMk2.out); clear hm1; subst hm2)
          go_ret2
          exact FamRes.no HR.out hB
        · have hmz : (((m : Nat) : Int) == 0) = false := by simp; omega
          obtain ⟨q, hq⟩ : ∃ q, q = anyTo (mAt zss) m k := ⟨_, rfl⟩
          have hrq := HRch.out
          rw [← hq] at hrq
          have HRq := Lib.hid hrq
          have HQv := Lib.hid hq
          clear hrq hq
          by_cases hk0 : k = 0
          · have hd : decide ((0 : Int) < k) = false := by simp; omega
            have hd0 : decide (0 < k) = false := by simp; omega
            obtain rfl : q = false := by rw [HQv.out, hk0]; rfl
            have hrow : rowA zss k = true := by rw [HRow.out, ← HP.out, ← HMk.out, ← HQv.out]; simp [hm0, hk0]
            have HW := Lib.hid hrow
            clear hrow hk0
            go_wp2_with (first | (go_at_call 42; refine HK.out.mono ?_; rintro e w' ⟨m1, rfl, hm1, rfl⟩; have hm2 : m = m1 := (by rw [hm1 rfl]; exact HMk2.out.symm); clear hm1; subst hm2) | (go_at_call 43; refine HRq.out.mono ?_; rintro e w' ⟨rfl, rfl⟩) | (at_builtin; refine wpl_append1 rfl _ _ 34 (by rfl) w.heap.size 46 i0 (.int .u64 0) 1 8 Tryz.underlying34 HI.out HI0.out HI1.out HI2.out rfl (by omega) _ k _ (by rfl) HO.out #[.int .u64 m] rfl (by rfl) (by simp [Value.oneCell']) (by omega) (by omega) hsz ?_; intro v' w1 hown1 hb1 _ _))
            go_roundw
            case rel => exact ⟨k + 1, by omega, by go_num, by rw [mV_next, ← HMk.out]; exact hown1, by rw [HNext.out, HT.out, HW.out]; rfl, hB.trans hb1⟩
            case measure => simp [intOf]; omega
          · have hd : decide ((0 : Int) < k) = true := by simp; omega
            have hd0 : decide (0 < k) = true := by simp; omega
            obtain ⟨bq, oq, rfl, _, hcq⟩ := HQ.out.msk (k := k - 1) (by omega)
            have HPv := Lib.hid (show mAt zss (k - 1) = mAt zss (k - 1) from rfl)
            obtain ⟨u, hu⟩ : ∃ u, u = mAt zss (k - 1) := ⟨_, rfl⟩
            rw [← hu] at hcq
            have HU := Lib.hid hu
            clear hu HPv
            have j2 : (0 : Int) ≤ (k : Int) - 1 := by omega
            have j2' : (1 : Int) ≤ (k : Int) := by omega
            have j3 : ((k : Int) - 1).toNat = k - 1 := by omega
            have j4 : (k : Int) - 1 < k := by omega
            by_cases huv : u < m
            · have hd2 : ¬ m ≤ u := by omega
              have hd3 : ¬ (m : Int) ≤ u := by omega
              cases q
              · have hrow : rowA zss k = true := by rw [HRow.out, ← HP.out, ← HMk.out, ← HQv.out, ← HU.out]; simp [hm0, huv]
                have HW := Lib.hid hrow
                clear hrow hk0 huv
                go_wp2_with (first | (go_at_call 42; refine HK.out.mono ?_; rintro e w' ⟨m1, rfl, hm1, rfl⟩; have hm2 : m = m1 := (by rw [hm1 rfl]; exact HMk2.out.symm); clear hm1; subst hm2) | (go_at_call 43; refine HRq.out.mono ?_; rintro e w' ⟨rfl, rfl⟩) | (at_builtin; refine wpl_append1 rfl _ _ 34 (by rfl) w.heap.size 46 i0 (.int .u64 0) 1 8 Tryz.underlying34 HI.out HI0.out HI1.out HI2.out rfl (by omega) _ k _ (by rfl) HO.out #[.int .u64 m] rfl (by rfl) (by simp [Value.oneCell']) (by omega) (by omega) hsz ?_; intro v' w1 hown1 hb1 _ _))
                go_roundw
                case rel => exact ⟨k + 1, by omega, by go_num, by rw [mV_next, ← HMk.out]; exact hown1, by rw [HNext.out, HT.out, HW.out]; rfl, hB.trans hb1⟩
                case measure => simp [intOf]; omega
              · have hr : famB zss = false := HBad.out (by rw [HRow.out, ← HP.out, ← HMk.out, ← HQv.out]; simp)
                have HR := Lib.hid hr
                clear hr hk0 huv
                go_wp2_with (first | (go_at_call 42; refine HK.out.mono ?_; rintro e w' ⟨m1, rfl, hm1, rfl⟩; have hm2 : m = m1 := (by rw [hm1 rfl]; exact HMk2.out.symm); clear hm1; subst hm2) | (go_at_call 43; refine HRq.out.mono ?_; rintro e w' ⟨rfl, rfl⟩))
                go_ret2
                exact FamRes.no HR.out hB
            · have hd2 : m ≤ u := by omega
              have hd3 : (m : Int) ≤ u := by omega
              have hr : famB zss = false := HBad.out (by rw [HRow.out, ← HP.out, ← HMk.out, ← HU.out]; simp [hk0, huv])
              have HR := Lib.hid hr
              clear hr hk0 huv
              go_wp2_with (first | (go_at_call 42; refine HK.out.mono ?_; rintro e w' ⟨m1, rfl, hm1, rfl⟩; have hm2 : m = m1 := (by rw [hm1 rfl]; exact HMk2.out.symm); clear hm1; subst hm2))
              go_ret2
              exact FamRes.no HR.out hB
    · obtain rfl : k = n := by omega
      have hr : famB zss = true := fam_ok (by rw [HL.out]; omega) (by rw [HL.out]; exact HT.out)
      have HR := Lib.hid hr
      clear hr
      go_wp2
      go_ret2
      exact FamRes.yes HR.out HO.out hB
end Go.Proofs.YtafhpbghogdipaaGreatDoor
