/- The reference's l12First, l12Fits. -/
import Derived.Test.YtiepoadnncnbkaaMet0
import Derived.Test.YtiepoadnncnbkaaFam5
import Derived.Deep.QuietTactic
namespace Go.Proofs.Ytiepoadnncnbkaa
open Go.RowKit
set_option maxHeartbeats 4000000

theorem fst_next : ∀ k, k < 6 → ofTo (fst_ (k + 1)) 6 = ofTo (fst_ k) 6 ++ [(k : Int) + 1] := by decide +kernel
theorem l12First_any (N : Nat) (hN : N ≤ 6) (w : World) : Calls Try.prog 41 #[.int .i64 (N : Int)] w fun e w' =>
    ∃ v, e = .returned v ∧ OwnI w' w.heap.size v (ofTo (fst_ N) 6) ∧ Below w.heap.size w w' := by
  go_enter Try.func41, Try.ntmps41
  go_wp2
  go_loopw [3, 4] (fun v i wr => ∃ k : Nat, k ≤ N ∧ i = .int .i64 ((k + 1 : Nat) : Int) ∧ OwnI wr w.heap.size v (ofTo (fst_ k) 6) ∧ Below w.heap.size w wr) (fun _ i _ => 7 - (intOf i).toNat)
  case atStart => exact ⟨0, by omega, rfl, owns_empty w _ (Nat.le_refl _), (Below.refl _ _).alloc (Nat.le_refl _) _⟩
  case round =>
    obtain ⟨k, hk, rfl, hown, hB⟩ := hrel
    have hsz := hB.size
    have hln := ofTo_len (fst_ k) 6
    by_cases hk6 : k < N
    · have hn := fst_next k (by omega)
      have hb1 : (k : Int) + 1 ≤ N := by omega
      have HN := Lib.hid hn
      clear hn
      go_wp2_with (at_builtin; refine wpl_append_int rfl _ _ rfl _ _ _ _ rfl hown rfl (by omega) hsz ?_; intro v' w1 hown1 hb1 _ _)
      go_roundw
      case rel => exact ⟨k + 1, by omega, by go_num, by rw [HN.out]; exact hown1, hB.trans hb1⟩
      case measure => simp [intOf]; omega
    · obtain rfl : k = N := by omega
      have hb1 : ¬ (k : Int) + 1 ≤ k := by omega
      have HO := Lib.hid hown
      clear hown
      go_wp2
      go_ret
      exact ⟨_, rfl, HO.out, hB⟩

theorem fit_no {zss : List (List Int)} {n : Nat} {x : Int} (h : famB zss = false ∨ n = 0 ∨ inB x 1 6 = false ∨ allIn (mAt zss) (fst_ x.toNat) n = false) : fitB zss n x = false := by
  unfold fitB
  rcases h with h | h | h | h <;> simp [h]
theorem fit_yes {zss : List (List Int)} {n : Nat} {x : Int} (h1 : famB zss = true) (h2 : 0 < n) (h3 : inB x 1 6 = true) (h4 : allIn (mAt zss) (fst_ x.toNat) n = true) : fitB zss n x = true := by
  unfold fitB
  simp [h1, h2, h3, h4]
theorem fit_parts {zss : List (List Int)} {n : Nat} {x : Int} (h : fitB zss n x = true) : famB zss = true ∧ 0 < n ∧ inB x 1 6 = true ∧ allIn (mAt zss) (fst_ x.toNat) n = true := by
  unfold fitB at h
  simp only [Bool.and_eq_true, decide_eq_true_eq] at h
  exact ⟨h.1.1.1, h.1.1.2, h.1.2, h.2⟩
theorem inB_nat {x : Int} (h : inB x 1 6 = true) : ∃ N : Nat, 1 ≤ N ∧ N ≤ 6 ∧ x = (N : Int) := by
  unfold inB at h
  simp only [decide_eq_true_eq] at h
  exact ⟨x.toNat, by omega, by omega, by omega⟩

theorem specFits_any (A : Option Addr) (n c : Nat) (zss : List (List Int)) (x : Int) (w : World) (h : Mat w w.heap.size A n zss) (hz : SzOk zss n) :
    Calls Try.prog 40 #[.slice A n c, .int .i64 x] w fun e w' => e = .returned (.bool (fitB zss n x)) ∧ Below w.heap.size w w' := by
  have H1 := specFamily_any A n c zss w h hz
  have H2 := fun W => l6In_any x 1 6 W
  have hn1 := hz.1
  have HL := Lib.hid h.len
  have HM := Lib.hid h
  clear h hz
  obtain ⟨p, hp⟩ : ∃ p, famB zss = p := ⟨_, rfl⟩
  obtain ⟨q, hq⟩ : ∃ q, inB x 1 6 = q := ⟨_, rfl⟩
  obtain ⟨r, hr⟩ : ∃ r, r = fitB zss n x := ⟨_, rfl⟩
  rw [hp] at H1
  rw [hq] at H2
  rw [← hr]
  have K1 := Lib.hid H1
  have K2 := Lib.hid H2
  have HP := Lib.hid hp
  have HQ := Lib.hid hq
  have HR := Lib.hid hr
  clear H1 H2 hp hq hr
  cases p
  · have HF : Hid (r = false) := by rw [HR.out]; exact fit_no (.inl HP.out)
    go_enter Try.func40, Try.ntmps40
    go_wp2_with fail
    refine K1.out.mono ?_
    rintro e wq ⟨rfl, m, rfl⟩
    go_wp2
    go_ret
    exact ⟨ret_bool' HF.out.symm, below_drewN (Below.refl _ _) m⟩
  by_cases hn0 : n = 0
  · have HF : Hid (r = false) := by rw [HR.out]; exact fit_no (.inr (.inl hn0))
    subst hn0
    go_enter Try.func40, Try.ntmps40
    go_wp2_with fail
    refine K1.out.mono ?_
    rintro e wq ⟨rfl, m, rfl⟩
    go_wp2
    go_ret
    exact ⟨ret_bool' HF.out.symm, below_drewN (Below.refl _ _) m⟩
  have hn0' : ((n : Int) == 0) = false := by simp; omega
  have hn0'' : (n == 0) = false := by simp; omega
  cases q
  · have HF : Hid (r = false) := by rw [HR.out]; exact fit_no (.inr (.inr (.inl HQ.out)))
    go_enter Try.func40, Try.ntmps40
    go_wp2_with fail
    refine K1.out.mono ?_
    rintro e wq ⟨rfl, m, rfl⟩
    go_wp2_with fail
    refine (K2.out _).mono ?_
    rintro e wq ⟨rfl, rfl⟩
    go_wp2
    go_ret
    exact ⟨ret_bool' HF.out.symm, below_drewN (Below.refl _ _) m⟩
  obtain ⟨N, hN1, hN6, rfl⟩ := inB_nat HQ.out
  have HR' : Hid (r = fitB zss n (N : Int)) := HR
  obtain ⟨h20, hto⟩ := famB_to HP.out
  rw [HL.out] at h20 hto
  have HT := Lib.hid hto
  clear hto
  go_enter Try.func40, Try.ntmps40
  go_wp2_with fail
  refine K1.out.mono ?_
  rintro e w1 ⟨rfl, m, hw⟩
  have hB1 : Below w.heap.size w w1 := by rw [hw]; exact below_drewN (Below.refl _ _) m
  clear hw
  go_wp2_with fail
  refine (K2.out _).mono ?_
  rintro e wq ⟨rfl, rfl⟩
  go_wp2_with fail
  go_loopw [5] (fun i wr => ∃ k : Nat, k ≤ n ∧ i = .int .i64 k ∧ allIn (mAt zss) (fst_ N) k = true ∧ Below w.heap.size w wr) (fun i _ => n - (intOf i).toNat)
  case atStart => exact ⟨0, Nat.zero_le _, rfl, rfl, hB1⟩
  case round =>
    obtain ⟨k, hk, rfl, hall, hB⟩ := hrel
    have HA := Lib.hid hall
    clear hall
    by_cases hkn : k < n
    · have i1 : (k : Int) < n := by omega
      obtain ⟨b, off, C, cc, g⟩ := HM.out.get hkn
      obtain rfl := g.adr
      have hcell := (hB.cell (p := ⟨b, off + k, none⟩) g.lt).trans g.cell
      have hl0 := ln_pos HT.out hkn
      have hl6 := ln_six HT.out hkn
      have hli := last_in (N := N) HT.out hkn hN6
      obtain ⟨b2, off2, rfl, hb2, hc2⟩ := (g.row.src (n := ln zss k) rfl) (ln zss k - 1) (by omega)
      replace hc2 := (hB.cell (p := ⟨b2, off2 + (ln zss k - 1), none⟩) hb2).trans hc2
      clear g
      generalize (rw_ zss k).getD (ln zss k - 1) 0 = z at hc2 hli
      generalize ln zss k = L at hcell hl0 hl6 hc2
      have HI := Lib.hid hli
      clear hli
      have j1 : IntKind.i64.wrap ((L : Int) - 1) = (L : Int) - 1 := IntWalk.i64_in _ (by omega)
      have j2 : (0 : Int) ≤ (L : Int) - 1 := by omega
      have j3 : ((L : Int) - 1).toNat = L - 1 := by omega
      have j4 : (L : Int) - 1 < L := by omega
      by_cases hzN : (N : Int) < z
      · have HF : Hid (r = false) := by
          rw [HR'.out]
          exact fit_no (.inr (.inr (.inr (allIn_no hkn (by rw [show ((N : Int)).toNat = N from rfl, HI.out]; simp; omega)))))
        go_wp2
        go_quiet (fail)
        go_wp2
        go_ret
        exact ⟨ret_bool' HF.out.symm, by (repeat (first | (with_reducible exact Below.refl _ _) | (with_reducible assumption) | (with_reducible refine below_drewN ?_ _) | (with_reducible refine Below.drew ?_) | (with_reducible refine Below.alloc ?_ (by (first | omega | (show _ < _; omega) | (simp; omega) | (simp; done))) _) | (with_reducible refine Below.setCell ?_ (by (first | omega | (show _ < _; omega) | (simp; omega) | (simp; done))) _) | (with_reducible refine Below.trans ?_ (Below.mono (by with_reducible assumption) (by (first | omega | (show _ < _; omega) | (simp; omega) | (simp; done))))) | (with_reducible refine below_grown ?_ (by with_reducible assumption) (by (first | omega | (show _ < _; omega) | (simp; omega) | (simp; done))) (by (first | omega | (show _ < _; omega) | (simp; omega) | (simp; done))))))⟩
      · have HY := Lib.hid (show allIn (mAt zss) (fst_ N) (k + 1) = (allIn (mAt zss) (fst_ N) k && inM (mAt zss k) (fst_ N)) from rfl)
        go_wp2
        go_quiet (fail)
        go_wp2
        go_roundw
        case rel => exact ⟨k + 1, by omega, by go_num, by rw [HY.out, HA.out, HI.out]; simp; omega, by (repeat (first | (with_reducible exact Below.refl _ _) | (with_reducible assumption) | (with_reducible refine below_drewN ?_ _) | (with_reducible refine Below.drew ?_) | (with_reducible refine Below.alloc ?_ (by (first | omega | (show _ < _; omega) | (simp; omega) | (simp; done))) _) | (with_reducible refine Below.setCell ?_ (by (first | omega | (show _ < _; omega) | (simp; omega) | (simp; done))) _) | (with_reducible refine Below.trans ?_ (Below.mono (by with_reducible assumption) (by (first | omega | (show _ < _; omega) | (simp; omega) | (simp; done))))) | (with_reducible refine below_grown ?_ (by with_reducible assumption) (by (first | omega | (show _ < _; omega) | (simp; omega) | (simp; done))) (by (first | omega | (show _ < _; omega) | (simp; omega) | (simp; done))))))⟩
        case measure => simp [intOf]; omega
    · obtain rfl : k = n := by omega
      have HF : Hid (r = true) := by rw [HR'.out]; exact fit_yes HP.out (by omega) HQ.out HA.out
      go_wp2
      go_ret
      exact ⟨ret_bool' HF.out.symm, hB⟩
end Go.Proofs.Ytiepoadnncnbkaa
