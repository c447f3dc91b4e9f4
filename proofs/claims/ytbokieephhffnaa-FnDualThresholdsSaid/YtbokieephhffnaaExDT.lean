/- The law FnDualThresholds' walk. -/
import Derived.Test.YtbokieephhffnaaExZ
namespace Go.Proofs.Ytbokieephhffnaa
open Go.RowKit
set_option maxHeartbeats 8000000
set_option linter.unusedVariables false
set_option linter.unusedSimpArgs false

/-- A text, wrapped in a threshold with a second operand. -/
def wrap2 (q : UInt8) (s : ByteArray) (m : UInt8) : ByteArray := ⟨#[q, 40]⟩ ++ s ++ ⟨#[44]⟩ ++ ⟨#[m]⟩ ++ ⟨#[41]⟩
theorem sz2 (a b : UInt8) : (⟨#[a, b]⟩ : ByteArray).size = 2 := rfl
theorem wrap2_size (q : UInt8) (s : ByteArray) (m : UInt8) : (wrap2 q s m).size = s.size + 5 := by
  simp [wrap2, sz1, sz2]
  omega
theorem wrap2_0 (q : UInt8) (s : ByteArray) (m : UInt8) : bt (wrap2 q s m) 0 = q.toNat := by
  unfold wrap2
  rw [bt_app_left _ _ _ (by first | (simp [sz1, sz2]; done) | (simp [sz1, sz2]; omega)), bt_app_left _ _ _ (by first | (simp [sz1, sz2]; done) | (simp [sz1, sz2]; omega)), bt_app_left _ _ _ (by first | (simp [sz1, sz2]; done) | (simp [sz1, sz2]; omega)), bt_app_left _ _ _ (by simp [sz2])]
  rfl
theorem wrap2_1 (q : UInt8) (s : ByteArray) (m : UInt8) : bt (wrap2 q s m) 1 = 40 := by
  unfold wrap2
  rw [bt_app_left _ _ _ (by first | (simp [sz1, sz2]; done) | (simp [sz1, sz2]; omega)), bt_app_left _ _ _ (by first | (simp [sz1, sz2]; done) | (simp [sz1, sz2]; omega)), bt_app_left _ _ _ (by first | (simp [sz1, sz2]; done) | (simp [sz1, sz2]; omega)), bt_app_left _ _ _ (by simp [sz2])]
  rfl
theorem wrap2_in (q : UInt8) (s : ByteArray) (m : UInt8) (j : Nat) (hj : j < s.size) : bt (wrap2 q s m) (j + 2) = bt s j := by
  unfold wrap2
  rw [bt_app_left _ _ _ (by first | (simp [sz1, sz2]; done) | (simp [sz1, sz2]; omega)), bt_app_left _ _ _ (by first | (simp [sz1, sz2]; done) | (simp [sz1, sz2]; omega)), bt_app_left _ _ _ (by first | (simp [sz2]; done) | (simp [sz2]; omega))]
  have := bt_app_right ⟨#[q, 40]⟩ s j
  rw [sz2, Nat.add_comm] at this
  exact this
theorem wrap2_c (q : UInt8) (s : ByteArray) (m : UInt8) : bt (wrap2 q s m) (s.size + 2) = 44 := by
  unfold wrap2
  rw [bt_app_left _ _ _ (by first | (simp [sz1, sz2]; done) | (simp [sz1, sz2]; omega)), bt_app_left _ _ _ (by first | (simp [sz1, sz2]; done) | (simp [sz1, sz2]; omega))]
  have := bt_app_right (⟨#[q, 40]⟩ ++ s) ⟨#[44]⟩ 0
  rw [ByteArray.size_append, sz2, Nat.add_zero, Nat.add_comm 2] at this
  exact this
theorem wrap2_m (q : UInt8) (s : ByteArray) (m : UInt8) : bt (wrap2 q s m) (s.size + 3) = m.toNat := by
  unfold wrap2
  rw [bt_app_left _ _ _ (by first | (simp [sz1, sz2]; done) | (simp [sz1, sz2]; omega))]
  have := bt_app_right (⟨#[q, 40]⟩ ++ s ++ ⟨#[44]⟩) ⟨#[m]⟩ 0
  rw [show (⟨#[q, 40]⟩ ++ s ++ ⟨#[44]⟩ : ByteArray).size + 0 = s.size + 3 by first | (simp [sz1, sz2]; done) | (simp [sz1, sz2]; omega)] at this
  rw [this]
  rfl
theorem wrap2_e (q : UInt8) (s : ByteArray) (m : UInt8) : bt (wrap2 q s m) (s.size + 4) = 41 := by
  unfold wrap2
  have := bt_app_right (⟨#[q, 40]⟩ ++ s ++ ⟨#[44]⟩ ++ ⟨#[m]⟩) ⟨#[41]⟩ 0
  rw [show (⟨#[q, 40]⟩ ++ s ++ ⟨#[44]⟩ ++ ⟨#[m]⟩ : ByteArray).size + 0 = s.size + 4 by first | (simp [sz1, sz2]; done) | (simp [sz1, sz2]; omega)] at this
  rw [this]
  rfl
theorem wrap2_tree {s : ByteArray} {t : Tr} {q m : UInt8} {a k : Nat} (hq : q.toNat = 48 + a) (ha : 1 ≤ a) (ha2 : a ≤ 2) (hm : m.toNat = 48 + k) (hk : 1 ≤ k) (hk2 : k ≤ 6) (h40 : s.size + 5 ≤ 40) (ht : tree s = some (t, s.size)) :
    exOk (wrap2 q s m) = true ∧ tree (wrap2 q s m) = some (.gate a [t, .leaf k], (wrap2 q s m).size) := by
  have hw := wrap2_size q s m
  have hp := pe_up (a := s) (b := wrap2 q s m) (k := 2) (E := s.size) (wrap2_in q s m) (by rw [wrap2_c]; omega) (s.size + 1) 0 t _ ht (Nat.le_refl _)
  have hp2 := pe_mono (s.size + 1) ((wrap2 q s m).size) (0 + 2) _ (by omega) hp
  have hlf : pe (wrap2 q s m) (wrap2 q s m).size (s.size + 3) = some (.leaf k, s.size + 4) := by
    obtain ⟨f, hf⟩ : ∃ f, (wrap2 q s m).size = f + 1 := ⟨s.size + 4, by omega⟩
    rw [hf]
    unfold pe
    rw [wrap2_m, if_pos (isD_iff.2 (by omega)), wrap2_e, if_neg (by omega)]
    simp only [Option.some.injEq, Prod.mk.injEq, Tr.leaf.injEq, and_true]
    omega
  have htree : tree (wrap2 q s m) = some (.gate a [t, .leaf k], (wrap2 q s m).size) := by
    unfold tree pe
    rw [wrap2_0, if_pos (isD_iff.2 (by omega)), wrap2_1, if_pos rfl]
    have hpl : pl (wrap2 q s m) (pe (wrap2 q s m) (wrap2 q s m).size) (wrap2 q s m).size (0 + 2) = some ([t, .leaf k], (wrap2 q s m).size) := by
      obtain ⟨f, hf⟩ : ∃ f, (wrap2 q s m).size = f + 1 + 1 := ⟨s.size + 3, by omega⟩
      have e2 : pl (wrap2 q s m) (pe (wrap2 q s m) (wrap2 q s m).size) (f + 1) (s.size + 2 + 1) = some ([.leaf k], (wrap2 q s m).size) := by
        unfold pl
        simp only [hlf]
        rw [if_pos (wrap2_e q s m)]
        simp only [Option.some.injEq, Prod.mk.injEq, true_and]
        omega
      have e : pl (wrap2 q s m) (pe (wrap2 q s m) (wrap2 q s m).size) (f + 1 + 1) (0 + 2) = some ([t, .leaf k], (wrap2 q s m).size) := by
        unfold pl
        simp only [hp2]
        rw [if_neg (by rw [wrap2_c]; omega), if_pos (wrap2_c q s m), e2]
      rw [hf]
      rw [hf] at e
      exact e
    rw [hpl]
    simp only
    rw [if_pos ⟨by show 2 ≤ 6; omega, by show q.toNat - 48 ≤ 2; omega⟩]
    rw [show q.toNat - 48 = a by omega]
  refine ⟨?_, htree⟩
  rw [exOk_some (by omega) htree]
  simp
theorem du_wrap {t : Tr} {m p : UInt8} {a b k : Nat} (hb : 2 - a + 1 = b) (hp : Lib.decDigits b = [p]) (hm : Lib.decDigits k = [m]) : duS (.gate a [t, .leaf k]) = wrap2 p (duS t) m := by
  unfold duS wrap2
  rw [show (⟨#[p, 40]⟩ : ByteArray) = ⟨[p, 40].toArray⟩ from rfl, show (⟨#[44]⟩ : ByteArray) = ⟨[44].toArray⟩ from rfl, show (⟨#[41]⟩ : ByteArray) = ⟨[41].toArray⟩ from rfl, show (⟨#[m]⟩ : ByteArray) = ⟨[m].toArray⟩ from rfl, app_list, app_list, app_list, app_list]
  congr 2
  show Lib.decDigits (2 - a + 1) ++ (40 :: (Lib.join [textT (dualT t), Lib.decDigits k] [44] ++ [41])) = _
  rw [hb, hp, hm]
  simp [Lib.join]
theorem du_ne (t : Tr) (h : WfD t) : 0 < (duS t).size := by
  unfold duS
  rw [size_list]
  cases h with
  | leaf h =>
    show 0 < (Lib.decDigits _).length
    rw [dig_len h]
    omega
  | gate _ _ _ _ =>
    show 0 < (Lib.decDigits _ ++ (40 :: (Lib.join _ [44] ++ [41]))).length
    simp
    omega

theorem not_empty (d : ByteArray) (h : 0 < d.size) : d.toList.isEmpty = false := by
  rw [Lib.toList_data]
  cases hd : d.data.toList with
  | nil =>
    have h2 : d.data.toList.length = 0 := by rw [hd]; rfl
    have h3 : 0 < d.data.toList.length := by simpa using h
    omega
  | cons a l => rfl
theorem drawDual_any (A : Option Addr) (n c : Nat) (zs0 : List Int) (w : World) (h : Ints .u8 w A n c zs0) : Calls Try.prog 17 #[.slice A n c] w fun e w' => ∃ str : ByteArray, e = .returned (.string str) ∧ (0 ≤ str.size ∧ str.size ≤ 61) ∧ Below w.heap.size w w' := by
  go_enter Try.func17, Try.ntmps17
  go_wp2_with fail
  (refine (l6Open_any A n c zs0 _ w h (by (repeat (first | (with_reducible exact Below.refl _ _) | (with_reducible assumption) | (with_reducible refine below_drewN ?_ _) | (with_reducible refine Below.drew ?_) | (with_reducible refine Below.alloc ?_ (by (first | omega | (show _ < _; omega) | (simp; omega) | (simp; done))) _) | (with_reducible refine Below.setCell ?_ (by (first | omega | (show _ < _; omega) | (simp; omega) | (simp; done))) _) | (with_reducible refine Below.trans ?_ (Below.mono (by with_reducible assumption) (by (first | omega | (show _ < _; omega) | (simp; omega) | (simp; done))))) | (with_reducible refine below_grown ?_ (by with_reducible assumption) (by (first | omega | (show _ < _; omega) | (simp; omega) | (simp; done))) (by (first | omega | (show _ < _; omega) | (simp; omega) | (simp; done)))))))).mono ?_; rintro e w1 ⟨rfl, n', c', hw1, hrd⟩; have hbw1 : Below w.heap.size w w1 := (by rw [hw1]; exact (Below.refl _ _).alloc (Nat.le_refl _) _); have hsw1 : w.heap.size + 1 ≤ w1.heap.size := (by rw [hw1]; simp); clear hw1)
  go_wp2_with fail
  refine (l91Expr_any _ 0 _ hrd (by omega)).mono ?_
  rintro e w2 ⟨str, rfl, hs, _, hg⟩
  have HB := Lib.hid (below_grown hbw1 hg (by omega) (Nat.le_refl _))
  have HS := Lib.hid hs
  clear hg hs hrd
  go_wp2_with fail
  go_ret
  exact ⟨str, rfl, HS.out, HB.out⟩
theorem dig6 : ∀ k : Nat, k < 6 → (⟨#[49, 50, 51, 52, 53, 54]⟩ : ByteArray).extract k (k + 1) = ⟨#[UInt8.ofNat (49 + k)]⟩ := by decide +kernel

theorem dualThresholds_walk (A1 : Option Addr) (n1 c1 : Nat) (zs1 : List Int) (A2 : Option Addr) (n2 c2 : Nat) (zs2 : List Int) (w : World) (h1 : Ints .u8 w A1 n1 c1 zs1) (h2 : Ints .u8 w A2 n2 c2 zs2) : Calls Try.prog 8 #[.slice A1 n1 c1, .slice A2 n2 c2] w fun e w' => e = .returned (.bool true) ∧ Below w.heap.size w w' := by
  have hmx1 := h1.max
  have hcp1 := h1.cap
  have hmx2 := h2.max
  have hcp2 := h2.cap
  unfold maxLen at hmx1 hmx2
  by_cases hl : 1048576 < n1
  · have hl2 : (1048576 : Int) < n1 := by omega
    go_enter Try.func8, Try.ntmps8
    go_wp2
    go_ret
    exact ⟨rfl, Below.refl _ _⟩
  have hl2 : ¬ (1048576 : Int) < n1 := by omega
  by_cases hk : 1048576 < n2
  · have hk2 : (1048576 : Int) < n2 := by omega
    go_enter Try.func8, Try.ntmps8
    go_wp2
    go_ret
    exact ⟨rfl, Below.refl _ _⟩
  have hk2 : ¬ (1048576 : Int) < n2 := by omega
  clear h2
  go_enter Try.func8, Try.ntmps8
  go_wp2_with fail
  refine (drawDual_any A1 n1 c1 zs1 _ h1).mono ?_
  rintro e wd ⟨s, rfl, ⟨_, hs⟩, hbd⟩
  clear h1
  have HBd := Lib.hid hbd
  clear hbd
  cases hb : exOk s
  · have HE := Lib.hid hb
    obtain ⟨h1, h2⟩ := dual_of (d := ⟨#[]⟩) (by omega) (.inl ⟨hb, rfl⟩)
    have H1 := Lib.hid h1
    have H2 := Lib.hid h2
    clear h1 h2 hb
    go_wp2_with fail
    refine (H2.out wd).mono ?_
    rintro e w1 ⟨rfl, hb1⟩
    have HB1 := Lib.hid (HBd.out.trans (hb1.mono HBd.out.size))
    clear hb1
    go_wp2_with fail
    refine (H1.out w1).mono ?_
    rintro e w2 ⟨rfl, hb2⟩
    have HB2 := Lib.hid (HB1.out.trans (hb2.mono HB1.out.size))
    clear hb2
    go_wp2_with fail
    refine (H1.out w2).mono ?_
    rintro e w3 ⟨rfl, hb3⟩
    have HB3 := Lib.hid (HB2.out.trans (hb3.mono HB2.out.size))
    clear hb3
    go_wp2_with fail
    go_ret
    exact ⟨rfl, HB3.out⟩
  · obtain ⟨h40, t, ht⟩ := exOk_tree hb
    obtain ⟨h1, h2⟩ := dual_of (by omega) (.inr ⟨hb, t, ht, rfl⟩)
    obtain ⟨hwf, htl⟩ := whole_text (u := s) (t := t) ⟨_, ht⟩
    have hne := du_ne t hwf
    have hds : (duS t).size ≤ s.size := by
      unfold duS
      rw [size_list]
      exact htl
    obtain ⟨k, hkk⟩ : ∃ k, n2 % 6 = k := ⟨_, rfl⟩
    have hk6 : k < 6 := by omega
    have hdm := dig_of (n := k + 1) (x := UInt8.ofNat (49 + k)) (by omega) (by simp; omega)
    have hwr1 : s.size + 5 ≤ 40 → ∀ w, Calls Try.prog 16 #[.string (wrap2 49 s (UInt8.ofNat (49 + k)))] w fun e w' => e = .returned (.string (wrap2 50 (duS t) (UInt8.ofNat (49 + k)))) ∧ Below w.heap.size w w' := fun h3 => by
      obtain ⟨k1, k2⟩ := wrap2_tree (s := s) (t := t) (q := 49) (m := UInt8.ofNat (49 + k)) (a := 1) (k := k + 1) rfl (by omega) (by omega) (by simp; omega) (by omega) (by omega) h3 ht
      have hd := du_wrap (t := t) (p := 50) (m := UInt8.ofNat (49 + k)) (a := 1) (b := 2) (k := k + 1) rfl (dig_of (by omega) rfl) hdm
      exact (dual_of (s := wrap2 49 s (UInt8.ofNat (49 + k))) (by rw [wrap2_size]; omega) (.inr ⟨k1, _, k2, hd.symm⟩)).2
    have hwr2 : s.size + 5 ≤ 40 → ∀ w, Calls Try.prog 16 #[.string (wrap2 50 s (UInt8.ofNat (49 + k)))] w fun e w' => e = .returned (.string (wrap2 49 (duS t) (UInt8.ofNat (49 + k)))) ∧ Below w.heap.size w w' := fun h3 => by
      obtain ⟨k1, k2⟩ := wrap2_tree (s := s) (t := t) (q := 50) (m := UInt8.ofNat (49 + k)) (a := 2) (k := k + 1) rfl (by omega) (by omega) (by simp; omega) (by omega) (by omega) h3 ht
      have hd := du_wrap (t := t) (p := 49) (m := UInt8.ofNat (49 + k)) (a := 2) (b := 1) (k := k + 1) rfl (dig_of (by omega) rfl) hdm
      exact (dual_of (s := wrap2 50 s (UInt8.ofNat (49 + k))) (by rw [wrap2_size]; omega) (.inr ⟨k1, _, k2, hd.symm⟩)).2
    unfold wrap2 at hwr1 hwr2
    have hex := dig6 k hk6
    generalize (UInt8.ofNat (49 + k)) = m at hwr1 hwr2 hex hdm
    obtain ⟨d, hd⟩ : ∃ d, duS t = d := ⟨_, rfl⟩
    rw [hd] at hwr1 hwr2 h1 h2 hne hds
    have H1 := Lib.hid h1
    have H2 := Lib.hid h2
    have HW1 := Lib.hid hwr1
    have HW2 := Lib.hid hwr2
    have dne := not_empty d hne
    clear h1 h2 hwr1 hwr2 ht hb hd hdm hwf htl
    go_wp2_with fail
    refine (H2.out wd).mono ?_
    rintro e w1 ⟨rfl, hb1⟩
    have HB1 := Lib.hid (HBd.out.trans (hb1.mono HBd.out.size))
    clear hb1
    go_wp2_with fail
    refine (H1.out w1).mono ?_
    rintro e w2 ⟨rfl, hb2⟩
    have HB2 := Lib.hid (HB1.out.trans (hb2.mono HB1.out.size))
    clear hb2
    by_cases h45 : 40 < s.size + 5
    · have q1 : (40 : Int) < (s.size : Int) + 5 := by omega
      go_wp2_with fail
      refine (H1.out w2).mono ?_
      rintro e w3 ⟨rfl, hb3⟩
      have HB3 := Lib.hid (HB2.out.trans (hb3.mono HB2.out.size))
      clear hb3
      go_wp2_with fail
      go_ret
      exact ⟨rfl, HB3.out⟩
    · have q1 : ¬ (40 : Int) < (s.size : Int) + 5 := by omega
      have W1 := Lib.hid (HW1.out (by omega))
      have W2 := Lib.hid (HW2.out (by omega))
      clear h45
      go_wp2_with fail
      refine (W1.out w2).mono ?_
      rintro e w3 ⟨rfl, hb3⟩
      have HB3 := Lib.hid (HB2.out.trans (hb3.mono HB2.out.size))
      clear hb3
      go_wp2_with fail
      refine (W2.out w3).mono ?_
      rintro e w4 ⟨rfl, hb4⟩
      have HB4 := Lib.hid (HB3.out.trans (hb4.mono HB3.out.size))
      clear hb4
      go_wp2_with fail
      go_ret
      exact ⟨rfl, HB4.out⟩
end Go.Proofs.Ytbokieephhffnaa
