/- The draws of the laws on logs. -/
import Derived.Test.YtijilikkdnpbmaaLogD
namespace Go.Proofs.Ytijilikkdnpbmaa
open Go.RowKit
set_option maxHeartbeats 2000000
set_option linter.unusedVariables false

/-- A log that a draw hands over: n entries, their numbers fl. -/
structure DLog (w : World) (B : Option Addr) (n c : Nat) (fl : List Int) : Prop where
  row : Row w w.heap.size B (fl.map (Value.int .i64))
  len : fl.length = n * 2
  cap : n ≤ c
  max : c ≤ 9223372036854775807
  nil : B = none → n = 0
theorem ownr_form {w : World} {B n : Nat} {v : Value} {fl : List Int} (h : OwnR w B v n fl) : ∃ A c, v = .slice A n c ∧ n ≤ c ∧ c ≤ maxLen ∧ (A = none → n = 0) := by
  rcases h.2.2 with ⟨rfl, h0⟩ | ⟨g, cap, cur, rfl, _, _, h3, h4, _⟩
  · exact ⟨none, 0, by rw [h0], by omega, Nat.zero_le _, fun _ => h0⟩
  · exact ⟨_, cap, rfl, h3, h4, by simp⟩
theorem ownr_dlog {w : World} {B n c : Nat} {A : Option Addr} {fl : List Int} (h : OwnR w B (.slice A n c) n fl) (hA : A = none → n = 0) : DLog w A n c fl := by
  obtain ⟨A', c', e, h1, h2, hr⟩ := owns_row h.2
  injection e with e1 e2 e3
  subst e1 e3
  unfold maxLen at h2
  exact ⟨hr, h.1, h1, h2, hA⟩

theorem drawLogValues_any (A : Option Addr) (na ca : Nat) (zs0 : List Int) (w : World) (h : Ints .u8 w A na ca zs0) : Calls Try.prog 20 #[.slice A na ca] w fun e w' =>
    ∃ (B : Option Addr) (n c : Nat) (fl : List Int) (k : Int), e = .returned (.tuple #[.slice B n c, .int .i64 k]) ∧ DLog w' B n c fl ∧ (n ≤ 9 ∧ 1 ≤ k ∧ k ≤ 4) ∧ Below w.heap.size w w' := by
  go_enter Try.func20, Try.ntmps20
  go_wp2_with fail
  refine (l6Open_any A na ca zs0 _ w h (by (repeat (first | (with_reducible exact Below.refl _ _) | (with_reducible assumption) | (with_reducible refine below_drewN ?_ _) | (with_reducible refine Below.drew ?_) | (with_reducible refine Below.alloc ?_ (by (first | omega | (show _ < _; omega) | (simp; omega) | (simp; done))) _) | (with_reducible refine Below.setCell ?_ (by (first | omega | (show _ < _; omega) | (simp; omega) | (simp; done))) _) | (with_reducible refine Below.trans ?_ (Below.mono (by with_reducible assumption) (by (first | omega | (show _ < _; omega) | (simp; omega) | (simp; done))))) | (with_reducible refine below_grown ?_ (by with_reducible assumption) (by (first | omega | (show _ < _; omega) | (simp; omega) | (simp; done))) (by (first | omega | (show _ < _; omega) | (simp; omega) | (simp; done)))))))).mono ?_
  rintro e w1 ⟨rfl, n', c', hw1, hrd⟩
  have hbw1 : Below w.heap.size w w1 := by rw [hw1]; (repeat (first | (with_reducible exact Below.refl _ _) | (with_reducible assumption) | (with_reducible refine below_drewN ?_ _) | (with_reducible refine Below.drew ?_) | (with_reducible refine Below.alloc ?_ (by (first | omega | (show _ < _; omega) | (simp; omega) | (simp; done))) _) | (with_reducible refine Below.setCell ?_ (by (first | omega | (show _ < _; omega) | (simp; omega) | (simp; done))) _) | (with_reducible refine Below.trans ?_ (Below.mono (by with_reducible assumption) (by (first | omega | (show _ < _; omega) | (simp; omega) | (simp; done))))) | (with_reducible refine below_grown ?_ (by with_reducible assumption) (by (first | omega | (show _ < _; omega) | (simp; omega) | (simp; done))) (by (first | omega | (show _ < _; omega) | (simp; omega) | (simp; done))))))
  have hsw1 : w.heap.size + 1 ≤ w1.heap.size := by rw [hw1]; simp
  clear hw1
  go_wp2_with fail
  refine (l92Log_any _ 0 _ hrd (by omega)).mono ?_
  rintro e w2 ⟨v, fl, n, k, rfl, hown, ⟨hn, hk1, hk4, hall⟩, ⟨q', hq', hrd2⟩, hg2⟩
  have hown : OwnR w2 (w.heap.size + 1) v n fl := ownr_less hown (by omega)
  have hbw2 : Below w.heap.size w w2 := below_grown hbw1 hg2 (by omega) (by omega)
  have hsz2 := hg2.size
  clear hg2
  obtain ⟨B, c, rfl, hc1, hc2, hBn⟩ := ownr_form hown
  unfold maxLen at hc2
  have HBn := Lib.hid hBn
  clear hBn
  have HD := Lib.hid (ownr_dlog hown HBn.out)
  clear hown
  go_wp2_with fail
  go_ret2
  exact ⟨_, _, _, _, _, rfl, HD.out, ⟨by omega, hk1, hk4⟩, hbw2⟩

theorem drawLogConfig_any (A : Option Addr) (na ca : Nat) (zs0 : List Int) (w : World) (h : Ints .u8 w A na ca zs0) : Calls Try.prog 17 #[.slice A na ca] w fun e w' =>
    ∃ (B : Option Addr) (n c : Nat) (fl : List Int) (k s : Int), e = .returned (.tuple #[.slice B n c, .int .i64 k, .int .i64 s]) ∧ DLog w' B n c fl ∧ (n ≤ 9 ∧ 1 ≤ k ∧ k ≤ 4 ∧ -1 ≤ s ∧ s ≤ n + 2) ∧ Below w.heap.size w w' := by
  go_enter Try.func17, Try.ntmps17
  go_wp2_with fail
  refine (l6Open_any A na ca zs0 _ w h (by (repeat (first | (with_reducible exact Below.refl _ _) | (with_reducible assumption) | (with_reducible refine below_drewN ?_ _) | (with_reducible refine Below.drew ?_) | (with_reducible refine Below.alloc ?_ (by (first | omega | (show _ < _; omega) | (simp; omega) | (simp; done))) _) | (with_reducible refine Below.setCell ?_ (by (first | omega | (show _ < _; omega) | (simp; omega) | (simp; done))) _) | (with_reducible refine Below.trans ?_ (Below.mono (by with_reducible assumption) (by (first | omega | (show _ < _; omega) | (simp; omega) | (simp; done))))) | (with_reducible refine below_grown ?_ (by with_reducible assumption) (by (first | omega | (show _ < _; omega) | (simp; omega) | (simp; done))) (by (first | omega | (show _ < _; omega) | (simp; omega) | (simp; done)))))))).mono ?_
  rintro e w1 ⟨rfl, n', c', hw1, hrd⟩
  have hbw1 : Below w.heap.size w w1 := by rw [hw1]; (repeat (first | (with_reducible exact Below.refl _ _) | (with_reducible assumption) | (with_reducible refine below_drewN ?_ _) | (with_reducible refine Below.drew ?_) | (with_reducible refine Below.alloc ?_ (by (first | omega | (show _ < _; omega) | (simp; omega) | (simp; done))) _) | (with_reducible refine Below.setCell ?_ (by (first | omega | (show _ < _; omega) | (simp; omega) | (simp; done))) _) | (with_reducible refine Below.trans ?_ (Below.mono (by with_reducible assumption) (by (first | omega | (show _ < _; omega) | (simp; omega) | (simp; done))))) | (with_reducible refine below_grown ?_ (by with_reducible assumption) (by (first | omega | (show _ < _; omega) | (simp; omega) | (simp; done))) (by (first | omega | (show _ < _; omega) | (simp; omega) | (simp; done))))))
  have hsw1 : w.heap.size + 1 ≤ w1.heap.size := by rw [hw1]; simp
  clear hw1
  go_wp2_with fail
  refine (l92Log_any _ 0 _ hrd (by omega)).mono ?_
  rintro e w2 ⟨v, fl, n, k, rfl, hown, ⟨hn, hk1, hk4, hall⟩, ⟨q', hq', hrd2⟩, hg2⟩
  have hown : OwnR w2 (w.heap.size + 1) v n fl := ownr_less hown (by omega)
  have hbw2 : Below w.heap.size w w2 := below_grown hbw1 hg2 (by omega) (by omega)
  have hsz2 := hg2.size
  clear hg2
  obtain ⟨B, c, rfl, hc1, hc2, hBn⟩ := ownr_form hown
  unfold maxLen at hc2
  have HBn := Lib.hid hBn
  clear hBn
  go_wp2_with fail
  (apply Calls.mono; focus (apply pick_abs; exact hrd2; omega)); rintro e w3 ⟨x, rfl, hx0, hx1, hrd_w3, hsz_w3, hcp, hfp, hgp⟩
  replace hx1 := hx1 (by omega)
  replace hsz_w3 := Nat.le_of_eq hsz_w3.symm
  have hown_w3 := ownr_grown hown hgp (by omega)
  have hbw_w3 := below_grown hbw2 hgp (by omega) (by omega)
  clear hcp hfp hgp hrd2 hown hbw2
  have HD := Lib.hid (ownr_dlog hown_w3 HBn.out)
  clear hown_w3
  go_wp2_with fail
  go_ret3
  exact ⟨_, _, _, _, _, _, rfl, HD.out, ⟨by omega, hk1, hk4, by omega, by omega⟩, hbw_w3⟩

theorem drawLogValid_any (A : Option Addr) (na ca : Nat) (zs0 : List Int) (w : World) (h : Ints .u8 w A na ca zs0) : Calls Try.prog 16 #[.slice A na ca] w fun e w' =>
    ∃ (B : Option Addr) (n c : Nat) (fl : List Int) (k : Int), e = .returned (.tuple #[.slice B n c, .int .i64 k]) ∧ DLog w' B n c fl ∧ (n ≤ 9 ∧ 0 ≤ k ∧ k ≤ 6) ∧ Below w.heap.size w w' := by
  go_enter Try.func16, Try.ntmps16
  go_wp2_with fail
  refine (l6Open_any A na ca zs0 _ w h (by (repeat (first | (with_reducible exact Below.refl _ _) | (with_reducible assumption) | (with_reducible refine below_drewN ?_ _) | (with_reducible refine Below.drew ?_) | (with_reducible refine Below.alloc ?_ (by (first | omega | (show _ < _; omega) | (simp; omega) | (simp; done))) _) | (with_reducible refine Below.setCell ?_ (by (first | omega | (show _ < _; omega) | (simp; omega) | (simp; done))) _) | (with_reducible refine Below.trans ?_ (Below.mono (by with_reducible assumption) (by (first | omega | (show _ < _; omega) | (simp; omega) | (simp; done))))) | (with_reducible refine below_grown ?_ (by with_reducible assumption) (by (first | omega | (show _ < _; omega) | (simp; omega) | (simp; done))) (by (first | omega | (show _ < _; omega) | (simp; omega) | (simp; done)))))))).mono ?_
  rintro e w1 ⟨rfl, n', c', hw1, hrd⟩
  have hbw1 : Below w.heap.size w w1 := by rw [hw1]; (repeat (first | (with_reducible exact Below.refl _ _) | (with_reducible assumption) | (with_reducible refine below_drewN ?_ _) | (with_reducible refine Below.drew ?_) | (with_reducible refine Below.alloc ?_ (by (first | omega | (show _ < _; omega) | (simp; omega) | (simp; done))) _) | (with_reducible refine Below.setCell ?_ (by (first | omega | (show _ < _; omega) | (simp; omega) | (simp; done))) _) | (with_reducible refine Below.trans ?_ (Below.mono (by with_reducible assumption) (by (first | omega | (show _ < _; omega) | (simp; omega) | (simp; done))))) | (with_reducible refine below_grown ?_ (by with_reducible assumption) (by (first | omega | (show _ < _; omega) | (simp; omega) | (simp; done))) (by (first | omega | (show _ < _; omega) | (simp; omega) | (simp; done))))))
  have hsw1 : w.heap.size + 1 ≤ w1.heap.size := by rw [hw1]; simp
  clear hw1
  go_wp2_with fail
  refine (l92Log_any _ 0 _ hrd (by omega)).mono ?_
  rintro e w2 ⟨v, fl, n, k, rfl, hown, ⟨hn, hk1, hk4, hall⟩, ⟨q', hq', hrd2⟩, hg2⟩
  have hown : OwnR w2 (w.heap.size + 1) v n fl := ownr_less hown (by omega)
  have hbw2 : Below w.heap.size w w2 := below_grown hbw1 hg2 (by omega) (by omega)
  have hsz2 := hg2.size
  clear hg2
  obtain ⟨B, c, rfl, hc1, hc2, hBn⟩ := ownr_form hown
  unfold maxLen at hc2
  have HBn := Lib.hid hBn
  clear hBn
  go_wp2_with fail
  (apply Calls.mono; focus (apply pick_abs; exact hrd2; omega)); rintro e w3 ⟨x, rfl, hx0, hx1, hrd_w3, hsz_w3, hcp, hfp, hgp⟩
  replace hx1 := hx1 (by omega)
  replace hsz_w3 := Nat.le_of_eq hsz_w3.symm
  have hown_w3 := ownr_grown hown hgp (by omega)
  have hbw_w3 := below_grown hbw2 hgp (by omega) (by omega)
  clear hcp hfp hgp hrd2 hown hbw2
  by_cases hx : x = 0
  · subst hx
    go_wp2_with fail
    (apply Calls.mono; focus (apply pick_abs; exact hrd_w3; omega)); rintro e w4 ⟨y, rfl, hy0, hy1, hrd_w4, hsz_w4, hcp, hfp, hgp⟩
    replace hy1 := hy1 (by omega)
    replace hsz_w4 := Nat.le_of_eq hsz_w4.symm
    have hown_w4 := ownr_grown hown_w3 hgp (by omega)
    have hbw_w4 := below_grown hbw_w3 hgp (by omega) (by omega)
    clear hcp hfp hgp hrd_w3 hown_w3 hbw_w3
    go_wp2_with fail
    (apply Calls.mono; focus (apply pick_abs; exact hrd_w4; omega)); rintro e w5 ⟨z, rfl, hz0, hz1, hrd_w5, hsz_w5, hcp, hfp, hgp⟩
    replace hz1 := hz1 (by omega)
    replace hsz_w5 := Nat.le_of_eq hsz_w5.symm
    have hown_w5 := ownr_grown hown_w4 hgp (by omega)
    have hbw_w5 := below_grown hbw_w4 hgp (by omega) (by omega)
    clear hcp hfp hgp hrd_w4 hown_w4 hbw_w4
    go_wp2_with (at_builtin; refine wpl_append_rec rfl _ _ (by rfl) (w.heap.size + 1) _ _ _ _ _ (by rfl) hown_w5 (by rfl) (by omega) (by omega) ?_; intro v' w6 hown6 hb6 _ _)
    have hz6 := hb6.size
    have hrd6 := hrd_w5.keep (hb6.mono (by omega))
    have hbw6 := hbw_w5.trans (hb6.mono (by omega))
    (apply Calls.mono; focus (apply pick_abs; exact hrd6; omega)); rintro e w7 ⟨u, rfl, hu0, hu1, hrd_w7, hsz_w7, hcp, hfp, hgp⟩
    replace hu1 := hu1 (by omega)
    replace hsz_w7 := Nat.le_of_eq hsz_w7.symm
    have hown_w7 := ownr_grown hown6 hgp (by omega)
    have hbw_w7 := below_grown hbw6 hgp (by omega) (by omega)
    clear hcp hfp hgp hrd6 hown6 hbw6
    obtain ⟨B7, c7, rfl, _, _, hB7⟩ := ownr_form hown_w7
    have HD := Lib.hid (ownr_dlog hown_w7 hB7)
    clear hown_w7 hB7
    go_wp2_with fail
    go_ret2
    exact ⟨_, _, _, _, _, rfl, HD.out, ⟨by omega, by omega, by omega⟩, hbw_w7⟩
  · have hx' : (x == 0) = false := by simpa using hx
    have HD := Lib.hid (ownr_dlog hown_w3 HBn.out)
    clear hown_w3
    go_wp2_with fail
    go_ret2
    exact ⟨_, _, _, _, _, rfl, HD.out, ⟨by omega, by omega, by omega⟩, hbw_w3⟩

theorem ownr_setb {w : World} {B n : Nat} {v : Value} {fl : List Int} {p : Addr} (h : OwnR w B v n fl) (u : Value) (hp : p.block < B) : OwnR (w.setCell p u) B v n fl := ⟨h.1, owns_setCell h.2 hp u⟩
theorem drawLogAppend_any (A : Option Addr) (na ca : Nat) (zs0 : List Int) (w : World) (h : Ints .u8 w A na ca zs0) : Calls Try.prog 24 #[.slice A na ca] w fun e w' =>
    ∃ (B : Option Addr) (n c : Nat) (fl : List Int) (k x y : Int), e = .returned (.tuple #[.slice B n c, .int .i64 k, .agg #[.int .i64 x, .int .i64 y]]) ∧ DLog w' B n c fl ∧ (n ≤ 20 ∧ 1 ≤ k ∧ k ≤ 4 ∧ 0 ≤ x ∧ x ≤ 100 ∧ 0 ≤ y ∧ y ≤ 6) ∧ Below w.heap.size w w' := by
  go_enter Try.func24, Try.ntmps24
  go_wp2_with fail
  refine (l6Open_any A na ca zs0 _ w h (by (repeat (first | (with_reducible exact Below.refl _ _) | (with_reducible assumption) | (with_reducible refine below_drewN ?_ _) | (with_reducible refine Below.drew ?_) | (with_reducible refine Below.alloc ?_ (by (first | omega | (show _ < _; omega) | (simp; omega) | (simp; done))) _) | (with_reducible refine Below.setCell ?_ (by (first | omega | (show _ < _; omega) | (simp; omega) | (simp; done))) _) | (with_reducible refine Below.trans ?_ (Below.mono (by with_reducible assumption) (by (first | omega | (show _ < _; omega) | (simp; omega) | (simp; done))))) | (with_reducible refine below_grown ?_ (by with_reducible assumption) (by (first | omega | (show _ < _; omega) | (simp; omega) | (simp; done))) (by (first | omega | (show _ < _; omega) | (simp; omega) | (simp; done)))))))).mono ?_
  rintro e w1 ⟨rfl, n', c', hw1, hrd⟩
  simp only [World.size_alloc] at hrd
  have hres1 : w1.heap[w.heap.size]? = some (.cells #[.int .i64 0, .int .i64 0] 33 (0, 0)) := by rw [hw1]; exact (Below.heap_alloc _ _ _ (by simp)).trans (heap_alloc_new w _)
  have hbw1 : Below w.heap.size w w1 := by rw [hw1]; (repeat (first | (with_reducible exact Below.refl _ _) | (with_reducible assumption) | (with_reducible refine below_drewN ?_ _) | (with_reducible refine Below.drew ?_) | (with_reducible refine Below.alloc ?_ (by (first | omega | (show _ < _; omega) | (simp; omega) | (simp; done))) _) | (with_reducible refine Below.setCell ?_ (by (first | omega | (show _ < _; omega) | (simp; omega) | (simp; done))) _) | (with_reducible refine Below.trans ?_ (Below.mono (by with_reducible assumption) (by (first | omega | (show _ < _; omega) | (simp; omega) | (simp; done))))) | (with_reducible refine below_grown ?_ (by with_reducible assumption) (by (first | omega | (show _ < _; omega) | (simp; omega) | (simp; done))) (by (first | omega | (show _ < _; omega) | (simp; omega) | (simp; done))))))
  have hsw1 : w.heap.size + 2 ≤ w1.heap.size := by rw [hw1]; simp
  clear hw1
  go_wp2_with fail
  refine (l92Log_any _ 0 _ hrd (by omega)).mono ?_
  rintro e w2 ⟨v, fl, n, k, rfl, hown, ⟨hn, hk1, hk4, hall⟩, ⟨q', hq', hrd2⟩, hg2⟩
  have hown : OwnR w2 ((w.heap.size + 1) + 1) v n fl := ownr_less hown (by omega)
  have hbw2 : Below w.heap.size w w2 := below_grown hbw1 hg2 (by omega) (by omega)
  have hsz2 := hg2.size
  have hres2 := (hg2.block _ (by omega) (fun e => by injection e with e; omega)).trans hres1
  clear hg2
  obtain ⟨B, c, rfl, hc1, hc2, hBn⟩ := ownr_form hown
  unfold maxLen at hc2
  have HBn := Lib.hid hBn
  clear hBn
  go_wp2_with fail
  go_loopg [6] (20 - n) (fun g u wr => ∃ (n c : Nat) (B : Option Addr) (fl : List Int) (q' : Int), g = 20 - n ∧ u = .slice B n c ∧ (B = none → n = 0) ∧ c ≤ 9223372036854775807 ∧ n ≤ c ∧ n ≤ 12 ∧ q' ≤ 60 + n ∧ OwnR wr (w.heap.size + 1 + 1) (.slice B n c) n fl ∧ Rdr wr (w.heap.size + 1) w.heap.size q' ∧ Below w.heap.size w wr ∧ w.heap.size + 2 ≤ wr.heap.size ∧ wr.heap[w.heap.size]? = some (.cells #[.int .i64 0, .int .i64 0] 33 (0, 0)))
  case atStart => exact ⟨n, c, B, fl, q', rfl, rfl, HBn.out, by omega, hc1, by omega, by omega, hown, hrd2, hbw2, by omega, hres2⟩
  case round =>
    clear hown hrd2 hbw2 hres2 hc1 hc2 HBn
    obtain ⟨n2, c2, B2, fl2, q2, hg, rfl, hBn2, hm2, hc2, hn2, hq2, hown2, hrd, hbw, hsz, hres⟩ := hrel
    have HG := Lib.hid hg
    have HB2 := Lib.hid hBn2
    have hlo2 := hrd.lo
    clear hg hBn2
    go_wp2_with fail
    (apply Calls.mono; focus (apply pick_abs; exact hrd; omega)); rintro e w3 ⟨x, rfl, hx0, hx1, hrd3, hsz3, hcp, hfp, hgp⟩
    replace hx1 := hx1 (by omega)
    replace hsz3 := Nat.le_of_eq hsz3.symm
    have hown3 := ownr_grown hown2 hgp (by omega)
    have hbw3 := below_grown hbw hgp (by omega) (by omega)
    have hres3 := (hgp.block _ (by omega) (fun e => by injection e with e; omega)).trans hres
    clear hcp hfp hgp hown2 hbw hres hrd
    rcases (show (x = 0 ∧ n2 < 12) ∨ (x = 0 ∧ n2 = 12) ∨ ¬ x = 0 by omega) with ⟨rfl, hlt⟩ | ⟨rfl, hlt⟩ | hx
    · have i1 : (n2 : Int) < 12 := by omega
      go_wp2_with (at_builtin; refine wpl_append_rec rfl _ _ (by rfl) (w.heap.size + 1 + 1) _ _ _ _ _ (by rfl) hown3 (by rfl) (by omega) (by omega) ?_; intro v' w6 hown6 hb6 _ _)
      obtain ⟨B7, c7, rfl, hc7, hm7, hB7⟩ := ownr_form hown6
      unfold maxLen at hm7
      go_roundg (20 - (n2 + 1))
      case measure => rw [HG.out]; omega
      case rel => exact ⟨n2 + 1, c7, B7, _, q2 + 1, rfl, rfl, hB7, by omega, hc7, by omega, by omega, hown6, hrd3.keep (hb6.mono (by omega)), hbw3.trans (hb6.mono (by omega)), by have := hb6.size; omega, (hb6.block _ (by omega)).trans hres3⟩
    · have i1 : ¬ (n2 : Int) < 12 := by omega
      have HL := Lib.hid hlt
      clear hlt
      go_wp2_with fail
      (apply Calls.mono; focus (apply pick_abs; exact hrd3; omega)); rintro e w4 ⟨y, rfl, hy0, hy1, hrd4, hsz4, hcp, hfp, hgp⟩
      replace hy1 := hy1 (by omega)
      replace hsz4 := Nat.le_of_eq hsz4.symm
      have hown4 := ownr_grown hown3 hgp (by omega)
      have hbw4 := below_grown hbw3 hgp (by omega) (by omega)
      have hres4 := (hgp.block _ (by omega) (fun e => by injection e with e; omega)).trans hres3
      clear hcp hfp hgp hown3 hbw3 hres3 hrd3
      by_cases hy : y = 0
      · subst hy
        go_wp2_with fail
        (apply Calls.mono; focus (apply pick_abs; exact hrd4; omega)); rintro e w5 ⟨z, rfl, hz0, hz1, hrd5, hsz5, hcp, hfp, hgp⟩
        replace hz1 := hz1 (by omega)
        replace hsz5 := Nat.le_of_eq hsz5.symm
        have hown5 := ownr_grown hown4 hgp (by omega)
        have hbw5 := below_grown hbw4 hgp (by omega) (by omega)
        have hres5 := (hgp.block _ (by omega) (fun e => by injection e with e; omega)).trans hres4
        have r0 : w5.cell? ⟨w.heap.size, 0, none⟩ = some (.int .i64 0) := by simp [World.cell?, hres5]
        have r1 : w5.cell? ⟨w.heap.size, 1, none⟩ = some (.int .i64 0) := by simp [World.cell?, hres5]
        have s0 : w5.frozen? ⟨w.heap.size, 0, none⟩ = false := by simp [World.frozen?, hres5]
        have s1 : w5.frozen? ⟨w.heap.size, 1, none⟩ = false := by simp [World.frozen?, hres5]
        clear hcp hfp hgp hown4 hbw4 hres4 hrd4 hres5
        have HO := Lib.hid hown5
        clear hown5
        go_wp2_with fail
        refine bodyPost_ret (by simp only [results, Try.results24]; go_simp; try rfl) rfl ?_
        exact ⟨_, _, _, _, _, _, _, rfl, ownr_dlog (ownr_setb (ownr_setb HO.out _ (by show w.heap.size < _; omega)) _ (by show w.heap.size < _; omega)) HB2.out, ⟨by omega, hk1, hk4, by omega, by omega, by omega, by omega⟩, by (repeat (first | (with_reducible exact Below.refl _ _) | (with_reducible assumption) | (with_reducible refine below_drewN ?_ _) | (with_reducible refine Below.drew ?_) | (with_reducible refine Below.alloc ?_ (by (first | omega | (show _ < _; omega) | (simp; omega) | (simp; done))) _) | (with_reducible refine Below.setCell ?_ (by (first | omega | (show _ < _; omega) | (simp; omega) | (simp; done))) _) | (with_reducible refine Below.trans ?_ (Below.mono (by with_reducible assumption) (by (first | omega | (show _ < _; omega) | (simp; omega) | (simp; done))))) | (with_reducible refine below_grown ?_ (by with_reducible assumption) (by (first | omega | (show _ < _; omega) | (simp; omega) | (simp; done))) (by (first | omega | (show _ < _; omega) | (simp; omega) | (simp; done))))))⟩
      · have hy' : (y == 0) = false := by simpa using hy
        go_wp2_with fail
        (apply Calls.mono; focus (apply pick_abs; exact hrd4; omega)); rintro e w5 ⟨z, rfl, hz0, hz1, hrd5, hsz5, hcp, hfp, hgp⟩
        replace hz1 := hz1 (by omega)
        replace hsz5 := Nat.le_of_eq hsz5.symm
        have hown5 := ownr_grown hown4 hgp (by omega)
        have hbw5 := below_grown hbw4 hgp (by omega) (by omega)
        have hres5 := (hgp.block _ (by omega) (fun e => by injection e with e; omega)).trans hres4
        have r0 : w5.cell? ⟨w.heap.size, 0, none⟩ = some (.int .i64 0) := by simp [World.cell?, hres5]
        have r1 : w5.cell? ⟨w.heap.size, 1, none⟩ = some (.int .i64 0) := by simp [World.cell?, hres5]
        have s0 : w5.frozen? ⟨w.heap.size, 0, none⟩ = false := by simp [World.frozen?, hres5]
        have s1 : w5.frozen? ⟨w.heap.size, 1, none⟩ = false := by simp [World.frozen?, hres5]
        clear hcp hfp hgp hown4 hbw4 hres4 hrd4 hres5
        have HO := Lib.hid hown5
        clear hown5
        go_wp2_with fail
        refine bodyPost_ret (by simp only [results, Try.results24]; go_simp; try rfl) rfl ?_
        exact ⟨_, _, _, _, _, _, _, rfl, ownr_dlog (ownr_setb (ownr_setb HO.out _ (by show w.heap.size < _; omega)) _ (by show w.heap.size < _; omega)) HB2.out, ⟨by omega, hk1, hk4, by omega, by omega, by omega, by omega⟩, by (repeat (first | (with_reducible exact Below.refl _ _) | (with_reducible assumption) | (with_reducible refine below_drewN ?_ _) | (with_reducible refine Below.drew ?_) | (with_reducible refine Below.alloc ?_ (by (first | omega | (show _ < _; omega) | (simp; omega) | (simp; done))) _) | (with_reducible refine Below.setCell ?_ (by (first | omega | (show _ < _; omega) | (simp; omega) | (simp; done))) _) | (with_reducible refine Below.trans ?_ (Below.mono (by with_reducible assumption) (by (first | omega | (show _ < _; omega) | (simp; omega) | (simp; done))))) | (with_reducible refine below_grown ?_ (by with_reducible assumption) (by (first | omega | (show _ < _; omega) | (simp; omega) | (simp; done))) (by (first | omega | (show _ < _; omega) | (simp; omega) | (simp; done))))))⟩
    · have hx' : (x == 0) = false := by simpa using hx
      go_wp2_with fail
      (apply Calls.mono; focus (apply pick_abs; exact hrd3; omega)); rintro e w4 ⟨y, rfl, hy0, hy1, hrd4, hsz4, hcp, hfp, hgp⟩
      replace hy1 := hy1 (by omega)
      replace hsz4 := Nat.le_of_eq hsz4.symm
      have hown4 := ownr_grown hown3 hgp (by omega)
      have hbw4 := below_grown hbw3 hgp (by omega) (by omega)
      have hres4 := (hgp.block _ (by omega) (fun e => by injection e with e; omega)).trans hres3
      clear hcp hfp hgp hown3 hbw3 hres3 hrd3
      by_cases hy : y = 0
      · subst hy
        go_wp2_with fail
        (apply Calls.mono; focus (apply pick_abs; exact hrd4; omega)); rintro e w5 ⟨z, rfl, hz0, hz1, hrd5, hsz5, hcp, hfp, hgp⟩
        replace hz1 := hz1 (by omega)
        replace hsz5 := Nat.le_of_eq hsz5.symm
        have hown5 := ownr_grown hown4 hgp (by omega)
        have hbw5 := below_grown hbw4 hgp (by omega) (by omega)
        have hres5 := (hgp.block _ (by omega) (fun e => by injection e with e; omega)).trans hres4
        have r0 : w5.cell? ⟨w.heap.size, 0, none⟩ = some (.int .i64 0) := by simp [World.cell?, hres5]
        have r1 : w5.cell? ⟨w.heap.size, 1, none⟩ = some (.int .i64 0) := by simp [World.cell?, hres5]
        have s0 : w5.frozen? ⟨w.heap.size, 0, none⟩ = false := by simp [World.frozen?, hres5]
        have s1 : w5.frozen? ⟨w.heap.size, 1, none⟩ = false := by simp [World.frozen?, hres5]
        clear hcp hfp hgp hown4 hbw4 hres4 hrd4 hres5
        have HO := Lib.hid hown5
        clear hown5
        go_wp2_with fail
        refine bodyPost_ret (by simp only [results, Try.results24]; go_simp; try rfl) rfl ?_
        exact ⟨_, _, _, _, _, _, _, rfl, ownr_dlog (ownr_setb (ownr_setb HO.out _ (by show w.heap.size < _; omega)) _ (by show w.heap.size < _; omega)) HB2.out, ⟨by omega, hk1, hk4, by omega, by omega, by omega, by omega⟩, by (repeat (first | (with_reducible exact Below.refl _ _) | (with_reducible assumption) | (with_reducible refine below_drewN ?_ _) | (with_reducible refine Below.drew ?_) | (with_reducible refine Below.alloc ?_ (by (first | omega | (show _ < _; omega) | (simp; omega) | (simp; done))) _) | (with_reducible refine Below.setCell ?_ (by (first | omega | (show _ < _; omega) | (simp; omega) | (simp; done))) _) | (with_reducible refine Below.trans ?_ (Below.mono (by with_reducible assumption) (by (first | omega | (show _ < _; omega) | (simp; omega) | (simp; done))))) | (with_reducible refine below_grown ?_ (by with_reducible assumption) (by (first | omega | (show _ < _; omega) | (simp; omega) | (simp; done))) (by (first | omega | (show _ < _; omega) | (simp; omega) | (simp; done))))))⟩
      · have hy' : (y == 0) = false := by simpa using hy
        go_wp2_with fail
        (apply Calls.mono; focus (apply pick_abs; exact hrd4; omega)); rintro e w5 ⟨z, rfl, hz0, hz1, hrd5, hsz5, hcp, hfp, hgp⟩
        replace hz1 := hz1 (by omega)
        replace hsz5 := Nat.le_of_eq hsz5.symm
        have hown5 := ownr_grown hown4 hgp (by omega)
        have hbw5 := below_grown hbw4 hgp (by omega) (by omega)
        have hres5 := (hgp.block _ (by omega) (fun e => by injection e with e; omega)).trans hres4
        have r0 : w5.cell? ⟨w.heap.size, 0, none⟩ = some (.int .i64 0) := by simp [World.cell?, hres5]
        have r1 : w5.cell? ⟨w.heap.size, 1, none⟩ = some (.int .i64 0) := by simp [World.cell?, hres5]
        have s0 : w5.frozen? ⟨w.heap.size, 0, none⟩ = false := by simp [World.frozen?, hres5]
        have s1 : w5.frozen? ⟨w.heap.size, 1, none⟩ = false := by simp [World.frozen?, hres5]
        clear hcp hfp hgp hown4 hbw4 hres4 hrd4 hres5
        have HO := Lib.hid hown5
        clear hown5
        go_wp2_with fail
        refine bodyPost_ret (by simp only [results, Try.results24]; go_simp; try rfl) rfl ?_
        exact ⟨_, _, _, _, _, _, _, rfl, ownr_dlog (ownr_setb (ownr_setb HO.out _ (by show w.heap.size < _; omega)) _ (by show w.heap.size < _; omega)) HB2.out, ⟨by omega, hk1, hk4, by omega, by omega, by omega, by omega⟩, by (repeat (first | (with_reducible exact Below.refl _ _) | (with_reducible assumption) | (with_reducible refine below_drewN ?_ _) | (with_reducible refine Below.drew ?_) | (with_reducible refine Below.alloc ?_ (by (first | omega | (show _ < _; omega) | (simp; omega) | (simp; done))) _) | (with_reducible refine Below.setCell ?_ (by (first | omega | (show _ < _; omega) | (simp; omega) | (simp; done))) _) | (with_reducible refine Below.trans ?_ (Below.mono (by with_reducible assumption) (by (first | omega | (show _ < _; omega) | (simp; omega) | (simp; done))))) | (with_reducible refine below_grown ?_ (by with_reducible assumption) (by (first | omega | (show _ < _; omega) | (simp; omega) | (simp; done))) (by (first | omega | (show _ < _; omega) | (simp; omega) | (simp; done))))))⟩
end Go.Proofs.Ytijilikkdnpbmaa
