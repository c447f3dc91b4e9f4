/- The law FnDepth: its walk. -/
import Derived.Test.YtbokieephhffnaaExW
namespace Go.Proofs.Ytbokieephhffnaa
open Go.RowKit
set_option maxHeartbeats 8000000
set_option linter.unusedVariables false

theorem depth_of {s : ByteArray} {r : Int} (hs : s.size ≤ 1048576) (h : (exOk s = false ∧ r = -1) ∨ (exOk s = true ∧ ∃ t, tree s = some (t, s.size) ∧ r = (depthT t : Nat))) :
    (∀ w, Calls Try.prog 11 #[.string s] w fun e w' => e = .returned (.int .i64 r) ∧ Below w.heap.size w w') ∧ (∀ w, Calls Try.prog 12 #[.string s] w fun e w' => e = .returned (.int .i64 r) ∧ Below w.heap.size w w') := by
  rcases h with ⟨h, rfl⟩ | ⟨h, t, ht, rfl⟩
  · exact ⟨specDepth_no s hs h, implDepth_no s hs h⟩
  · exact ⟨specDepth_yes s t hs h ht, implDepth_yes s t hs h ht⟩
theorem depth_zero {s : ByteArray} {t : Tr} (ht : tree s = some (t, s.size)) : (depthT t = 0 ∧ s.size = 1) ∨ (0 < depthT t ∧ 1 < s.size) := by
  cases t with
  | leaf n => exact .inl ⟨rfl, leaf_size ⟨_, ht⟩⟩
  | gate n ts =>
    obtain ⟨_, _, _, h⟩ := gate_parts (u := s) (n := n) (ts := ts) ⟨_, ht⟩
    exact .inr ⟨Nat.succ_pos _, by omega⟩

theorem depth_walk (A : Option Addr) (n c : Nat) (zs0 : List Int) (w : World) (h : Ints .u8 w A n c zs0) : Calls Try.prog 6 #[.slice A n c] w fun e w' => e = .returned (.bool true) ∧ Below w.heap.size w w' := by
  have hmx := h.max
  have hcp := h.cap
  unfold maxLen at hmx
  by_cases hl : 1048576 < n
  · have hl2 : (1048576 : Int) < n := by omega
    go_enter Try.func6, Try.ntmps6
    go_wp2
    go_ret
    exact ⟨rfl, Below.refl _ _⟩
  have hl2 : ¬ (1048576 : Int) < n := by omega
  go_enter Try.func6, Try.ntmps6
  go_wp2_with fail
  refine (drawDepth_any A n c zs0 _ h).mono ?_
  rintro e wd ⟨s, rfl, ⟨_, hs⟩, hbd⟩
  clear h
  have HBd := Lib.hid hbd
  clear hbd
  cases hb : exOk s
  · have HE := Lib.hid hb
    obtain ⟨h1, h2⟩ := depth_of (r := -1) (by omega) (.inl ⟨hb, rfl⟩)
    have H1 := Lib.hid h1
    have H2 := Lib.hid h2
    clear h1 h2 hb
    go_wp2_with fail
    refine (H2.out wd).mono ?_
    rintro e w1 ⟨rfl, hb1⟩
    have HB1 := Lib.hid (HBd.out.trans (hb1.mono HBd.out.size))
    clear hb1
    go_wp2_with fail
    refine (H1.out w1).mono ?_
    rintro e w2 ⟨rfl, hb2⟩
    have HB2 := Lib.hid (HB1.out.trans (hb2.mono HB1.out.size))
    clear hb2
    go_wp2_with fail
    refine (H1.out w2).mono ?_
    rintro e w3 ⟨rfl, hb3⟩
    have HB3 := Lib.hid (HB2.out.trans (hb3.mono HB2.out.size))
    clear hb3
    go_wp2_with fail
    refine (implEx_is s w3 (by omega) HE.out).mono ?_
    rintro e w4 ⟨rfl, hb4⟩
    have HB4 := Lib.hid (HB3.out.trans (hb4.mono HB3.out.size))
    clear hb4
    go_wp2_with fail
    go_ret
    exact ⟨rfl, HB4.out⟩
  · obtain ⟨h40, t, ht⟩ := exOk_tree hb
    obtain ⟨h1, h2⟩ := depth_of (by omega) (.inr ⟨hb, t, ht, rfl⟩)
    have hz := depth_zero ht
    have hdep : depthT t ≤ s.size := whole_depth ⟨_, ht⟩
    have hwr : s.size + 3 ≤ 40 → ∀ w, Calls Try.prog 12 #[.string (wrapS s)] w fun e w' => e = .returned (.int .i64 ((depthT t : Nat) + 1)) ∧ Below w.heap.size w w' := fun h3 => by
      obtain ⟨k1, t', k2, k3⟩ := wrap_tree h3 ht
      have := (depth_of (s := wrapS s) (r := ((depthT t : Nat) : Int) + 1) (by rw [wrap_size]; omega) (.inr ⟨k1, t', k2, by rw [k3]; omega⟩)).2
      exact this
    unfold wrapS at hwr
    have H1 := Lib.hid h1
    have H2 := Lib.hid h2
    have HW := Lib.hid hwr
    obtain ⟨D, hD⟩ : ∃ D, depthT t = D := ⟨_, rfl⟩
    rw [hD] at H1 H2 HW hz hdep
    have e1 : (⟨#[49, 40]⟩ : ByteArray).size = 2 := rfl
    have hsz : (⟨#[49, 40]⟩ ++ s ++ ⟨#[41]⟩ : ByteArray).size = s.size + 3 := wrap_size s
    have c1 : ¬ 9223372036854775807 < 2 + s.size := by omega
    have c2 : ¬ 9223372036854775807 < 2 + s.size + 1 := by omega
    have d0 : ¬ (D : Int) < 0 := by omega
    clear h1 h2 hwr ht hb hD hsz
    go_wp2_with fail
    refine (H2.out wd).mono ?_
    rintro e w1 ⟨rfl, hb1⟩
    have HB1 := Lib.hid (HBd.out.trans (hb1.mono HBd.out.size))
    clear hb1
    go_wp2_with fail
    refine (H1.out w1).mono ?_
    rintro e w2 ⟨rfl, hb2⟩
    have HB2 := Lib.hid (HB1.out.trans (hb2.mono HB1.out.size))
    clear hb2
    rcases hz with ⟨hD0, hs1⟩ | ⟨hD1, hs1⟩
    · have q1 : ((D : Int) == 0) = true := by rw [hD0]; rfl
      have q2 : ((s.size : Int) == 1) = true := by rw [hs1]; rfl
      have q3 : ¬ (40 : Int) < 2 + s.size + 1 := by omega
      have q4 : ¬ (40 : Nat) < 2 + s.size + 1 := by omega
      have HWd := Lib.hid (HW.out (by omega) w2)
      clear hD0 hs1
      go_wp2_with fail
      refine HWd.out.mono ?_
      rintro e w3 ⟨rfl, hb3⟩
      have HB3 := Lib.hid (HB2.out.trans (hb3.mono HB2.out.size))
      clear hb3
      go_wp2_with fail
      go_ret
      exact ⟨rfl, HB3.out⟩
    · have q1 : ((D : Int) == 0) = false := by simp; omega
      have q1' : (D == 0) = false := by simp; omega
      have q2 : ((s.size : Int) == 1) = false := by simp; omega
      have q2' : (s.size == 1) = false := by simp; omega
      by_cases h40w : 2 + s.size + 1 ≤ 40
      · have q3 : ¬ (40 : Int) < 2 + s.size + 1 := by omega
        have q4 : ¬ (40 : Nat) < 2 + s.size + 1 := by omega
        have HWd := Lib.hid (HW.out (by omega) w2)
        clear h40w
        go_wp2_with fail
        refine HWd.out.mono ?_
        rintro e w3 ⟨rfl, hb3⟩
        have HB3 := Lib.hid (HB2.out.trans (hb3.mono HB2.out.size))
        clear hb3
        go_wp2_with fail
        go_ret
        exact ⟨rfl, HB3.out⟩
      · have q3 : (40 : Int) < 2 + s.size + 1 := by omega
        have q4 : (40 : Nat) < 2 + s.size + 1 := by omega
        clear h40w
        go_wp2_with fail
        go_ret
        exact ⟨rfl, HB2.out⟩
end Go.Proofs.Ytbokieephhffnaa
