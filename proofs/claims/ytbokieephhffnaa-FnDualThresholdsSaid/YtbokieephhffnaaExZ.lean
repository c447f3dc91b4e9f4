/- ExprDual on both sides; the law FnExactExprDual's walk. -/
import Derived.Test.YtbokieephhffnaaExY
namespace Go.Proofs.Ytbokieephhffnaa
open Go.RowKit
set_option maxHeartbeats 8000000
set_option linter.unusedVariables false

/-- The dual's text. -/
def duS (t : Tr) : ByteArray := ⟨(textT (dualT t)).toArray⟩
theorem specDual_no (s : ByteArray) (hs : s.size ≤ 1048576) (h : exOk s = false) (w : World) : Calls Try.prog 15 #[.string s] w fun e w' => e = .returned (.string ⟨#[]⟩) ∧ Below w.heap.size w w' := by
  have hc := specExprValid_any s hs w
  rw [h] at hc
  have HC := Lib.hid hc
  clear hc h
  go_enter Try.func15, Try.ntmps15
  go_wp2_with (go_at_call 9; refine HC.out.mono ?_; rintro e w' ⟨rfl, rfl⟩)
  go_ret
  exact ⟨rfl, Below.refl _ _⟩
theorem specDual_yes (s : ByteArray) (t : Tr) (hs : s.size ≤ 1048576) (h : exOk s = true) (ht : tree s = some (t, s.size)) (w : World) : Calls Try.prog 15 #[.string s] w fun e w' => e = .returned (.string (duS t)) ∧ Below w.heap.size w w' := by
  have hc := specExprValid_any s hs w
  rw [h] at hc
  have HC := Lib.hid hc
  have hd := l2Dual_any s.size s t w (Nat.le_refl _) (exOk_tree h).1 ⟨_, ht⟩
  rw [show (⟨(textT (dualT t)).toArray⟩ : ByteArray) = duS t from rfl] at hd
  have HD := Lib.hid hd
  clear hc h ht hd
  go_enter Try.func15, Try.ntmps15
  go_wp2_with (first | (go_at_call 9; refine HC.out.mono ?_; rintro e w' ⟨rfl, rfl⟩) | (go_at_call 26; refine HD.out.mono ?_; rintro e w' ⟨rfl, hb⟩; have HB := Lib.hid hb; clear hb))
  go_ret
  exact ⟨rfl, HB.out⟩
theorem implDual_no (s : ByteArray) (hs : s.size ≤ 1048576) (h : exOk s = false) (w : World) : Calls Try.prog 16 #[.string s] w fun e w' => e = .returned (.string ⟨#[]⟩) ∧ Below w.heap.size w w' := by
  have HC := Lib.hid (parse_any s hs w)
  have H0 := Lib.hid h
  clear h
  go_enter Try.func16, Try.ntmps16
  go_wp2_with fail
  refine HC.out.mono ?_
  rintro e w1 ⟨hb, ⟨h0, rfl⟩ | ⟨h1, v, t, -, rfl, ht⟩⟩
  · have HB := Lib.hid hb
    clear hb h0
    go_wp2_with fail
    go_ret
    exact ⟨rfl, HB.out⟩
  · rw [H0.out] at h1
    cases h1
theorem implDual_yes (s : ByteArray) (t : Tr) (hs : s.size ≤ 1048576) (h : exOk s = true) (ht : tree s = some (t, s.size)) (w : World) : Calls Try.prog 16 #[.string s] w fun e w' => e = .returned (.string (duS t)) ∧ Below w.heap.size w w' := by
  have HC := Lib.hid (parse_any s hs w)
  have H1 := Lib.hid h
  have HT := Lib.hid ht
  have h40 := (exOk_tree h).1
  obtain ⟨hwf, htl⟩ := whole_text (u := s) (t := t) ⟨_, ht⟩
  have HW := Lib.hid hwf
  have HL := Lib.hid htl
  clear h ht htl hwf
  go_enter Try.func16, Try.ntmps16
  go_wp2_with fail
  refine HC.out.mono ?_
  rintro e w1 ⟨hb, ⟨h0, rfl⟩ | ⟨h1, v, t', ht', rfl, hi⟩⟩
  · rw [H1.out] at h0
    cases h0
  · have HB := Lib.hid hb
    have hz1 := hb.size
    rw [HT.out] at ht'
    simp only [Option.some.injEq, Prod.mk.injEq, and_true] at ht'
    subst ht'
    have HD := Lib.hid (dual_any hi HW.out w1 (Nat.le_refl _) (fun _ _ => rfl))
    obtain ⟨T, b, rfl⟩ := hi.iface
    clear hb h1 hi
    go_wp2_with fail
    refine HD.out.mono ?_
    rintro e w2 ⟨v2, rfl, hi2, hb2⟩
    have HB2 := Lib.hid (HB.out.trans (hb2.mono hz1))
    have hz2 := hb2.size
    have hcall := text_any hi2 HW.out.dual (by have := HL.out; omega) w2 (Nat.le_refl _) (fun _ _ => rfl)
    unfold TextQ at hcall
    rw [show (⟨(textT (dualT t)).toArray⟩ : ByteArray) = duS t from rfl] at hcall
    clear hi2 hb2
    rcases hcall with ⟨b2, rfl, hcl⟩ | ⟨b2, rfl, hcl⟩
    all_goals
      have HCl := Lib.hid hcl
      clear hcl
      go_wp2_with fail
      refine HCl.out.mono ?_
      rintro e w3 ⟨rfl, hb3⟩
      have HB3 := Lib.hid (HB2.out.trans (hb3.mono (by omega)))
      clear hb3
      go_wp2_with fail
      go_ret
      exact ⟨rfl, HB3.out⟩

/-- Both duals are this text. -/
theorem dual_of {s d : ByteArray} (hs : s.size ≤ 1048576) (h : (exOk s = false ∧ d = ⟨#[]⟩) ∨ (exOk s = true ∧ ∃ t, tree s = some (t, s.size) ∧ d = duS t)) :
    (∀ w, Calls Try.prog 15 #[.string s] w fun e w' => e = .returned (.string d) ∧ Below w.heap.size w w') ∧ (∀ w, Calls Try.prog 16 #[.string s] w fun e w' => e = .returned (.string d) ∧ Below w.heap.size w w') := by
  rcases h with ⟨h, rfl⟩ | ⟨h, t, ht, rfl⟩
  · exact ⟨specDual_no s hs h, implDual_no s hs h⟩
  · exact ⟨specDual_yes s t hs h ht, implDual_yes s t hs h ht⟩
theorem dual_both (s : ByteArray) (hs : s.size ≤ 1048576) : ∃ d : ByteArray, (∀ w, Calls Try.prog 15 #[.string s] w fun e w' => e = .returned (.string d) ∧ Below w.heap.size w w') ∧ (∀ w, Calls Try.prog 16 #[.string s] w fun e w' => e = .returned (.string d) ∧ Below w.heap.size w w') := by
  cases h : exOk s
  · exact ⟨_, dual_of hs (.inl ⟨h, rfl⟩)⟩
  · obtain ⟨_, t, ht⟩ := exOk_tree h
    exact ⟨_, dual_of hs (.inr ⟨h, t, ht, rfl⟩)⟩

theorem exactExprDual_walk (s : ByteArray) (h : s.size ≤ maxLen) (w : World) : Calls Try.prog 7 #[.string s] w fun e w' => e = .returned (.bool true) ∧ Below w.heap.size w w' := by
  unfold maxLen at h
  by_cases hl : 1048576 < s.size
  · have hl2 : (1048576 : Int) < s.size := by omega
    go_enter Try.func7, Try.ntmps7
    go_wp2
    go_ret
    exact ⟨rfl, Below.refl _ _⟩
  have hs : s.size ≤ 1048576 := by omega
  have hl2 : ¬ (1048576 : Int) < s.size := by omega
  obtain ⟨r, h1, h2⟩ := dual_both s hs
  have H1 := Lib.hid h1
  have H2 := Lib.hid h2
  clear h1 h2
  go_enter Try.func7, Try.ntmps7
  go_wp2_with fail
  refine (H1.out w).mono ?_
  rintro e w1 ⟨rfl, hb1⟩
  go_wp2_with fail
  refine (H2.out w1).mono ?_
  rintro e w2 ⟨rfl, hb2⟩
  have HB := Lib.hid (hb1.trans (hb2.mono hb1.size))
  clear hb1 hb2
  go_wp2_with fail
  go_ret
  exact ⟨rfl, HB.out⟩
end Go.Proofs.Ytbokieephhffnaa
