/- ExprDual on both sides; the law FnExactExprDual's walk. -/
import Derived.Test.YtbokieephhffnaaDoorExY
namespace Go.Proofs.YtbokieephhffnaaDoor
open Go.RowKit
set_option maxHeartbeats 8000000
set_option linter.unusedVariables false

/-- The dual's text. -/
def duS (t : Tr) : ByteArray := ⟨(textT (dualT t)).toArray⟩
theorem implDual_no (s : ByteArray) (hs : s.size ≤ 1048576) (h : exOk s = false) (w : World) : Calls Tryd.prog 10 #[.string s] w fun e w' => e = .returned (.string ⟨#[]⟩) ∧ Below w.heap.size w w' := by
  have HC := Lib.hid (parse_any s hs w)
  have H0 := Lib.hid h
  clear h
  go_enter Tryd.func10, Tryd.ntmps10
  go_wp2_with fail
  refine HC.out.mono ?_
  rintro e w1 ⟨hb, ⟨h0, rfl⟩ | ⟨h1, v, t, -, rfl, ht⟩⟩
  · have HB := Lib.hid hb
    clear hb h0
    go_wp2_with fail
    go_ret
    exact ⟨rfl, HB.out⟩
  · rw [H0.out] at h1
    cases h1
theorem implDual_yes (s : ByteArray) (t : Tr) (hs : s.size ≤ 1048576) (h : exOk s = true) (ht : tree s = some (t, s.size)) (w : World) : Calls Tryd.prog 10 #[.string s] w fun e w' => e = .returned (.string (duS t)) ∧ Below w.heap.size w w' := by
  have HC := Lib.hid (parse_any s hs w)
  have H1 := Lib.hid h
  have HT := Lib.hid ht
  have h40 := (exOk_tree h).1
  obtain ⟨hwf, htl⟩ := whole_text (u := s) (t := t) ⟨_, ht⟩
  have HW := Lib.hid hwf
  have HL := Lib.hid htl
  clear h ht htl hwf
  go_enter Tryd.func10, Tryd.ntmps10
  go_wp2_with fail
  refine HC.out.mono ?_
  rintro e w1 ⟨hb, ⟨h0, rfl⟩ | ⟨h1, v, t', ht', rfl, hi⟩⟩
  · rw [H1.out] at h0
    cases h0
  · have HB := Lib.hid hb
    have hz1 := hb.size
    rw [HT.out] at ht'
    simp only [Option.some.injEq, Prod.mk.injEq, and_true] at ht'
    subst ht'
    have HD := Lib.hid (dual_any hi HW.out w1 (Nat.le_refl _) (fun _ _ => rfl))
    obtain ⟨T, b, rfl⟩ := hi.iface
    clear hb h1 hi
    go_wp2_with fail
    refine HD.out.mono ?_
    rintro e w2 ⟨v2, rfl, hi2, hb2⟩
    have HB2 := Lib.hid (HB.out.trans (hb2.mono hz1))
    have hz2 := hb2.size
    have hcall := text_any hi2 HW.out.dual (by have := HL.out; omega) w2 (Nat.le_refl _) (fun _ _ => rfl)
    unfold TextQ at hcall
    rw [show (⟨(textT (dualT t)).toArray⟩ : ByteArray) = duS t from rfl] at hcall
    clear hi2 hb2
    rcases hcall with ⟨b2, rfl, hcl⟩ | ⟨b2, rfl, hcl⟩
    all_goals
      have HCl := Lib.hid hcl
      clear hcl
      go_wp2_with fail
      refine HCl.out.mono ?_
      rintro e w3 ⟨rfl, hb3⟩
      have HB3 := Lib.hid (HB2.out.trans (hb3.mono (by omega)))
      clear hb3
      go_wp2_with fail
      go_ret
      exact ⟨rfl, HB3.out⟩

end Go.Proofs.YtbokieephhffnaaDoor
