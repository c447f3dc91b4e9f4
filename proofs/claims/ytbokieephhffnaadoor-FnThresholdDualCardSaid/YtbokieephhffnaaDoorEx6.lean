/- ExprValid: the reference's, the program's, the law FnExactExprValid. -/
import Derived.Test.YtbokieephhffnaaDoorEx5
namespace Go.Proofs.YtbokieephhffnaaDoor
open Go.RowKit
set_option maxHeartbeats 4000000

/-- The whole of a text as an expression. -/
def tree (s : ByteArray) : Option (Tr × Nat) := pe s (s.size + 1) 0
/-- A text is an expression. -/
def exOk (s : ByteArray) : Bool := decide (s.size ≤ 40) && match tree s with | none => false | some (_, e) => e == s.size
theorem exOk_big {s : ByteArray} (h : ¬ s.size ≤ 40) : exOk s = false := by simp [exOk, h]
theorem exOk_none {s : ByteArray} (h : tree s = none) : exOk s = false := by simp [exOk, h]
theorem exOk_some {s : ByteArray} {t : Tr} {e : Nat} (h0 : s.size ≤ 40) (h : tree s = some (t, e)) : exOk s = (e == s.size) := by simp [exOk, h, h0]
theorem exOk_tree {s : ByteArray} (h : exOk s = true) : s.size ≤ 40 ∧ ∃ t, tree s = some (t, s.size) := by
  unfold exOk at h
  rw [Bool.and_eq_true] at h
  refine ⟨by simpa using h.1, ?_⟩
  cases ht : tree s with
  | none => rw [ht] at h; cases h.2
  | some y =>
    obtain ⟨t, e⟩ := y
    rw [ht] at h
    have : e = s.size := by simpa using h.2
    exact ⟨t, by rw [this]⟩
theorem tree_end {s : ByteArray} {t : Tr} {e : Nat} (h : tree s = some (t, e)) : 0 < e ∧ e ≤ s.size := pe_end _ _ _ _ h

/-- How parse ends. -/
def PaRes (s : ByteArray) (W : World) (e : Ending) (W' : World) : Prop := Below W.heap.size W W' ∧ ((exOk s = false ∧ e = .returned .nilIface) ∨ (exOk s = true ∧ ∃ v t, tree s = some (t, s.size) ∧ e = .returned v ∧ IsT W' (fun b => W.heap.size ≤ b) v t))
theorem PaRes.no {s : ByteArray} {W W' : World} (h : exOk s = false) (hb : Below W.heap.size W W') : PaRes s W (.returned .nilIface) W' := ⟨hb, .inl ⟨h, rfl⟩⟩
theorem below_of_grown {W W1 W' : World} {P : Nat} (hb : Below W.heap.size W W1) (hg : W1.grownBy W' (some P)) (hP : W.heap.size ≤ P) : Below W.heap.size W W' :=
  hb.trans ⟨hg.os, hg.tape, hg.output, hg.size, fun i hi => hg.block i (by have := hb.size; omega) (by intro e; cases e; omega)⟩

theorem parse_any (s : ByteArray) (hs : s.size ≤ 1048576) (W : World) : Calls Tryd.prog 20 #[.string s] W (PaRes s W) := by
  by_cases h40 : s.size ≤ 40
  case neg =>
    have HF := Lib.hid (exOk_big h40)
    have h41 : (40 : Int) < s.size := by omega
    go_enter Tryd.func20, Tryd.ntmps20
    go_wp2
    go_ret
    exact PaRes.no HF.out (Below.refl _ _)
  have h41 : ¬ (40 : Int) < s.size := by omega
  have hb1 : Below W.heap.size W (W.alloc (.cells #[.string s] 64)) := (Below.refl _ _).alloc (Nat.le_refl _) _
  have hp1 : Psr (W.alloc (.cells #[.string s] 64)) W.heap.size (s.extract 0 s.size) := by
    rw [Lib.whole_piece]
    exact heap_alloc_new W _
  have hc := expr_any s h40 W.heap.size (s.size + 1) 0 _ hp1 (by omega) (by omega)
  have HB1 := Lib.hid hb1
  clear hb1 hp1
  cases ht : tree s with
  | none =>
    have HF := Lib.hid (exOk_none ht)
    rw [show pe s (s.size + 1) 0 = none from ht] at hc
    have HC := Lib.hid hc
    clear hc ht
    go_enter Tryd.func20, Tryd.ntmps20
    go_wp2_with fail
    refine HC.out.mono ?_
    rintro e w1 ⟨hg1, rfl, r1, hr1⟩
    have HB := Lib.hid (below_of_grown HB1.out hg1 (Nat.le_refl _))
    obtain ⟨c1, c2, c3⟩ := hr1.cell
    clear hg1 hr1
    by_cases h0 : 0 < r1.size
    · obtain ⟨e1, e2⟩ := lst_ne h0
      go_wp2_with fail
      go_ret
      exact PaRes.no HF.out HB.out
    · obtain ⟨e1, e2⟩ := lst_nil h0
      go_wp2_with fail
      go_ret
      exact PaRes.no HF.out HB.out
  | some y =>
    obtain ⟨t, e⟩ := y
    obtain ⟨he1, he2⟩ := tree_end ht
    have HF := Lib.hid (exOk_some h40 ht)
    have HT := Lib.hid ht
    rw [show pe s (s.size + 1) 0 = some (t, e) from ht] at hc
    have HC := Lib.hid hc
    clear hc ht
    go_enter Tryd.func20, Tryd.ntmps20
    go_wp2_with fail
    refine HC.out.mono ?_
    rintro x w1 ⟨hg1, v, rfl, hr1, ht1⟩
    have HB := Lib.hid (below_of_grown HB1.out hg1 (Nat.le_refl _))
    obtain ⟨c1, c2, c3⟩ := hr1.cell
    have HI := Lib.hid (ht1.keep (w' := w1) (S' := fun b => W.heap.size ≤ b) fun b hb _ => ⟨rfl, by simp at hb; omega⟩)
    clear hg1 hr1 ht1
    have hsz := ext_size s e
    obtain ⟨rr, hrr⟩ : ∃ rr, rr = s.extract e s.size := ⟨_, rfl⟩
    rw [← hrr] at c1 hsz
    clear hrr
    by_cases hes : e = s.size
    · obtain ⟨e1, e2⟩ := lst_nil (r := rr) (by omega)
      have HR := Lib.hid (show exOk s = true by rw [HF.out]; simpa using hes)
      have HT2 := Lib.hid (show tree s = some (t, s.size) by rw [HT.out, hes])
      clear hes hsz
      go_wp2_with fail
      go_ret
      exact ⟨HB.out, .inr ⟨HR.out, v, t, HT2.out, rfl, HI.out⟩⟩
    · obtain ⟨e1, e2⟩ := lst_ne (r := rr) (by omega)
      have HR := Lib.hid (show exOk s = false by rw [HF.out]; simpa using hes)
      clear hes hsz
      go_wp2_with fail
      go_ret
      exact PaRes.no HR.out HB.out

end Go.Proofs.YtbokieephhffnaaDoor
