/- ExprDual: the reference's, the program's, the law FnExactExprDual. -/
import Derived.Test.YtbokieephhffnaaDoorExU
import Derived.Test.YtbokieephhffnaaDoorDec
namespace Go.Proofs.YtbokieephhffnaaDoor
open Go.RowKit
set_option maxHeartbeats 8000000
set_option linter.unusedVariables false

theorem pl_wf {s : ByteArray} {g : Nat → Option (Tr × Nat)} (hg : ∀ i t e, g i = some (t, e) → WfD t) : ∀ f i ts e, pl s g f i = some (ts, e) → ∀ (k : Nat) t, ts[k]? = some t → WfD t
  | 0, i, ts, e, h => by simp [pl] at h
  | f + 1, i, ts, e, h => by
    unfold pl at h
    cases hgi : g i with
    | none => simp [hgi] at h
    | some x =>
      obtain ⟨t, j⟩ := x
      have h1 := hg i t j hgi
      simp only [hgi] at h
      by_cases h41 : bt s j = 41
      · rw [if_pos h41] at h
        simp only [Option.some.injEq, Prod.mk.injEq] at h
        obtain ⟨rfl, rfl⟩ := h
        intro k u hk
        cases k with
        | zero => simp at hk; subst hk; exact h1
        | succ k => simp at hk
      · rw [if_neg h41] at h
        by_cases h44 : bt s j = 44
        · rw [if_pos h44] at h
          cases hp : pl s g f (j + 1) with
          | none => simp [hp] at h
          | some y =>
            obtain ⟨ts', e'⟩ := y
            simp only [hp, Option.some.injEq, Prod.mk.injEq] at h
            obtain ⟨rfl, rfl⟩ := h
            have ih := pl_wf hg f (j + 1) ts' e' hp
            intro k u hk
            cases k with
            | zero => simp at hk; subst hk; exact h1
            | succ k => exact ih k u (by simpa using hk)
        · rw [if_neg h44] at h
          cases h
theorem pe_wf {s : ByteArray} : ∀ f i t e, pe s f i = some (t, e) → WfD t
  | 0, i, t, e, h => by simp [pe] at h
  | f + 1, i, t, e, h => by
    unfold pe at h
    by_cases hd : isD (bt s i) = true
    · rw [if_pos hd] at h
      obtain ⟨d1, d2⟩ := isD_iff.1 hd
      by_cases h40 : bt s (i + 1) = 40
      · rw [if_pos h40] at h
        cases hp : pl s (pe s f) f (i + 2) with
        | none => simp [hp] at h
        | some y =>
          obtain ⟨ts', e'⟩ := y
          simp only [hp] at h
          have h3 := pl_wf (pe_wf f) f (i + 2) ts' e' hp
          split at h
          case isTrue hc =>
            simp only [Option.some.injEq, Prod.mk.injEq] at h
            obtain ⟨rfl, rfl⟩ := h
            exact .gate (by omega) hc.2 hc.1 h3
          case isFalse => cases h
      · rw [if_neg h40] at h
        simp only [Option.some.injEq, Prod.mk.injEq] at h
        obtain ⟨rfl, rfl⟩ := h
        exact .leaf (by omega)
    · rw [if_neg hd] at h
      cases h
theorem pl_text {s : ByteArray} {g : Nat → Option (Tr × Nat)} (hend : ∀ i t e, g i = some (t, e) → i < e ∧ e ≤ s.size) (hg : ∀ i t e, g i = some (t, e) → (textT (dualT t)).length ≤ e - i) : ∀ f i ts e, pl s g f i = some (ts, e) → (Lib.join (textL (dualL ts)) [44]).length + 1 ≤ e - i
  | 0, i, ts, e, h => by simp [pl] at h
  | f + 1, i, ts, e, h => by
    unfold pl at h
    cases hgi : g i with
    | none => simp [hgi] at h
    | some x =>
      obtain ⟨t, j⟩ := x
      have h1 := hg i t j hgi
      have h2 := hend i t j hgi
      simp only [hgi] at h
      by_cases h41 : bt s j = 41
      · rw [if_pos h41] at h
        simp only [Option.some.injEq, Prod.mk.injEq] at h
        obtain ⟨rfl, rfl⟩ := h
        simp [dualL, textL, Lib.join]
        omega
      · rw [if_neg h41] at h
        by_cases h44 : bt s j = 44
        · rw [if_pos h44] at h
          cases hp : pl s g f (j + 1) with
          | none => simp [hp] at h
          | some y =>
            obtain ⟨ts', e'⟩ := y
            simp only [hp, Option.some.injEq, Prod.mk.injEq] at h
            obtain ⟨rfl, rfl⟩ := h
            have h3 := pl_text hend hg f (j + 1) ts' e' hp
            have h4 := pl_end hend f (j + 1) ts' e' hp
            show (Lib.join (textT (dualT t) :: textL (dualL ts')) [44]).length + 1 ≤ _
            rw [join_cons [44] _ (by intro e; have := congrArg List.length e; rw [textL_len, dualL_len] at this; simp at this; subst this; simp at h4)]
            simp
            omega
        · rw [if_neg h44] at h
          cases h
theorem pe_text {s : ByteArray} : ∀ f i t e, pe s f i = some (t, e) → (textT (dualT t)).length ≤ e - i
  | 0, i, t, e, h => by simp [pe] at h
  | f + 1, i, t, e, h => by
    unfold pe at h
    by_cases hd : isD (bt s i) = true
    · rw [if_pos hd] at h
      obtain ⟨d1, d2⟩ := isD_iff.1 hd
      by_cases h40 : bt s (i + 1) = 40
      · rw [if_pos h40] at h
        cases hp : pl s (pe s f) f (i + 2) with
        | none => simp [hp] at h
        | some y =>
          obtain ⟨ts', e'⟩ := y
          simp only [hp] at h
          have h3 := pl_text (pe_end f) (pe_text f) f (i + 2) ts' e' hp
          have h4 := pl_end (pe_end f) f (i + 2) ts' e' hp
          split at h
          case isTrue hc =>
            simp only [Option.some.injEq, Prod.mk.injEq] at h
            obtain ⟨rfl, rfl⟩ := h
            show (Lib.decDigits (ts'.length - (bt s i - 48) + 1) ++ (40 :: (Lib.join (textL (dualL ts')) [44] ++ [41]))).length ≤ _
            have := dig_len (n := ts'.length - (bt s i - 48) + 1) (by omega)
            simp
            omega
          case isFalse => cases h
      · rw [if_neg h40] at h
        simp only [Option.some.injEq, Prod.mk.injEq] at h
        obtain ⟨rfl, rfl⟩ := h
        show (Lib.decDigits (bt s i - 48)).length ≤ _
        rw [dig_len (by omega)]
        omega
    · rw [if_neg hd] at h
      cases h
theorem whole_text {u : ByteArray} {t : Tr} (h : Whole u t) : WfD t ∧ (textT (dualT t)).length ≤ u.size := by
  obtain ⟨f, hf⟩ := h
  have := pe_text f 0 t _ hf
  exact ⟨pe_wf f 0 t _ hf, by omega⟩
theorem leaf_text {u : ByteArray} {n : Nat} (h : Whole u (.leaf n)) : u = ⟨(Lib.decDigits n).toArray⟩ := by
  have hs := leaf_size h
  obtain ⟨f, hf⟩ := h
  cases f with
  | zero => simp [pe] at hf
  | succ f =>
    unfold pe at hf
    by_cases hd : isD (bt u 0) = true
    · rw [if_pos hd] at hf
      obtain ⟨d1, d2⟩ := isD_iff.1 hd
      by_cases h40 : bt u (0 + 1) = 40
      · have := bt_lt (s := u) (i := 0 + 1) (by omega)
        omega
      · rw [if_neg h40] at hf
        simp only [Option.some.injEq, Prod.mk.injEq, Tr.leaf.injEq] at hf
        have h0 : 0 < u.size := by omega
        have hb := bt_at h0
        rw [dig_of (x := u[0]) (by omega) (by omega)]
        apply ByteArray.ext
        apply Array.ext
        · simpa using hs
        · intro i h1 h2
          have hi0 : i = 0 := by
            have : i < u.size := h1
            omega
          subst hi0
          rfl
    · rw [if_neg hd] at hf
      cases hf
theorem gate_need {u : ByteArray} {n : Nat} {ts : List Tr} (h : Whole u (.gate n ts)) : bt u 0 = n + 48 := by
  obtain ⟨f, hf⟩ := h
  cases f with
  | zero => simp [pe] at hf
  | succ f =>
    unfold pe at hf
    by_cases hd : isD (bt u 0) = true
    · rw [if_pos hd] at hf
      obtain ⟨d1, d2⟩ := isD_iff.1 hd
      by_cases h40 : bt u (0 + 1) = 40
      · rw [if_pos h40] at hf
        cases hp : pl u (pe u f) f (0 + 2) with
        | none => simp [hp] at hf
        | some z =>
          rw [hp] at hf
          simp only at hf
          split at hf
          · simp only [Option.some.injEq, Prod.mk.injEq, Tr.gate.injEq] at hf
            omega
          · cases hf
      · rw [if_neg h40] at hf
        simp at hf
    · rw [if_neg hd] at hf
      cases hf

end Go.Proofs.YtbokieephhffnaaDoor
