/- ExprDepth: the reference's, the program's, the law FnExactExprDepth. -/
import Derived.Test.YtbokieephhffnaaDoorEx8
namespace Go.Proofs.YtbokieephhffnaaDoor
open Go.RowKit
set_option maxHeartbeats 4000000

theorem pl_depth2 {s : ByteArray} {g : Nat → Option (Tr × Nat)} (hend : ∀ i t e, g i = some (t, e) → i < e ∧ e ≤ s.size) (hg : ∀ i t e, g i = some (t, e) → depthT t ≤ e - i) : ∀ f i ts e, pl s g f i = some (ts, e) → depthL ts ≤ e - i
  | 0, i, ts, e, h => by simp [pl] at h
  | f + 1, i, ts, e, h => by
    unfold pl at h
    cases hgi : g i with
    | none => simp [hgi] at h
    | some x =>
      obtain ⟨t, j⟩ := x
      have h1 := hg i t j hgi
      have h2 := hend i t j hgi
      simp only [hgi] at h
      by_cases h41 : bt s j = 41
      · rw [if_pos h41] at h
        simp only [Option.some.injEq, Prod.mk.injEq] at h
        obtain ⟨rfl, rfl⟩ := h
        simp [depthL]
        omega
      · rw [if_neg h41] at h
        by_cases h44 : bt s j = 44
        · rw [if_pos h44] at h
          cases hp : pl s g f (j + 1) with
          | none => simp [hp] at h
          | some y =>
            obtain ⟨ts', e'⟩ := y
            simp only [hp, Option.some.injEq, Prod.mk.injEq] at h
            obtain ⟨rfl, rfl⟩ := h
            have h3 := pl_depth2 hend hg f (j + 1) ts' e' hp
            have h4 := pl_end hend f (j + 1) ts' e' hp
            show max _ _ ≤ _
            omega
        · rw [if_neg h44] at h
          cases h
theorem pe_depth2 {s : ByteArray} : ∀ f i t e, pe s f i = some (t, e) → depthT t ≤ e - i
  | 0, i, t, e, h => by simp [pe] at h
  | f + 1, i, t, e, h => by
    unfold pe at h
    by_cases hd : isD (bt s i) = true
    · rw [if_pos hd] at h
      by_cases h40 : bt s (i + 1) = 40
      · rw [if_pos h40] at h
        cases hp : pl s (pe s f) f (i + 2) with
        | none => simp [hp] at h
        | some y =>
          obtain ⟨ts', e'⟩ := y
          simp only [hp] at h
          have h3 := pl_depth2 (pe_end f) (pe_depth2 f) f (i + 2) ts' e' hp
          have h4 := pl_end (pe_end f) f (i + 2) ts' e' hp
          split at h
          · simp only [Option.some.injEq, Prod.mk.injEq] at h
            obtain ⟨rfl, rfl⟩ := h
            show depthL ts' + 1 ≤ _
            omega
          · cases h
      · rw [if_neg h40] at h
        simp only [Option.some.injEq, Prod.mk.injEq] at h
        obtain ⟨rfl, rfl⟩ := h
        exact Nat.zero_le _
    · rw [if_neg hd] at h
      cases h
theorem whole_depth {u : ByteArray} {t : Tr} (h : Whole u t) : depthT t ≤ u.size := by
  obtain ⟨f, hf⟩ := h
  have := pe_depth2 f 0 t _ hf
  omega
/-- The depth that the first k operands give. -/
def dK (ts : List Tr) (k : Nat) : Nat := if k = 0 then 0 else depthL (ts.take k) + 1
theorem dK_next {ts : List Tr} {k : Nat} {t : Tr} (h : ts[k]? = some t) : dK ts (k + 1) = max (dK ts k) (depthT t + 1) := by
  unfold dK
  rw [if_neg (by omega), take_snoc h, depthL_snoc]
  by_cases hk : k = 0
  · subst hk
    simp [depthL]
  · rw [if_neg hk]
    omega
theorem dK_all {n : Nat} {ts : List Tr} (h : 0 < ts.length) : dK ts ts.length = depthT (.gate n ts) := by
  unfold dK
  rw [if_neg (by omega), List.take_length]
  rfl

end Go.Proofs.YtbokieephhffnaaDoor
