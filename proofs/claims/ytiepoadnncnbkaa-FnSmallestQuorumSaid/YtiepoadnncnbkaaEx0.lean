/- Expressions: the plain parser over a text's bytes. -/
import Derived.Test.YtiepoadnncnbkaaOpen
import Derived.Lib.Strings
import Derived.Lib.Explode
import Derived.Lib.IndexBytes
namespace Go.Proofs.Ytiepoadnncnbkaa
open Go.RowKit

/-- A syntax tree: a member, or a threshold over operands. -/
inductive Tr where
  | leaf (n : Nat) : Tr
  | gate (n : Nat) (ts : List Tr) : Tr
/-- Byte i of a text; 0 behind its end. -/
def bt (s : ByteArray) (i : Nat) : Nat := if h : i < s.size then s[i].toNat else 0
/-- A digit that names a member. -/
def isD (b : Nat) : Bool := decide (49 ≤ b ∧ b ≤ 54)
/-- Operands from place i on, up to the closing bracket; g reads one. -/
def pl (s : ByteArray) (g : Nat → Option (Tr × Nat)) : Nat → Nat → Option (List Tr × Nat)
  | 0, _ => none
  | f + 1, i => match g i with
    | none => none
    | some (t, j) => if bt s j = 41 then some ([t], j + 1) else if bt s j = 44 then (match pl s g f (j + 1) with | none => none | some (ts, e) => some (t :: ts, e)) else none
/-- An expression from place i on. -/
def pe (s : ByteArray) : Nat → Nat → Option (Tr × Nat)
  | 0, _ => none
  | f + 1, i => if isD (bt s i) = true then
      (if bt s (i + 1) = 40 then (match pl s (pe s f) f (i + 2) with | none => none | some (ts, e) => if ts.length ≤ 6 ∧ bt s i - 48 ≤ ts.length then some (.gate (bt s i - 48) ts, e) else none)
       else some (.leaf (bt s i - 48), i + 1))
    else none

theorem bt_lt {s : ByteArray} {i : Nat} (h : bt s i ≠ 0) : i < s.size := by
  unfold bt at h
  split at h
  · assumption
  · exact absurd rfl h
theorem bt_at {s : ByteArray} {i : Nat} (h : i < s.size) : bt s i = s[i].toNat := by simp [bt, h]
theorem bt_off {s : ByteArray} {i : Nat} (h : s.size ≤ i) : bt s i = 0 := by simp [bt, Nat.not_lt.2 h]
theorem isD_iff {b : Nat} : isD b = true ↔ 49 ≤ b ∧ b ≤ 54 := by simp [isD]
theorem isD_no {b : Nat} (h : b < 49 ∨ 54 < b) : isD b = false := by simp [isD]; omega

theorem pl_end {s : ByteArray} {g : Nat → Option (Tr × Nat)} (hg : ∀ i t e, g i = some (t, e) → i < e ∧ e ≤ s.size) : ∀ f i ts e, pl s g f i = some (ts, e) → i < e ∧ e ≤ s.size ∧ 0 < ts.length
  | 0, i, ts, e, h => by simp [pl] at h
  | f + 1, i, ts, e, h => by
    unfold pl at h
    cases hgi : g i with
    | none => simp [hgi] at h
    | some x =>
      obtain ⟨t, j⟩ := x
      obtain ⟨h1, h2⟩ := hg i t j hgi
      simp only [hgi] at h
      by_cases h41 : bt s j = 41
      · rw [if_pos h41] at h
        simp only [Option.some.injEq, Prod.mk.injEq] at h
        obtain ⟨rfl, rfl⟩ := h
        have := bt_lt (s := s) (i := j) (by omega)
        exact ⟨by omega, by omega, by simp⟩
      · rw [if_neg h41] at h
        by_cases h44 : bt s j = 44
        · rw [if_pos h44] at h
          cases hp : pl s g f (j + 1) with
          | none => simp [hp] at h
          | some y =>
            obtain ⟨ts', e'⟩ := y
            simp only [hp, Option.some.injEq, Prod.mk.injEq] at h
            obtain ⟨rfl, rfl⟩ := h
            have := pl_end hg f (j + 1) ts' e' hp
            exact ⟨by omega, by omega, by simp⟩
        · rw [if_neg h44] at h
          cases h
theorem pe_end {s : ByteArray} : ∀ f i t e, pe s f i = some (t, e) → i < e ∧ e ≤ s.size
  | 0, i, t, e, h => by simp [pe] at h
  | f + 1, i, t, e, h => by
    unfold pe at h
    by_cases hd : isD (bt s i) = true
    · rw [if_pos hd] at h
      have hi := bt_lt (s := s) (i := i) (by have := isD_iff.1 hd; omega)
      by_cases h40 : bt s (i + 1) = 40
      · rw [if_pos h40] at h
        cases hp : pl s (pe s f) f (i + 2) with
        | none => simp [hp] at h
        | some y =>
          obtain ⟨ts', e'⟩ := y
          simp only [hp] at h
          have := pl_end (pe_end f) f (i + 2) ts' e' hp
          split at h
          · simp only [Option.some.injEq, Prod.mk.injEq] at h
            obtain ⟨rfl, rfl⟩ := h
            exact ⟨by omega, by omega⟩
          · cases h
      · rw [if_neg h40] at h
        simp only [Option.some.injEq, Prod.mk.injEq] at h
        obtain ⟨rfl, rfl⟩ := h
        exact ⟨by omega, by omega⟩
    · rw [if_neg hd] at h
      cases h

/-- Where an expression ends, or -1. -/
def endI : Option (Tr × Nat) → Int
  | none => -1
  | some (_, e) => (e : Int)
/-- .. of a threshold n behind k operands that have been read. -/
def finI (n k : Nat) : Option (List Tr × Nat) → Int
  | none => -1
  | some (ts, e) => if k + ts.length ≤ 6 ∧ n ≤ k + ts.length then (e : Int) else -1
def hdI (s : ByteArray) (g : Nat → Option (Tr × Nat)) (n k j f : Nat) : Int :=
  if bt s j = 41 then (if k ≤ 6 ∧ n ≤ k then ((j + 1 : Nat) : Int) else -1) else if bt s j = 44 then finI n k (pl s g f (j + 1)) else -1
theorem finI_step (s : ByteArray) (g : Nat → Option (Tr × Nat)) (n k f i : Nat) : finI n k (pl s g (f + 1) i) = match g i with | none => -1 | some (_, j) => hdI s g n (k + 1) j f := by
  unfold pl
  cases hgi : g i with
  | none => rfl
  | some x =>
    obtain ⟨t, j⟩ := x
    unfold hdI
    by_cases h41 : bt s j = 41
    · simp [h41, finI]
    · by_cases h44 : bt s j = 44
      · simp only [h44]
        cases hp : pl s g f (j + 1) with
        | none => simp [finI]
        | some y =>
          obtain ⟨ts, e⟩ := y
          simp only [finI]
          have e1 : k + (ts.length + 1) = k + 1 + ts.length := by omega
          simp [e1]
      · simp [h41, h44, finI]
theorem finI_many {s : ByteArray} {g : Nat → Option (Tr × Nat)} (hg : ∀ i t e, g i = some (t, e) → i < e ∧ e ≤ s.size) (n f i : Nat) : finI n 6 (pl s g f i) = -1 := by
  cases hp : pl s g f i with
  | none => rfl
  | some y =>
    obtain ⟨ts, e⟩ := y
    have := pl_end hg f i ts e hp
    simp only [finI]
    rw [if_neg (by omega)]
theorem endI_gate {s : ByteArray} {f i : Nat} (hd : isD (bt s i) = true) (h : bt s (i + 1) = 40) : endI (pe s (f + 1) i) = finI (bt s i - 48) 0 (pl s (pe s f) f (i + 2)) := by
  unfold pe
  rw [if_pos hd, if_pos h]
  cases hp : pl s (pe s f) f (i + 2) with
  | none => rfl
  | some y =>
    obtain ⟨ts, e⟩ := y
    simp only [finI, Nat.zero_add]
    split <;> rfl
theorem endI_leaf {s : ByteArray} {f i : Nat} (hd : isD (bt s i) = true) (h : ¬ bt s (i + 1) = 40) : endI (pe s (f + 1) i) = ((i + 1 : Nat) : Int) := by
  unfold pe
  rw [if_pos hd, if_neg h]
  rfl
theorem endI_no {s : ByteArray} {f i : Nat} (hd : isD (bt s i) = false) : endI (pe s (f + 1) i) = -1 := by
  unfold pe
  rw [if_neg (by rw [hd]; simp)]
  rfl
theorem endI_ge (o : Option (Tr × Nat)) : -1 ≤ endI o := by
  cases o with
  | none => exact Int.le_refl _
  | some x => show (-1 : Int) ≤ (x.2 : Int); omega

/-- The first byte of what is left. -/
def fst (r : ByteArray) : Nat := bt r 0
theorem rest_fst (s : ByteArray) (i : Nat) : fst (s.extract i s.size) = bt s i := by
  unfold fst bt
  by_cases h : i < s.size
  · have h0 : 0 < (s.extract i s.size).size := by simp [ByteArray.size_extract]; omega
    rw [dif_pos h0, dif_pos h]
    simp [ByteArray.getElem_extract]
  · have h0 : ¬ 0 < (s.extract i s.size).size := by simp [ByteArray.size_extract]; omega
    rw [dif_neg h0, dif_neg h]
theorem rest_next (s : ByteArray) (i : Nat) (h : i < s.size) : (s.extract i s.size).extract 1 (s.extract i s.size).size = s.extract (i + 1) s.size := Lib.tail_piece s i h
end Go.Proofs.Ytiepoadnncnbkaa
