/- ExprDual: the reference's, the program's, the law FnExactExprDual. -/
import Derived.Test.YtbokieephhffnaaExU
namespace Go.Proofs.Ytbokieephhffnaa
open Go.RowKit
set_option maxHeartbeats 8000000
set_option linter.unusedVariables false

theorem dig_one : ∀ n : Nat, n < 10 → Lib.decDigits n = [UInt8.ofNat (48 + n)] := by decide +kernel
theorem dig_of {n : Nat} {x : UInt8} (hn : n < 10) (hx : x.toNat = 48 + n) : Lib.decDigits n = [x] := by
  rw [dig_one n hn, ← hx]
  simp
theorem join_cons (sep x : List UInt8) {l : List (List UInt8)} (h : l ≠ []) : Lib.join (x :: l) sep = x ++ sep ++ Lib.join l sep := by
  cases l with
  | nil => exact absurd rfl h
  | cons b l => simp [Lib.join]
theorem join_snoc (sep x : List UInt8) : ∀ l : List (List UInt8), l ≠ [] → Lib.join (l ++ [x]) sep = Lib.join l sep ++ sep ++ x
  | [], h => absurd rfl h
  | [a], _ => by simp [Lib.join]
  | a :: b :: l, _ => by
    have := join_snoc sep x (b :: l) (by simp)
    rw [join_cons sep a (l := b :: l) (by simp), List.cons_append, join_cons sep a (l := (b :: l) ++ [x]) (by simp), this]
    simp
theorem join_take (sep : List UInt8) (l : List (List UInt8)) : ∀ k, (Lib.join (l.take k) sep).length ≤ (Lib.join l sep).length := by
  induction l with
  | nil => intro k; simp
  | cons a l ih =>
    intro k
    cases k with
    | zero => simp [Lib.join]
    | succ k =>
      rw [List.take_succ_cons]
      by_cases hl : l = []
      · subst hl; simp
      · rw [join_cons sep a hl]
        by_cases ht : l.take k = []
        · rw [ht]; simp [Lib.join]
        · rw [join_cons sep a ht]
          have := ih k
          simp
          omega

theorem pl_wf {s : ByteArray} {g : Nat → Option (Tr × Nat)} (hg : ∀ i t e, g i = some (t, e) → WfD t) : ∀ f i ts e, pl s g f i = some (ts, e) → ∀ (k : Nat) t, ts[k]? = some t → WfD t
  | 0, i, ts, e, h => by simp [pl] at h
  | f + 1, i, ts, e, h => by
    unfold pl at h
    cases hgi : g i with
    | none => simp [hgi] at h
    | some x =>
      obtain ⟨t, j⟩ := x
      have h1 := hg i t j hgi
      simp only [hgi] at h
      by_cases h41 : bt s j = 41
      · rw [if_pos h41] at h
        simp only [Option.some.injEq, Prod.mk.injEq] at h
        obtain ⟨rfl, rfl⟩ := h
        intro k u hk
        cases k with
        | zero => simp at hk; subst hk; exact h1
        | succ k => simp at hk
      · rw [if_neg h41] at h
        by_cases h44 : bt s j = 44
        · rw [if_pos h44] at h
          cases hp : pl s g f (j + 1) with
          | none => simp [hp] at h
          | some y =>
            obtain ⟨ts', e'⟩ := y
            simp only [hp, Option.some.injEq, Prod.mk.injEq] at h
            obtain ⟨rfl, rfl⟩ := h
            have ih := pl_wf hg f (j + 1) ts' e' hp
            intro k u hk
            cases k with
            | zero => simp at hk; subst hk; exact h1
            | succ k => exact ih k u (by simpa using hk)
        · rw [if_neg h44] at h
          cases h
theorem pe_wf {s : ByteArray} : ∀ f i t e, pe s f i = some (t, e) → WfD t
  | 0, i, t, e, h => by simp [pe] at h
  | f + 1, i, t, e, h => by
    unfold pe at h
    by_cases hd : isD (bt s i) = true
    · rw [if_pos hd] at h
      obtain ⟨d1, d2⟩ := isD_iff.1 hd
      by_cases h40 : bt s (i + 1) = 40
      · rw [if_pos h40] at h
        cases hp : pl s (pe s f) f (i + 2) with
        | none => simp [hp] at h
        | some y =>
          obtain ⟨ts', e'⟩ := y
          simp only [hp] at h
          have h3 := pl_wf (pe_wf f) f (i + 2) ts' e' hp
          split at h
          case isTrue hc =>
            simp only [Option.some.injEq, Prod.mk.injEq] at h
            obtain ⟨rfl, rfl⟩ := h
            exact .gate (by omega) hc.2 hc.1 h3
          case isFalse => cases h
      · rw [if_neg h40] at h
        simp only [Option.some.injEq, Prod.mk.injEq] at h
        obtain ⟨rfl, rfl⟩ := h
        exact .leaf (by omega)
    · rw [if_neg hd] at h
      cases h
theorem dig_len {n : Nat} (h : n < 10) : (Lib.decDigits n).length = 1 := by rw [dig_one n h]; rfl
theorem pl_text {s : ByteArray} {g : Nat → Option (Tr × Nat)} (hend : ∀ i t e, g i = some (t, e) → i < e ∧ e ≤ s.size) (hg : ∀ i t e, g i = some (t, e) → (textT (dualT t)).length ≤ e - i) : ∀ f i ts e, pl s g f i = some (ts, e) → (Lib.join (textL (dualL ts)) [44]).length + 1 ≤ e - i
  | 0, i, ts, e, h => by simp [pl] at h
  | f + 1, i, ts, e, h => by
    unfold pl at h
    cases hgi : g i with
    | none => simp [hgi] at h
    | some x =>
      obtain ⟨t, j⟩ := x
      have h1 := hg i t j hgi
      have h2 := hend i t j hgi
      simp only [hgi] at h
      by_cases h41 : bt s j = 41
      · rw [if_pos h41] at h
        simp only [Option.some.injEq, Prod.mk.injEq] at h
        obtain ⟨rfl, rfl⟩ := h
        simp [dualL, textL, Lib.join]
        omega
      · rw [if_neg h41] at h
        by_cases h44 : bt s j = 44
        · rw [if_pos h44] at h
          cases hp : pl s g f (j + 1) with
          | none => simp [hp] at h
          | some y =>
            obtain ⟨ts', e'⟩ := y
            simp only [hp, Option.some.injEq, Prod.mk.injEq] at h
            obtain ⟨rfl, rfl⟩ := h
            have h3 := pl_text hend hg f (j + 1) ts' e' hp
            have h4 := pl_end hend f (j + 1) ts' e' hp
            show (Lib.join (textT (dualT t) :: textL (dualL ts')) [44]).length + 1 ≤ _
            rw [join_cons [44] _ (by intro e; have := congrArg List.length e; rw [textL_len, dualL_len] at this; simp at this; subst this; simp at h4)]
            simp
            omega
        · rw [if_neg h44] at h
          cases h
theorem pe_text {s : ByteArray} : ∀ f i t e, pe s f i = some (t, e) → (textT (dualT t)).length ≤ e - i
  | 0, i, t, e, h => by simp [pe] at h
  | f + 1, i, t, e, h => by
    unfold pe at h
    by_cases hd : isD (bt s i) = true
    · rw [if_pos hd] at h
      obtain ⟨d1, d2⟩ := isD_iff.1 hd
      by_cases h40 : bt s (i + 1) = 40
      · rw [if_pos h40] at h
        cases hp : pl s (pe s f) f (i + 2) with
        | none => simp [hp] at h
        | some y =>
          obtain ⟨ts', e'⟩ := y
          simp only [hp] at h
          have h3 := pl_text (pe_end f) (pe_text f) f (i + 2) ts' e' hp
          have h4 := pl_end (pe_end f) f (i + 2) ts' e' hp
          split at h
          case isTrue hc =>
            simp only [Option.some.injEq, Prod.mk.injEq] at h
            obtain ⟨rfl, rfl⟩ := h
            show (Lib.decDigits (ts'.length - (bt s i - 48) + 1) ++ (40 :: (Lib.join (textL (dualL ts')) [44] ++ [41]))).length ≤ _
            have := dig_len (n := ts'.length - (bt s i - 48) + 1) (by omega)
            simp
            omega
          case isFalse => cases h
      · rw [if_neg h40] at h
        simp only [Option.some.injEq, Prod.mk.injEq] at h
        obtain ⟨rfl, rfl⟩ := h
        show (Lib.decDigits (bt s i - 48)).length ≤ _
        rw [dig_len (by omega)]
        omega
    · rw [if_neg hd] at h
      cases h
theorem whole_text {u : ByteArray} {t : Tr} (h : Whole u t) : WfD t ∧ (textT (dualT t)).length ≤ u.size := by
  obtain ⟨f, hf⟩ := h
  have := pe_text f 0 t _ hf
  exact ⟨pe_wf f 0 t _ hf, by omega⟩
theorem leaf_text {u : ByteArray} {n : Nat} (h : Whole u (.leaf n)) : u = ⟨(Lib.decDigits n).toArray⟩ := by
  have hs := leaf_size h
  obtain ⟨f, hf⟩ := h
  cases f with
  | zero => simp [pe] at hf
  | succ f =>
    unfold pe at hf
    by_cases hd : isD (bt u 0) = true
    · rw [if_pos hd] at hf
      obtain ⟨d1, d2⟩ := isD_iff.1 hd
      by_cases h40 : bt u (0 + 1) = 40
      · have := bt_lt (s := u) (i := 0 + 1) (by omega)
        omega
      · rw [if_neg h40] at hf
        simp only [Option.some.injEq, Prod.mk.injEq, Tr.leaf.injEq] at hf
        have h0 : 0 < u.size := by omega
        have hb := bt_at h0
        rw [dig_of (x := u[0]) (by omega) (by omega)]
        apply ByteArray.ext
        apply Array.ext
        · simpa using hs
        · intro i h1 h2
          have hi0 : i = 0 := by
            have : i < u.size := h1
            omega
          subst hi0
          rfl
    · rw [if_neg hd] at hf
      cases hf
theorem gate_need {u : ByteArray} {n : Nat} {ts : List Tr} (h : Whole u (.gate n ts)) : bt u 0 = n + 48 := by
  obtain ⟨f, hf⟩ := h
  cases f with
  | zero => simp [pe] at hf
  | succ f =>
    unfold pe at hf
    by_cases hd : isD (bt u 0) = true
    · rw [if_pos hd] at hf
      obtain ⟨d1, d2⟩ := isD_iff.1 hd
      by_cases h40 : bt u (0 + 1) = 40
      · rw [if_pos h40] at hf
        cases hp : pl u (pe u f) f (0 + 2) with
        | none => simp [hp] at hf
        | some z =>
          rw [hp] at hf
          simp only at hf
          split at hf
          · simp only [Option.some.injEq, Prod.mk.injEq, Tr.gate.injEq] at hf
            omega
          · cases hf
      · rw [if_neg h40] at hf
        simp at hf
    · rw [if_neg hd] at hf
      cases hf

theorem l6Dec_is (n : Nat) (h10 : n < 10) (w : World) : Calls Try.prog 32 #[.int .i64 (n : Int)] w fun e w' => e = .returned (.string ⟨(Lib.decDigits n).toArray⟩) ∧ Below w.heap.size w w' := by
  have m1 : ¬ (n : Int) < -9223372036854775807 := by omega
  have m2 : ¬ (n : Int) < 0 := by omega
  have m3 : IntKind.u8.wrap (48 + (n : Int)) = 48 + (n : Int) := by
    have : IntKind.u8.wrap (48 + (n : Int)) = (48 + (n : Int)) % 256 := by first | rfl | simp [IntKind.wrap]
    omega
  have m4 : (n : Int) < 10 := by omega
  obtain ⟨x, hx⟩ : ∃ x : UInt8, ((x.toNat : Nat) : Int) = 48 + (n : Int) := ⟨UInt8.ofNat (48 + n), by simp; omega⟩
  rw [dig_of (x := x) h10 (by omega)]
  have hconv : ∀ W : World, (convert 24 9 (.slice (some ⟨W.heap.size, 0, none⟩) 1 1)).run Try.prog (W.alloc (.cells #[.int .u8 (48 + (n : Int))] 5)) = .ok (.string ⟨#[x]⟩) (W.alloc (.cells #[.int .u8 (48 + (n : Int))] 5)) := fun W => by
    have := run_convert_bytes_back (P := Try.prog) (W.alloc (.cells #[.int .u8 (48 + (n : Int))] 5)) 24 9 5 ⟨W.heap.size, 0, none⟩ 1 [x] Try.underlying24 Try.underlying5 Try.underlying9 (fun j hj => by
      have hj0 : j = 0 := by simpa using hj
      subst hj0
      have := cell_of_row (W.alloc (.cells #[.int .u8 (48 + (n : Int))] 5)) W.heap.size 0 #[.int .u8 (48 + (n : Int))] 5 (0, 0) (heap_alloc_new W _)
      simp [Addr.add, this, hx])
    exact this
  go_enter Try.func32, Try.ntmps32
  go_wp2
  go_ret
  exact ⟨rfl, (Below.refl _ _).alloc (Nat.le_refl _) _⟩
end Go.Proofs.Ytbokieephhffnaa
