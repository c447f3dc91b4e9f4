/- What is read in a text is read in a longer one; the laws of valid expressions. -/
import Derived.Test.YtbokieephhffnaaDoorExE
namespace Go.Proofs.YtbokieephhffnaaDoor
open Go.RowKit
set_option maxHeartbeats 4000000
set_option linter.unusedVariables false

theorem pl_up {a b : ByteArray} {k E : Nat} {g g' : Nat → Option (Tr × Nat)} (hC1 : ∀ j, j < E → bt b (j + k) = bt a j) (hend : ∀ i t e, g i = some (t, e) → i < e ∧ e ≤ a.size)
    (hg : ∀ i t e, g i = some (t, e) → e ≤ E → g' (i + k) = some (t, e + k)) : ∀ f i ts e, pl a g f i = some (ts, e) → e ≤ E → pl b g' f (i + k) = some (ts, e + k)
  | 0, i, ts, e, h, _ => by simp [pl] at h
  | f + 1, i, ts, e, h, he => by
    unfold pl at h ⊢
    cases hgi : g i with
    | none => simp [hgi] at h
    | some x =>
      obtain ⟨t, j⟩ := x
      have hj := hend i t j hgi
      simp only [hgi] at h
      by_cases h41 : bt a j = 41
      · rw [if_pos h41] at h
        simp only [Option.some.injEq, Prod.mk.injEq] at h
        obtain ⟨rfl, rfl⟩ := h
        simp only [hg i t j hgi (by omega)]
        rw [hC1 j (by omega), if_pos h41, show j + 1 + k = j + k + 1 by omega]
      · rw [if_neg h41] at h
        by_cases h44 : bt a j = 44
        · rw [if_pos h44] at h
          cases hp : pl a g f (j + 1) with
          | none => simp [hp] at h
          | some z =>
            obtain ⟨ts', e'⟩ := z
            simp only [hp, Option.some.injEq, Prod.mk.injEq] at h
            obtain ⟨rfl, rfl⟩ := h
            have hz := pl_end hend f (j + 1) ts' e' hp
            have ih := pl_up hC1 hend hg f (j + 1) ts' e' hp he
            rw [show j + 1 + k = j + k + 1 by omega] at ih
            simp only [hg i t j hgi (by omega)]
            rw [hC1 j (by omega), if_neg h41, if_pos h44, ih]
        · rw [if_neg h44] at h
          cases h
theorem pe_up {a b : ByteArray} {k E : Nat} (hC1 : ∀ j, j < E → bt b (j + k) = bt a j) (hC2 : bt b (E + k) ≠ 40) : ∀ f i t e, pe a f i = some (t, e) → e ≤ E → pe b f (i + k) = some (t, e + k)
  | 0, i, t, e, h, _ => by simp [pe] at h
  | f + 1, i, t, e, h, he => by
    have hie := pe_end _ _ _ _ h
    unfold pe at h ⊢
    rw [hC1 i (by omega)]
    by_cases hd : isD (bt a i) = true
    · rw [if_pos hd] at h ⊢
      by_cases h40 : bt a (i + 1) = 40
      · rw [if_pos h40] at h
        cases hp : pl a (pe a f) f (i + 2) with
        | none => simp [hp] at h
        | some z =>
          obtain ⟨ts', e'⟩ := z
          have hz := pl_end (pe_end f) f (i + 2) ts' e' hp
          rw [hp] at h
          simp only at h
          split at h
          case isTrue hc =>
            simp only [Option.some.injEq, Prod.mk.injEq] at h
            obtain ⟨rfl, rfl⟩ := h
            have ih := pl_up hC1 (pe_end f) (fun i t e h1 h2 => pe_up hC1 hC2 f i t e h1 h2) f (i + 2) ts' e' hp he
            have hn : bt b (i + k + 1) = 40 := by rw [show i + k + 1 = i + 1 + k by omega, hC1 (i + 1) (by omega)]; exact h40
            rw [if_pos hn, show i + k + 2 = i + 2 + k by omega, ih]
            simp only
            rw [if_pos hc]
          case isFalse => cases h
      · rw [if_neg h40] at h
        simp only [Option.some.injEq, Prod.mk.injEq] at h
        obtain ⟨rfl, rfl⟩ := h
        have hn : bt b (i + k + 1) ≠ 40 := by
          by_cases hE : i + 1 < E
          · rw [show i + k + 1 = i + 1 + k by omega, hC1 (i + 1) hE]; exact h40
          · rw [show i + k + 1 = E + k by omega]; exact hC2
        rw [if_neg hn, show i + 1 + k = i + k + 1 by omega]
    · rw [if_neg hd] at h
      cases h

theorem whole_inj {u : ByteArray} {f g e : Nat} {t t' : Tr} (h : pe u f 0 = some (t, u.size)) (h' : pe u g 0 = some (t', e)) : e = u.size := by
  have a := pe_mono f (max f g) 0 _ (by omega) h
  have b := pe_mono g (max f g) 0 _ (by omega) h'
  rw [a] at b
  simp at b
  exact b.2.symm
theorem bt_app_left (a b : ByteArray) (j : Nat) (h : j < a.size) : bt (a ++ b) j = bt a j := by
  rw [bt_at (by simp; omega), bt_at h]
  simp [ByteArray.getElem_append_left h]
theorem bt_app_right (a b : ByteArray) (j : Nat) : bt (a ++ b) (a.size + j) = bt b j := by
  by_cases h : j < b.size
  · rw [bt_at (by simp; omega), bt_at h]
    simp [ByteArray.getElem_append_right]
  · rw [bt_off (by simp; omega), bt_off (by omega)]
theorem ex_whole {s : ByteArray} (h : exOk s = true) : s.size ≤ 40 ∧ ∃ f t, pe s f 0 = some (t, s.size) := by
  obtain ⟨h1, t, ht⟩ := exOk_tree h
  exact ⟨h1, _, t, ht⟩
theorem no_more (s : ByteArray) (h : exOk s = true) : exOk (s ++ ⟨#[49]⟩) = false := by
  cases h2 : exOk (s ++ ⟨#[49]⟩)
  · rfl
  · obtain ⟨_, f, t, ht⟩ := ex_whole h
    obtain ⟨_, g, t', ht'⟩ := ex_whole h2
    have := pe_up (a := s) (b := s ++ ⟨#[49]⟩) (k := 0) (E := s.size) (fun j hj => bt_app_left s _ j hj) (by
      have := bt_app_right s ⟨#[49]⟩ 0
      rw [Nat.add_zero] at this ⊢
      rw [this]
      decide) f 0 t _ ht (Nat.le_refl _)
    rw [Nat.add_zero, Nat.add_zero] at this
    have := whole_inj ht' this
    simp [sz1] at this
theorem pl_last {s : ByteArray} {g : Nat → Option (Tr × Nat)} : ∀ f i ts e, pl s g f i = some (ts, e) → bt s (e - 1) = 41
  | 0, i, ts, e, h => by simp [pl] at h
  | f + 1, i, ts, e, h => by
    unfold pl at h
    cases hgi : g i with
    | none => simp [hgi] at h
    | some x =>
      obtain ⟨t, j⟩ := x
      simp only [hgi] at h
      by_cases h41 : bt s j = 41
      · rw [if_pos h41] at h
        simp only [Option.some.injEq, Prod.mk.injEq] at h
        obtain ⟨rfl, rfl⟩ := h
        simpa using h41
      · rw [if_neg h41] at h
        by_cases h44 : bt s j = 44
        · rw [if_pos h44] at h
          cases hp : pl s g f (j + 1) with
          | none => simp [hp] at h
          | some y =>
            obtain ⟨ts', e'⟩ := y
            simp only [hp, Option.some.injEq, Prod.mk.injEq] at h
            obtain ⟨rfl, rfl⟩ := h
            exact pl_last f (j + 1) ts' e' hp
        · rw [if_neg h44] at h
          cases h
theorem no_less (s : ByteArray) (h : exOk s = true) (h1 : s.size ≠ 1) : exOk (s.extract 0 (s.size - 1)) = false := by
  cases h2 : exOk (s.extract 0 (s.size - 1))
  · rfl
  · obtain ⟨_, f, t, ht⟩ := ex_whole h
    obtain ⟨_, g, t', ht'⟩ := ex_whole h2
    have hs0 := pe_end _ _ _ _ ht
    have hsz : (s.extract 0 (s.size - 1)).size = s.size - 1 := by simp [ByteArray.size_extract]
    have hlast : bt s (s.size - 1) = 41 := by
      cases t with
      | leaf n => exact absurd (leaf_size ⟨f, ht⟩) h1
      | gate n ts =>
        obtain ⟨f2, _, hpl, _⟩ := gate_parts ⟨f, ht⟩
        exact pl_last _ _ _ _ hpl
    have := pe_up (a := s.extract 0 (s.size - 1)) (b := s) (k := 0) (E := s.size - 1) (fun j hj => (bt_piece s 0 (s.size - 1) j (Nat.zero_le _) hj (by omega)).symm) (by
      rw [Nat.add_zero, hlast]
      omega) g 0 t' _ ht' (by omega)
    rw [Nat.add_zero, Nat.add_zero, hsz] at this
    have := whole_inj ht this
    omega
theorem no7 : exOk ⟨#[55]⟩ = false := by decide +kernel
theorem no0 : exOk ⟨#[48, 40, 49, 41]⟩ = false := by decide +kernel
theorem noE : exOk ⟨#[]⟩ = false := by decide +kernel
theorem no2 : exOk ⟨#[50, 40, 49, 41]⟩ = false := by decide +kernel
/-- A text wrapped. -/
def wrapS (s : ByteArray) : ByteArray := ⟨#[49, 40]⟩ ++ s ++ ⟨#[41]⟩
theorem wrap_size (s : ByteArray) : (wrapS s).size = s.size + 3 := by
  have e1 : (⟨#[49, 40]⟩ : ByteArray).size = 2 := rfl
  simp [wrapS, e1, sz1]
  omega
theorem wrap_tree {s : ByteArray} {t : Tr} (h40 : s.size + 3 ≤ 40) (ht : tree s = some (t, s.size)) : exOk (wrapS s) = true ∧ ∃ t', tree (wrapS s) = some (t', (wrapS s).size) ∧ depthT t' = depthT t + 1 := by
  have hw := wrap_size s
  have e1 : (⟨#[49, 40]⟩ : ByteArray).size = 2 := rfl
  have hb : ∀ j, j < s.size → bt (wrapS s) (j + 2) = bt s j := fun j hj => by
    unfold wrapS
    rw [bt_app_left _ _ _ (by simp [e1]; omega)]
    have := bt_app_right ⟨#[49, 40]⟩ s j
    rw [e1, Nat.add_comm] at this
    exact this
  have hl : bt (wrapS s) (s.size + 2) = 41 := by
    have := bt_app_right (⟨#[49, 40]⟩ ++ s) ⟨#[41]⟩ 0
    rw [show (⟨#[49, 40]⟩ ++ s : ByteArray).size + 0 = s.size + 2 by simp [e1]; omega] at this
    exact this
  have h0 : bt (wrapS s) 0 = 49 := by
    unfold wrapS
    rw [bt_app_left _ _ _ (by simp [e1]; omega), bt_app_left _ _ _ (by omega)]
    rfl
  have h1 : bt (wrapS s) 1 = 40 := by
    unfold wrapS
    rw [bt_app_left _ _ _ (by simp [e1]; omega), bt_app_left _ _ _ (by omega)]
    rfl
  have hp := pe_up (a := s) (b := wrapS s) (k := 2) (E := s.size) hb (by rw [hl]; omega) (s.size + 1) 0 t _ ht (Nat.le_refl _)
  have hp2 := pe_mono (s.size + 1) ((wrapS s).size) (0 + 2) _ (by omega) hp
  have htree : tree (wrapS s) = some (.gate 1 [t], (wrapS s).size) := by
    unfold tree pe
    rw [h0, if_pos (by rfl), h1, if_pos rfl]
    have hpl : pl (wrapS s) (pe (wrapS s) (wrapS s).size) (wrapS s).size (0 + 2) = some ([t], (wrapS s).size) := by
      obtain ⟨m, hm⟩ : ∃ m, (wrapS s).size = m + 1 := ⟨s.size + 2, by omega⟩
      have e : pl (wrapS s) (pe (wrapS s) (wrapS s).size) (m + 1) (0 + 2) = some ([t], (wrapS s).size) := by
        unfold pl
        simp only [hp2]
        rw [if_pos hl]
        simp only [Option.some.injEq, Prod.mk.injEq, true_and]
        omega
      rw [hm]
      rw [hm] at e
      exact e
    rw [hpl]
    simp only
    rw [if_pos ⟨by show 1 ≤ 6; omega, by show 1 ≤ 1; omega⟩]
  refine ⟨?_, _, htree, ?_⟩
  · rw [exOk_some (by omega) htree]
    simp
  · show max (depthT t) 0 + 1 = _
    omega
end Go.Proofs.YtbokieephhffnaaDoor
