/- The reference's l2Parts: the operands of an expression, each a text of its own. -/
import Derived.Test.YtbokieephhffnaaDoorEx7
namespace Go.Proofs.YtbokieephhffnaaDoor
open Go.RowKit
set_option maxHeartbeats 4000000

theorem pl_mono {s : ByteArray} {g g' : Nat → Option (Tr × Nat)} (hg : ∀ i x, g i = some x → g' i = some x) : ∀ f f' i y, f ≤ f' → pl s g f i = some y → pl s g' f' i = some y
  | 0, f', i, y, _, h => by simp [pl] at h
  | f + 1, f', i, y, hf, h => by
    obtain ⟨f2, rfl⟩ : ∃ f2, f' = f2 + 1 := ⟨f' - 1, by omega⟩
    unfold pl at h ⊢
    cases hgi : g i with
    | none => simp [hgi] at h
    | some x =>
      obtain ⟨t, j⟩ := x
      simp only [hgi] at h
      simp only [hg i _ hgi]
      by_cases h41 : bt s j = 41
      · rw [if_pos h41] at h ⊢
        exact h
      · rw [if_neg h41] at h ⊢
        by_cases h44 : bt s j = 44
        · rw [if_pos h44] at h ⊢
          cases hp : pl s g f (j + 1) with
          | none => simp [hp] at h
          | some z =>
            rw [pl_mono hg f f2 (j + 1) z (by omega) hp]
            rw [hp] at h
            exact h
        · rw [if_neg h44] at h
          cases h
theorem pe_mono {s : ByteArray} : ∀ f f' i y, f ≤ f' → pe s f i = some y → pe s f' i = some y
  | 0, f', i, y, _, h => by simp [pe] at h
  | f + 1, f', i, y, hf, h => by
    obtain ⟨f2, rfl⟩ : ∃ f2, f' = f2 + 1 := ⟨f' - 1, by omega⟩
    unfold pe at h ⊢
    by_cases hd : isD (bt s i) = true
    · rw [if_pos hd] at h ⊢
      by_cases h40 : bt s (i + 1) = 40
      · rw [if_pos h40] at h ⊢
        cases hp : pl s (pe s f) f (i + 2) with
        | none => simp [hp] at h
        | some z =>
          rw [pl_mono (fun i x => pe_mono f f2 i x (by omega)) f f2 (i + 2) z (by omega) hp]
          rw [hp] at h
          exact h
      · rw [if_neg h40] at h ⊢
        exact h
    · rw [if_neg hd] at h
      cases h
/-- What is read in text a from place d on, up to place E, is read in text b that has the same bytes there. -/
theorem pl_map {a b : ByteArray} {d E : Nat} {g g' : Nat → Option (Tr × Nat)} (hC1 : ∀ j, d ≤ j → j < E → bt b (j - d) = bt a j) (hend : ∀ i t e, g i = some (t, e) → i < e ∧ e ≤ a.size)
    (hg : ∀ i t e, d ≤ i → g i = some (t, e) → e ≤ E → g' (i - d) = some (t, e - d)) : ∀ f i ts e, d ≤ i → pl a g f i = some (ts, e) → e ≤ E → pl b g' f (i - d) = some (ts, e - d)
  | 0, i, ts, e, _, h, _ => by simp [pl] at h
  | f + 1, i, ts, e, hi, h, he => by
    unfold pl at h ⊢
    cases hgi : g i with
    | none => simp [hgi] at h
    | some x =>
      obtain ⟨t, j⟩ := x
      have hj := hend i t j hgi
      simp only [hgi] at h
      by_cases h41 : bt a j = 41
      · rw [if_pos h41] at h
        simp only [Option.some.injEq, Prod.mk.injEq] at h
        obtain ⟨rfl, rfl⟩ := h
        simp only [hg i t j hi hgi (by omega)]
        rw [hC1 j (by omega) (by omega), if_pos h41, show j + 1 - d = j - d + 1 by omega]
      · rw [if_neg h41] at h
        by_cases h44 : bt a j = 44
        · rw [if_pos h44] at h
          cases hp : pl a g f (j + 1) with
          | none => simp [hp] at h
          | some z =>
            obtain ⟨ts', e'⟩ := z
            simp only [hp, Option.some.injEq, Prod.mk.injEq] at h
            obtain ⟨rfl, rfl⟩ := h
            have hz := pl_end hend f (j + 1) ts' e' hp
            have ih := pl_map hC1 hend hg f (j + 1) ts' e' (by omega) hp he
            rw [show j + 1 - d = j - d + 1 by omega] at ih
            simp only [hg i t j hi hgi (by omega)]
            rw [hC1 j (by omega) (by omega), if_neg h41, if_pos h44, ih]
        · rw [if_neg h44] at h
          cases h
theorem pe_map {a b : ByteArray} {d E : Nat} (hC1 : ∀ j, d ≤ j → j < E → bt b (j - d) = bt a j) (hC2 : bt b (E - d) ≠ 40) : ∀ f i t e, d ≤ i → pe a f i = some (t, e) → e ≤ E → pe b f (i - d) = some (t, e - d)
  | 0, i, t, e, _, h, _ => by simp [pe] at h
  | f + 1, i, t, e, hi, h, he => by
    have hie := pe_end _ _ _ _ h
    unfold pe at h ⊢
    rw [hC1 i hi (by omega)]
    by_cases hd : isD (bt a i) = true
    · rw [if_pos hd] at h ⊢
      by_cases h40 : bt a (i + 1) = 40
      · rw [if_pos h40] at h
        cases hp : pl a (pe a f) f (i + 2) with
        | none => simp [hp] at h
        | some z =>
          obtain ⟨ts', e'⟩ := z
          have hz := pl_end (pe_end f) f (i + 2) ts' e' hp
          rw [hp] at h
          simp only at h
          split at h
          case isTrue hc =>
            simp only [Option.some.injEq, Prod.mk.injEq] at h
            obtain ⟨rfl, rfl⟩ := h
            have ih := pl_map hC1 (pe_end f) (fun i t e h1 h2 h3 => pe_map hC1 hC2 f i t e h1 h2 h3) f (i + 2) ts' e' (by omega) hp he
            have hn : bt b (i - d + 1) = 40 := by rw [show i - d + 1 = i + 1 - d by omega, hC1 (i + 1) (by omega) (by omega)]; exact h40
            rw [if_pos hn, show i - d + 2 = i + 2 - d by omega, ih]
            simp only
            rw [if_pos hc]
          case isFalse => cases h
      · rw [if_neg h40] at h
        simp only [Option.some.injEq, Prod.mk.injEq] at h
        obtain ⟨rfl, rfl⟩ := h
        have hn : bt b (i - d + 1) ≠ 40 := by
          by_cases hE : i + 1 < E
          · rw [show i - d + 1 = i + 1 - d by omega, hC1 (i + 1) (by omega) hE]; exact h40
          · rw [show i - d + 1 = E - d by omega]; exact hC2
        rw [if_neg hn, show i + 1 - d = i - d + 1 by omega]
    · rw [if_neg hd] at h
      cases h
theorem bt_piece (s : ByteArray) (d e j : Nat) (hd : d ≤ j) (hj : j < e) (he : e ≤ s.size) : bt (s.extract d e) (j - d) = bt s j := by
  have h1 : j - d < (s.extract d e).size := by simp [ByteArray.size_extract]; omega
  rw [bt_at h1, bt_at (show j < s.size by omega)]
  simp [ByteArray.getElem_extract, show d + (j - d) = j by omega]

/-- A text is, whole, the expression t. -/
def Whole (u : ByteArray) (t : Tr) : Prop := ∃ f, pe u f 0 = some (t, u.size)
theorem whole_piece {u : ByteArray} {f j e : Nat} {t : Tr} (h : pe u f j = some (t, e)) : Whole (u.extract j e) t := by
  obtain ⟨h1, h2⟩ := pe_end _ _ _ _ h
  have hsz : (u.extract j e).size = e - j := by simp [ByteArray.size_extract]; omega
  refine ⟨f, ?_⟩
  have := pe_map (a := u) (b := u.extract j e) (d := j) (E := e) (fun i hi hie => bt_piece u j e i hi hie h2) (by rw [bt_off (by omega)]; omega) f j t e (Nat.le_refl _) h (Nat.le_refl _)
  rw [Nat.sub_self] at this
  rw [this, hsz]
/-- The parts are the operands. -/
def PartOk (u : ByteArray) (ps : List ByteArray) (ts : List Tr) : Prop := ps.length = ts.length ∧ ∀ (i : Nat) p t, ps[i]? = some p → ts[i]? = some t → Whole p t ∧ p.size < u.size
theorem PartOk.snoc {u p : ByteArray} {ps : List ByteArray} {ts : List Tr} {t : Tr} (h : PartOk u ps ts) (hw : Whole p t) (hp : p.size < u.size) : PartOk u (ps ++ [p]) (ts ++ [t]) := by
  refine ⟨by simp [h.1], fun i q x hq hx => ?_⟩
  by_cases hi : i < ps.length
  · rw [List.getElem?_append_left hi] at hq
    rw [List.getElem?_append_left (by rw [← h.1]; exact hi)] at hx
    exact h.2 i q x hq hx
  · have hi2 : i - ps.length = 0 := by
      rcases Nat.eq_zero_or_pos (i - ps.length) with h0 | h0
      · exact h0
      · rw [List.getElem?_append_right (by omega), List.getElem?_eq_none (by simp; omega)] at hq; cases hq
    rw [List.getElem?_append_right (by omega), hi2] at hq
    rw [List.getElem?_append_right (by rw [← h.1]; omega), ← h.1, hi2] at hx
    simp at hq hx
    subst hq hx
    exact ⟨hw, hp⟩
theorem gate_parts {u : ByteArray} {n : Nat} {ts : List Tr} (h : Whole u (.gate n ts)) : ∃ f, bt u 1 = 40 ∧ pl u (pe u f) f 2 = some (ts, u.size) ∧ 2 < u.size := by
  obtain ⟨f, hf⟩ := h
  cases f with
  | zero => simp [pe] at hf
  | succ f =>
    unfold pe at hf
    by_cases hd : isD (bt u 0) = true
    · rw [if_pos hd] at hf
      by_cases h40 : bt u (0 + 1) = 40
      · rw [if_pos h40] at hf
        cases hp : pl u (pe u f) f (0 + 2) with
        | none => simp [hp] at hf
        | some z =>
          obtain ⟨ts', e'⟩ := z
          have hz := pl_end (pe_end f) f (0 + 2) ts' e' hp
          rw [hp] at hf
          simp only at hf
          split at hf
          · simp only [Option.some.injEq, Prod.mk.injEq, Tr.gate.injEq] at hf
            obtain ⟨⟨_, rfl⟩, rfl⟩ := hf
            exact ⟨f, h40, hp, by omega⟩
          · cases hf
      · rw [if_neg h40] at hf
        simp at hf
    · rw [if_neg hd] at hf
      cases hf
theorem leaf_size {u : ByteArray} {n : Nat} (h : Whole u (.leaf n)) : u.size = 1 := by
  obtain ⟨f, hf⟩ := h
  cases f with
  | zero => simp [pe] at hf
  | succ f =>
    unfold pe at hf
    by_cases hd : isD (bt u 0) = true
    · rw [if_pos hd] at hf
      by_cases h40 : bt u (0 + 1) = 40
      · rw [if_pos h40] at hf
        cases hp : pl u (pe u f) f (0 + 2) with
        | none => simp [hp] at hf
        | some z =>
          rw [hp] at hf
          simp only at hf
          split at hf <;> simp at hf
      · rw [if_neg h40] at hf
        simp at hf
        omega
    · rw [if_neg hd] at hf
      cases hf
theorem string_info : (Tryd.prog.info? 9).map (fun i => (i.zero, i.size, i.bytes)) = some (some (.string ByteArray.empty), 1, 16) := by kernel_rfl

/-- What holds at the head of the loop. -/
def PtI (u : ByteArray) (ts : List Tr) (W : World) (f : Nat) (o a : Value) (wr : World) : Prop := ∃ (j : Nat) (ps : List ByteArray) (ts1 ts2 : List Tr), a = .int .i64 (j : Int) ∧ ts = ts1 ++ ts2 ∧ PartOk u ps ts1 ∧
  wr.ownsRow W.heap.size 9 1 o ps.length (ps.map Value.string) ∧ Below W.heap.size W wr ∧ 1 ≤ j ∧ j < u.size ∧ ps.length ≤ j ∧
  ((bt u j ≠ 41 ∧ ∃ f', pl u (pe u f) f' (j + 1) = some (ts2, u.size)) ∨ (ts2 = [] ∧ bt u j = 41))
end Go.Proofs.YtbokieephhffnaaDoor
