/- The depth of an expression: the plain law, and the program's. -/
import Derived.Test.YtiepoadnncnbkaaSq2
namespace Go.Proofs.Ytiepoadnncnbkaa
open Go.RowKit
set_option maxHeartbeats 4000000

mutual
def depthT : Tr → Nat
  | .leaf _ => 0
  | .gate _ ts => depthL ts + 1
def depthL : List Tr → Nat
  | [] => 0
  | t :: ts => max (depthT t) (depthL ts)
end
theorem depthL_snoc (t : Tr) : ∀ a, depthL (a ++ [t]) = max (depthL a) (depthT t)
  | [] => by simp [depthL]
  | x :: a => by
    show max (depthT x) (depthL (a ++ [t])) = max (max (depthT x) (depthL a)) (depthT t)
    rw [depthL_snoc t a]
    omega
theorem depthL_le {ts : List Tr} : ∀ {k : Nat} {t : Tr}, ts[k]? = some t → depthT t ≤ depthL ts := by
  induction ts with
  | nil => intro k t h; simp at h
  | cons a l ih =>
    intro k t h
    show depthT t ≤ max (depthT a) (depthL l)
    cases k with
    | zero => simp at h; subst h; omega
    | succ k =>
      have := ih (k := k) (t := t) (by simpa using h)
      omega
theorem take_snoc {α : Type} {l : List α} {k : Nat} {x : α} (h : l[k]? = some x) : l.take (k + 1) = l.take k ++ [x] := by
  obtain ⟨hk, e⟩ := List.getElem?_eq_some_iff.1 h
  rw [List.take_succ_eq_append_getElem hk, e]
theorem pl_depth {s : ByteArray} {g : Nat → Option (Tr × Nat)} {d : Nat} (hg : ∀ i t e, g i = some (t, e) → depthT t ≤ d) : ∀ f i ts e, pl s g f i = some (ts, e) → depthL ts ≤ d
  | 0, i, ts, e, h => by simp [pl] at h
  | f + 1, i, ts, e, h => by
    unfold pl at h
    cases hgi : g i with
    | none => simp [hgi] at h
    | some x =>
      obtain ⟨t, j⟩ := x
      have h1 := hg i t j hgi
      simp only [hgi] at h
      by_cases h41 : bt s j = 41
      · rw [if_pos h41] at h
        simp only [Option.some.injEq, Prod.mk.injEq] at h
        obtain ⟨rfl, rfl⟩ := h
        simp [depthL, h1]
      · rw [if_neg h41] at h
        by_cases h44 : bt s j = 44
        · rw [if_pos h44] at h
          cases hp : pl s g f (j + 1) with
          | none => simp [hp] at h
          | some y =>
            obtain ⟨ts', e'⟩ := y
            simp only [hp, Option.some.injEq, Prod.mk.injEq] at h
            obtain ⟨rfl, rfl⟩ := h
            have := pl_depth hg f (j + 1) ts' e' hp
            show max _ _ ≤ d
            omega
        · rw [if_neg h44] at h
          cases h
theorem pe_depth {s : ByteArray} : ∀ f i t e, pe s f i = some (t, e) → depthT t ≤ f
  | 0, i, t, e, h => by simp [pe] at h
  | f + 1, i, t, e, h => by
    unfold pe at h
    by_cases hd : isD (bt s i) = true
    · rw [if_pos hd] at h
      by_cases h40 : bt s (i + 1) = 40
      · rw [if_pos h40] at h
        cases hp : pl s (pe s f) f (i + 2) with
        | none => simp [hp] at h
        | some y =>
          obtain ⟨ts', e'⟩ := y
          simp only [hp] at h
          have := pl_depth (pe_depth f) f (i + 2) ts' e' hp
          split at h
          · simp only [Option.some.injEq, Prod.mk.injEq] at h
            obtain ⟨rfl, rfl⟩ := h
            show depthL ts' + 1 ≤ f + 1
            omega
          · cases h
      · rw [if_neg h40] at h
        simp only [Option.some.injEq, Prod.mk.injEq] at h
        obtain ⟨rfl, rfl⟩ := h
        exact Nat.zero_le _
    · rw [if_neg hd] at h
      cases h

theorem pl_mono {s : ByteArray} {g g' : Nat → Option (Tr × Nat)} (hg : ∀ i x, g i = some x → g' i = some x) : ∀ f f' i y, f ≤ f' → pl s g f i = some y → pl s g' f' i = some y
  | 0, f', i, y, _, h => by simp [pl] at h
  | f + 1, f', i, y, hf, h => by
    obtain ⟨f2, rfl⟩ : ∃ f2, f' = f2 + 1 := ⟨f' - 1, by omega⟩
    unfold pl at h ⊢
    cases hgi : g i with
    | none => simp [hgi] at h
    | some x =>
      obtain ⟨t, j⟩ := x
      simp only [hgi] at h
      simp only [hg i _ hgi]
      by_cases h41 : bt s j = 41
      · rw [if_pos h41] at h ⊢
        exact h
      · rw [if_neg h41] at h ⊢
        by_cases h44 : bt s j = 44
        · rw [if_pos h44] at h ⊢
          cases hp : pl s g f (j + 1) with
          | none => simp [hp] at h
          | some z =>
            rw [pl_mono hg f f2 (j + 1) z (by omega) hp]
            rw [hp] at h
            exact h
        · rw [if_neg h44] at h
          cases h
theorem pe_mono {s : ByteArray} : ∀ f f' i y, f ≤ f' → pe s f i = some y → pe s f' i = some y
  | 0, f', i, y, _, h => by simp [pe] at h
  | f + 1, f', i, y, hf, h => by
    obtain ⟨f2, rfl⟩ : ∃ f2, f' = f2 + 1 := ⟨f' - 1, by omega⟩
    unfold pe at h ⊢
    by_cases hd : isD (bt s i) = true
    · rw [if_pos hd] at h ⊢
      by_cases h40 : bt s (i + 1) = 40
      · rw [if_pos h40] at h ⊢
        cases hp : pl s (pe s f) f (i + 2) with
        | none => simp [hp] at h
        | some z =>
          rw [pl_mono (fun i x => pe_mono f f2 i x (by omega)) f f2 (i + 2) z (by omega) hp]
          rw [hp] at h
          exact h
      · rw [if_neg h40] at h ⊢
        exact h
    · rw [if_neg hd] at h
      cases h
/-- What is read in text a from place d on, up to place E, is read in text b that has the same bytes there. -/
theorem pl_map {a b : ByteArray} {d E : Nat} {g g' : Nat → Option (Tr × Nat)} (hC1 : ∀ j, d ≤ j → j < E → bt b (j - d) = bt a j) (hend : ∀ i t e, g i = some (t, e) → i < e ∧ e ≤ a.size)
    (hg : ∀ i t e, d ≤ i → g i = some (t, e) → e ≤ E → g' (i - d) = some (t, e - d)) : ∀ f i ts e, d ≤ i → pl a g f i = some (ts, e) → e ≤ E → pl b g' f (i - d) = some (ts, e - d)
  | 0, i, ts, e, _, h, _ => by simp [pl] at h
  | f + 1, i, ts, e, hi, h, he => by
    unfold pl at h ⊢
    cases hgi : g i with
    | none => simp [hgi] at h
    | some x =>
      obtain ⟨t, j⟩ := x
      have hj := hend i t j hgi
      simp only [hgi] at h
      by_cases h41 : bt a j = 41
      · rw [if_pos h41] at h
        simp only [Option.some.injEq, Prod.mk.injEq] at h
        obtain ⟨rfl, rfl⟩ := h
        simp only [hg i t j hi hgi (by omega)]
        rw [hC1 j (by omega) (by omega), if_pos h41, show j + 1 - d = j - d + 1 by omega]
      · rw [if_neg h41] at h
        by_cases h44 : bt a j = 44
        · rw [if_pos h44] at h
          cases hp : pl a g f (j + 1) with
          | none => simp [hp] at h
          | some z =>
            obtain ⟨ts', e'⟩ := z
            simp only [hp, Option.some.injEq, Prod.mk.injEq] at h
            obtain ⟨rfl, rfl⟩ := h
            have hz := pl_end hend f (j + 1) ts' e' hp
            have ih := pl_map hC1 hend hg f (j + 1) ts' e' (by omega) hp he
            rw [show j + 1 - d = j - d + 1 by omega] at ih
            simp only [hg i t j hi hgi (by omega)]
            rw [hC1 j (by omega) (by omega), if_neg h41, if_pos h44, ih]
        · rw [if_neg h44] at h
          cases h
theorem pe_map {a b : ByteArray} {d E : Nat} (hC1 : ∀ j, d ≤ j → j < E → bt b (j - d) = bt a j) (hC2 : bt b (E - d) ≠ 40) : ∀ f i t e, d ≤ i → pe a f i = some (t, e) → e ≤ E → pe b f (i - d) = some (t, e - d)
  | 0, i, t, e, _, h, _ => by simp [pe] at h
  | f + 1, i, t, e, hi, h, he => by
    have hie := pe_end _ _ _ _ h
    unfold pe at h ⊢
    rw [hC1 i hi (by omega)]
    by_cases hd : isD (bt a i) = true
    · rw [if_pos hd] at h ⊢
      by_cases h40 : bt a (i + 1) = 40
      · rw [if_pos h40] at h
        cases hp : pl a (pe a f) f (i + 2) with
        | none => simp [hp] at h
        | some z =>
          obtain ⟨ts', e'⟩ := z
          have hz := pl_end (pe_end f) f (i + 2) ts' e' hp
          rw [hp] at h
          simp only at h
          split at h
          case isTrue hc =>
            simp only [Option.some.injEq, Prod.mk.injEq] at h
            obtain ⟨rfl, rfl⟩ := h
            have ih := pl_map hC1 (pe_end f) (fun i t e h1 h2 h3 => pe_map hC1 hC2 f i t e h1 h2 h3) f (i + 2) ts' e' (by omega) hp he
            have hn : bt b (i - d + 1) = 40 := by rw [show i - d + 1 = i + 1 - d by omega, hC1 (i + 1) (by omega) (by omega)]; exact h40
            rw [if_pos hn, show i - d + 2 = i + 2 - d by omega, ih]
            simp only
            rw [if_pos hc]
          case isFalse => cases h
      · rw [if_neg h40] at h
        simp only [Option.some.injEq, Prod.mk.injEq] at h
        obtain ⟨rfl, rfl⟩ := h
        have hn : bt b (i - d + 1) ≠ 40 := by
          by_cases hE : i + 1 < E
          · rw [show i - d + 1 = i + 1 - d by omega, hC1 (i + 1) (by omega) hE]; exact h40
          · rw [show i - d + 1 = E - d by omega]; exact hC2
        rw [if_neg hn, show i + 1 - d = i - d + 1 by omega]
    · rw [if_neg hd] at h
      cases h
theorem bt_piece (s : ByteArray) (d e j : Nat) (hd : d ≤ j) (hj : j < e) (he : e ≤ s.size) : bt (s.extract d e) (j - d) = bt s j := by
  have h1 : j - d < (s.extract d e).size := by simp [ByteArray.size_extract]; omega
  rw [bt_at h1, bt_at (show j < s.size by omega)]
  simp [ByteArray.getElem_extract, show d + (j - d) = j by omega]

/-- A text is, whole, the expression t. -/
def Whole (u : ByteArray) (t : Tr) : Prop := ∃ f, pe u f 0 = some (t, u.size)
theorem whole_piece {u : ByteArray} {f j e : Nat} {t : Tr} (h : pe u f j = some (t, e)) : Whole (u.extract j e) t := by
  obtain ⟨h1, h2⟩ := pe_end _ _ _ _ h
  have hsz : (u.extract j e).size = e - j := by simp [ByteArray.size_extract]; omega
  refine ⟨f, ?_⟩
  have := pe_map (a := u) (b := u.extract j e) (d := j) (E := e) (fun i hi hie => bt_piece u j e i hi hie h2) (by rw [bt_off (by omega)]; omega) f j t e (Nat.le_refl _) h (Nat.le_refl _)
  rw [Nat.sub_self] at this
  rw [this, hsz]
/-- The parts are the operands. -/
def PartOk (u : ByteArray) (ps : List ByteArray) (ts : List Tr) : Prop := ps.length = ts.length ∧ ∀ (i : Nat) p t, ps[i]? = some p → ts[i]? = some t → Whole p t ∧ p.size < u.size
theorem PartOk.snoc {u p : ByteArray} {ps : List ByteArray} {ts : List Tr} {t : Tr} (h : PartOk u ps ts) (hw : Whole p t) (hp : p.size < u.size) : PartOk u (ps ++ [p]) (ts ++ [t]) := by
  refine ⟨by simp [h.1], fun i q x hq hx => ?_⟩
  by_cases hi : i < ps.length
  · rw [List.getElem?_append_left hi] at hq
    rw [List.getElem?_append_left (by rw [← h.1]; exact hi)] at hx
    exact h.2 i q x hq hx
  · have hi2 : i - ps.length = 0 := by
      rcases Nat.eq_zero_or_pos (i - ps.length) with h0 | h0
      · exact h0
      · rw [List.getElem?_append_right (by omega), List.getElem?_eq_none (by simp; omega)] at hq; cases hq
    rw [List.getElem?_append_right (by omega), hi2] at hq
    rw [List.getElem?_append_right (by rw [← h.1]; omega), ← h.1, hi2] at hx
    simp at hq hx
    subst hq hx
    exact ⟨hw, hp⟩
theorem gate_parts {u : ByteArray} {n : Nat} {ts : List Tr} (h : Whole u (.gate n ts)) : ∃ f, bt u 1 = 40 ∧ pl u (pe u f) f 2 = some (ts, u.size) ∧ 2 < u.size := by
  obtain ⟨f, hf⟩ := h
  cases f with
  | zero => simp [pe] at hf
  | succ f =>
    unfold pe at hf
    by_cases hd : isD (bt u 0) = true
    · rw [if_pos hd] at hf
      by_cases h40 : bt u (0 + 1) = 40
      · rw [if_pos h40] at hf
        cases hp : pl u (pe u f) f (0 + 2) with
        | none => simp [hp] at hf
        | some z =>
          obtain ⟨ts', e'⟩ := z
          have hz := pl_end (pe_end f) f (0 + 2) ts' e' hp
          rw [hp] at hf
          simp only at hf
          split at hf
          · simp only [Option.some.injEq, Prod.mk.injEq, Tr.gate.injEq] at hf
            obtain ⟨⟨_, rfl⟩, rfl⟩ := hf
            exact ⟨f, h40, hp, by omega⟩
          · cases hf
      · rw [if_neg h40] at hf
        simp at hf
    · rw [if_neg hd] at hf
      cases hf
theorem leaf_size {u : ByteArray} {n : Nat} (h : Whole u (.leaf n)) : u.size = 1 := by
  obtain ⟨f, hf⟩ := h
  cases f with
  | zero => simp [pe] at hf
  | succ f =>
    unfold pe at hf
    by_cases hd : isD (bt u 0) = true
    · rw [if_pos hd] at hf
      by_cases h40 : bt u (0 + 1) = 40
      · rw [if_pos h40] at hf
        cases hp : pl u (pe u f) f (0 + 2) with
        | none => simp [hp] at hf
        | some z =>
          rw [hp] at hf
          simp only at hf
          split at hf <;> simp at hf
      · rw [if_neg h40] at hf
        simp at hf
        omega
    · rw [if_neg hd] at hf
      cases hf
theorem string_info : (Try.prog.info? 9).map (fun i => (i.zero, i.size, i.bytes)) = some (some (.string ByteArray.empty), 1, 16) := by kernel_rfl

/-- What holds at the head of the loop. -/
def PtI (u : ByteArray) (ts : List Tr) (W : World) (f : Nat) (o a : Value) (wr : World) : Prop := ∃ (j : Nat) (ps : List ByteArray) (ts1 ts2 : List Tr), a = .int .i64 (j : Int) ∧ ts = ts1 ++ ts2 ∧ PartOk u ps ts1 ∧
  wr.ownsRow W.heap.size 9 1 o ps.length (ps.map Value.string) ∧ Below W.heap.size W wr ∧ 1 ≤ j ∧ j < u.size ∧ ps.length ≤ j ∧
  ((bt u j ≠ 41 ∧ ∃ f', pl u (pe u f) f' (j + 1) = some (ts2, u.size)) ∨ (ts2 = [] ∧ bt u j = 41))
theorem l2Parts_leaf (u : ByteArray) (n : Nat) (hu : Whole u (.leaf n)) (W : World) : Calls Try.prog 72 #[.string u] W fun e W' =>
    ∃ v, e = .returned v ∧ W'.ownsRow W.heap.size 9 1 v 0 [] ∧ Below W.heap.size W W' := by
  have h1 := leaf_size hu
  have h2 : ((u.size : Int) == 1) = true := by rw [h1]; rfl
  have HO := Lib.hid (owns_empty (size := 1) W 9 (Nat.le_refl W.heap.size))
  go_enter Try.func72, Try.ntmps72
  go_wp2
  go_ret
  exact ⟨_, rfl, HO.out, (Below.refl _ _).alloc (Nat.le_refl _) _⟩
theorem l2Parts_gate (u : ByteArray) (n : Nat) (ts : List Tr) (hu : Whole u (.gate n ts)) (hs : u.size ≤ 40) (W : World) : Calls Try.prog 72 #[.string u] W fun e W' =>
    ∃ v ps, e = .returned v ∧ W'.ownsRow W.heap.size 9 1 v ps.length (ps.map Value.string) ∧ PartOk u ps ts ∧ Below W.heap.size W W' := by
  obtain ⟨f, h40, hpl, h2s⟩ := gate_parts hu
  have h1 : ((u.size : Int) == 1) = false := by simp; omega
  have h1' : (u.size == 1) = false := by simp; omega
  have HI := Lib.hid (show PtI u ts W f (.slice (some ⟨W.heap.size, 0, none⟩) 0 0) (.int .i64 1) (W.alloc (.cells #[] 9)) from
    ⟨1, [], [], ts, rfl, rfl, ⟨rfl, fun i p t hp _ => by simp at hp⟩, owns_empty (size := 1) W 9 (Nat.le_refl W.heap.size), (Below.refl _ _).alloc (Nat.le_refl _) _, Nat.le_refl _, by omega, by simp, .inl ⟨by omega, f, hpl⟩⟩)
  clear h40 hpl hu
  go_enter Try.func72, Try.ntmps72
  go_wp2
  go_loopw [3, 4] (fun o a wr => PtI u ts W f o a wr) (fun _ a _ => u.size - (intOf a).toNat)
  case atStart => exact HI.out
  case round =>
    obtain ⟨j, ps, ts1, ts2, rfl, hts, hok, hown, hB, hj1, hju, hpj, hor⟩ := hrel
    have HO := Lib.hid hown
    have HB := Lib.hid hB
    have HK := Lib.hid hok
    have hsz := hB.size
    have m1 : (j : Int) < u.size := by omega
    have hb := bt_at hju
    obtain ⟨z, hz⟩ : ∃ z, u[j] = z := ⟨_, rfl⟩
    rw [hz] at hb
    clear hown hB hok
    rcases hor with ⟨h41, f', hpl⟩ | ⟨h0, h41⟩
    · obtain ⟨f2, rfl⟩ : ∃ f2, f' = f2 + 1 := by
        cases f' with
        | zero => simp [pl] at hpl
        | succ f2 => exact ⟨f2, rfl⟩
      have hz1 : ¬ ((z.toNat : Nat) : Int) = 41 := by omega
      have hz2 : (((z.toNat : Nat) : Int) != 41) = true := by simp; omega
      have hnext : ∃ t e1, pe u f (j + 1) = some (t, e1) ∧ ((bt u e1 = 41 ∧ ts2 = [t] ∧ e1 + 1 = u.size) ∨ (bt u e1 ≠ 41 ∧ ∃ ts3, ts2 = t :: ts3 ∧ pl u (pe u f) f2 (e1 + 1) = some (ts3, u.size))) := by
        unfold pl at hpl
        cases hg : pe u f (j + 1) with
        | none => rw [hg] at hpl; cases hpl
        | some y =>
          obtain ⟨t, e1⟩ := y
          rw [hg] at hpl
          simp only at hpl
          refine ⟨t, e1, rfl, ?_⟩
          by_cases h4 : bt u e1 = 41
          · rw [if_pos h4] at hpl
            simp only [Option.some.injEq, Prod.mk.injEq] at hpl
            exact .inl ⟨h4, hpl.1.symm, hpl.2⟩
          · rw [if_neg h4] at hpl
            by_cases h44 : bt u e1 = 44
            · rw [if_pos h44] at hpl
              cases hp : pl u (pe u f) f2 (e1 + 1) with
              | none => simp [hp] at hpl
              | some y =>
                obtain ⟨ts3, e3⟩ := y
                simp only [hp, Option.some.injEq, Prod.mk.injEq] at hpl
                obtain ⟨rfl, rfl⟩ := hpl
                exact .inr ⟨h4, ts3, rfl, rfl⟩
            · rw [if_neg h44] at hpl
              cases hpl
      obtain ⟨t, e1, hpe, hcase⟩ := hnext
      obtain ⟨he1, he2⟩ := pe_end _ _ _ _ hpe
      have hce := l2End_any u (by omega) (max f (u.size + 1)) (j + 1) wr (by omega) (by omega)
      rw [pe_mono f (max f (u.size + 1)) (j + 1) _ (by omega) hpe] at hce
      have hjj : ((j + 1 : Nat) : Int) = (j : Int) + 1 := by omega
      rw [hjj] at hce
      have HC := Lib.hid (show Calls Try.prog 69 #[.string u, .int .i64 ((j : Int) + 1)] wr fun x w' => x = .returned (.int .i64 (e1 : Int)) ∧ w' = wr from hce)
      have HW := Lib.hid (whole_piece hpe)
      have hps : (u.extract (j + 1) e1).size = e1 - (j + 1) := by simp [ByteArray.size_extract]; omega
      have HPS := Lib.hid hps
      have heu : e1 < u.size := by
        rcases hcase with ⟨_, _, h⟩ | ⟨_, ts3, _, h⟩
        · omega
        · have := pl_end (pe_end f) f2 (e1 + 1) ts3 u.size h
          omega
      have n1 : IntKind.i64.wrap ((j : Int) + 1) = (j : Int) + 1 := IntWalk.i64_in _ (by omega)
      have n2 : (0 : Int) ≤ (j : Int) + 1 := by omega
      have n3 : ((j : Int) + 1).toNat = j + 1 := by omega
      have n4 : (j : Int) + 1 ≤ e1 := by omega
      have n5 : (e1 : Int) ≤ u.size := by omega
      have HCase := Lib.hid hcase
      have HTs := Lib.hid hts
      obtain ⟨i0, hi0, hi1, hi2, hi3⟩ := info_parts string_info
      have J0 := Lib.hid hi0
      have J1 := Lib.hid hi1
      have J2 := Lib.hid hi2
      have J3 := Lib.hid hi3
      clear hi0 hi1 hi2 hi3 hpl hce hcase hps hts hpe h41 hb hjj
      obtain ⟨p, hp⟩ : ∃ p, p = u.extract (j + 1) e1 := ⟨_, rfl⟩
      rw [← hp] at HW HPS
      have hp' : u.extract (j + 1) e1 = p := hp.symm
      clear hp
      go_wp2_with (first
        | (go_at_call 69; refine HC.out.mono ?_; rintro e w' ⟨rfl, rfl⟩)
        | (at_builtin; refine wpl_append1 rfl _ _ 83 (by rfl) W.heap.size 9 i0 (.string ByteArray.empty) 1 16 Try.underlying83 J0.out J1.out J2.out J3.out rfl (by omega) _ ps.length _ (by rfl) HO.out #[.string p] rfl (by rfl) (by simp [Value.oneCell']) (by omega) (by omega) hsz ?_; intro v2 w2 hown2 hb2 hg2 hat2))
      go_roundw
      case rel =>
        refine ⟨e1, ps ++ [p], ts1 ++ [t], ?_⟩
        have hB2 := HB.out.trans hb2
        have hown3 : w2.ownsRow W.heap.size 9 1 v2 (ps ++ [p]).length ((ps ++ [p]).map Value.string) := by simpa using hown2
        have hok2 := HK.out.snoc HW.out (by rw [HPS.out]; omega)
        rcases HCase.out with ⟨h1, h2, h3⟩ | ⟨h1, ts3, h2, h3⟩
        · exact ⟨[], rfl, by rw [HTs.out, h2]; simp, hok2, hown3, hB2, by omega, by omega, by simp; omega, .inr ⟨rfl, h1⟩⟩
        · exact ⟨ts3, rfl, by rw [HTs.out, h2]; simp, hok2, hown3, hB2, by omega, by omega, by simp; omega, .inl ⟨h1, f2, h3⟩⟩
      case measure => simp [intOf]; omega
    · have hz1 : ((z.toNat : Nat) : Int) = 41 := by omega
      have HT := Lib.hid (show ts = ts1 by rw [hts, h0, List.append_nil])
      clear hts h0 h41 hb
      go_wp2
      go_ret
      exact ⟨_, ps, rfl, HO.out, by rw [HT.out]; exact HK.out, HB.out⟩
end Go.Proofs.Ytiepoadnncnbkaa
