/- The depth of an expression: the plain law, and the program's. -/
import Derived.Test.YtbokieephhffnaaDoorEx6
namespace Go.Proofs.YtbokieephhffnaaDoor
open Go.RowKit
set_option maxHeartbeats 4000000

mutual
def depthT : Tr → Nat
  | .leaf _ => 0
  | .gate _ ts => depthL ts + 1
def depthL : List Tr → Nat
  | [] => 0
  | t :: ts => max (depthT t) (depthL ts)
end
theorem depthL_snoc (t : Tr) : ∀ a, depthL (a ++ [t]) = max (depthL a) (depthT t)
  | [] => by simp [depthL]
  | x :: a => by
    show max (depthT x) (depthL (a ++ [t])) = max (max (depthT x) (depthL a)) (depthT t)
    rw [depthL_snoc t a]
    omega
theorem depthL_le {ts : List Tr} : ∀ {k : Nat} {t : Tr}, ts[k]? = some t → depthT t ≤ depthL ts := by
  induction ts with
  | nil => intro k t h; simp at h
  | cons a l ih =>
    intro k t h
    show depthT t ≤ max (depthT a) (depthL l)
    cases k with
    | zero => simp at h; subst h; omega
    | succ k =>
      have := ih (k := k) (t := t) (by simpa using h)
      omega
theorem take_snoc {α : Type} {l : List α} {k : Nat} {x : α} (h : l[k]? = some x) : l.take (k + 1) = l.take k ++ [x] := by
  obtain ⟨hk, e⟩ := List.getElem?_eq_some_iff.1 h
  rw [List.take_succ_eq_append_getElem hk, e]
theorem pl_depth {s : ByteArray} {g : Nat → Option (Tr × Nat)} {d : Nat} (hg : ∀ i t e, g i = some (t, e) → depthT t ≤ d) : ∀ f i ts e, pl s g f i = some (ts, e) → depthL ts ≤ d
  | 0, i, ts, e, h => by simp [pl] at h
  | f + 1, i, ts, e, h => by
    unfold pl at h
    cases hgi : g i with
    | none => simp [hgi] at h
    | some x =>
      obtain ⟨t, j⟩ := x
      have h1 := hg i t j hgi
      simp only [hgi] at h
      by_cases h41 : bt s j = 41
      · rw [if_pos h41] at h
        simp only [Option.some.injEq, Prod.mk.injEq] at h
        obtain ⟨rfl, rfl⟩ := h
        simp [depthL, h1]
      · rw [if_neg h41] at h
        by_cases h44 : bt s j = 44
        · rw [if_pos h44] at h
          cases hp : pl s g f (j + 1) with
          | none => simp [hp] at h
          | some y =>
            obtain ⟨ts', e'⟩ := y
            simp only [hp, Option.some.injEq, Prod.mk.injEq] at h
            obtain ⟨rfl, rfl⟩ := h
            have := pl_depth hg f (j + 1) ts' e' hp
            show max _ _ ≤ d
            omega
        · rw [if_neg h44] at h
          cases h
theorem pe_depth {s : ByteArray} : ∀ f i t e, pe s f i = some (t, e) → depthT t ≤ f
  | 0, i, t, e, h => by simp [pe] at h
  | f + 1, i, t, e, h => by
    unfold pe at h
    by_cases hd : isD (bt s i) = true
    · rw [if_pos hd] at h
      by_cases h40 : bt s (i + 1) = 40
      · rw [if_pos h40] at h
        cases hp : pl s (pe s f) f (i + 2) with
        | none => simp [hp] at h
        | some y =>
          obtain ⟨ts', e'⟩ := y
          simp only [hp] at h
          have := pl_depth (pe_depth f) f (i + 2) ts' e' hp
          split at h
          · simp only [Option.some.injEq, Prod.mk.injEq] at h
            obtain ⟨rfl, rfl⟩ := h
            show depthL ts' + 1 ≤ f + 1
            omega
          · cases h
      · rw [if_neg h40] at h
        simp only [Option.some.injEq, Prod.mk.injEq] at h
        obtain ⟨rfl, rfl⟩ := h
        exact Nat.zero_le _
    · rw [if_neg hd] at h
      cases h

@[go_sem] theorem as_gate (v : Value) (w : World) : (Instr.typeAssert (.iface 37 v) 50 37 true).run Tryd.prog w = .ok (.tuple #[v, .bool true]) w := by kernel_rfl
@[go_sem] theorem as_leaf (v : Value) (w : World) : (Instr.typeAssert (.iface 41 v) 50 37 true).run Tryd.prog w = .ok (.tuple #[.pointer none, .bool false]) w := by kernel_rfl
end Go.Proofs.YtbokieephhffnaaDoor
