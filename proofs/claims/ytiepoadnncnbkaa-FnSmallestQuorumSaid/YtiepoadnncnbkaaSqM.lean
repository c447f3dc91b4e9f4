/- Lists of lists that the call itself made. -/
import Derived.Test.YtiepoadnncnbkaaSq5
import Derived.Test.YtiepoadnncnbkaaDr1
import Derived.Deep.AppendLies
namespace Go.Proofs.Ytiepoadnncnbkaa
open Go.RowKit
set_option maxHeartbeats 2000000

/-- A short row of small numbers. -/
def Short (z : List Int) : Prop := z.length ≤ 6 ∧ ∀ x ∈ z, 1 ≤ x ∧ x ≤ 6
theorem short_of (m : Nat) : Short (ofTo m 6) := ⟨ofTo_len m 6, fun x hx => by have := ofTo_bd m 6 x hx; omega⟩
/-- The header u leads to the row z, in a block from B on that is not v's own. -/
def Hd (w : World) (B : Nat) (v u : Value) (z : List Int) : Prop := (u = .slice none 0 0 ∧ z = []) ∨
  (∃ g c, u = .slice (some ⟨g, 0, none⟩) z.length c ∧ z.length ≤ c ∧ c ≤ maxLen ∧ B ≤ g ∧ g < w.heap.size ∧ v.ownBlock ≠ some g ∧ ∀ j x, z[j]? = some x → w.cell? ⟨g, j, none⟩ = some (.int .i64 x))
theorem Hd.step {w w' : World} {B R : Nat} {v v' u : Value} {z : List Int} {row : Option Nat} (h : Hd w B v u z) (hg : w.grownBy w' row) (hr : ∀ r, row = some r → r < B ∨ v.ownBlock = some r) (hv : v'.ownBlock = v.ownBlock ∨ (v'.ownBlock = some R ∧ w.heap.size ≤ R)) : Hd w' B v' u z := by
  rcases h with h | ⟨g, c, h1, h2, h3, h4, h5, h6, h7⟩
  · exact .inl h
  · refine .inr ⟨g, c, h1, h2, h3, h4, Nat.lt_of_lt_of_le h5 hg.size, ?_, fun j x hx => ?_⟩
    · rcases hv with e | ⟨e, e2⟩
      · rw [e]; exact h6
      · rw [e]
        intro e3
        cases e3
        omega
    · rw [hg.cell_far ⟨g, j, none⟩ h5 (fun e => by
        rcases hr g e.symm with e2 | e2
        · omega
        · exact h6 e2)]
      exact h7 j x hx
theorem Hd.of_own {w : World} {B B2 : Nat} {v s : Value} {z : List Int} (h : OwnI w B2 s z) (hB : B ≤ B2) (hv : ∀ r, v.ownBlock = some r → r < B2) : Hd w B v s z := by
  have hrow := owns_row h
  unfold OwnI at h
  rcases h.2 with ⟨rfl, h0⟩ | ⟨g, cap, cur, rfl, h2, h3, h4, h5, h6, h7⟩
  · exact .inl ⟨rfl, List.eq_nil_of_length_eq_zero h0⟩
  · refine .inr ⟨g, cap, rfl, h4, h5, by omega, ?_, fun e => by have := hv g e; omega, fun j x hx => ?_⟩
    · rcases Nat.lt_or_ge g w.heap.size with hlt | hge
      · exact hlt
      · rw [Array.getElem?_eq_none hge] at h3; cases h3
    · obtain ⟨A, c, e, _, _, hr⟩ := hrow
      injection e with e1 e2 e3
      subst e1
      obtain ⟨b, off, e4, _, hc⟩ := hr (by intro e5; have : z = [] := by simpa using e5
                                           rw [this] at hx; simp at hx)
      injection e4 with e4
      injection e4 with e5 e6
      subst e5 e6
      have := hc j (.int .i64 x) (by simp [hx])
      rwa [Nat.zero_add] at this

/-- v owns, from block B on, headers that lead to the rows zss. -/
def OwnM (w : World) (B : Nat) (v : Value) (zss : List (List Int)) : Prop := ∃ cs : List Value, w.ownsRow B 27 1 v zss.length cs ∧ cs.length = zss.length ∧ ∀ (k : Nat) (u : Value) (z : List Int), cs[k]? = some u → zss[k]? = some z → Hd w B v u z
theorem OwnM.empty {B : Nat} (w : World) (hB : B ≤ w.heap.size) : OwnM (w.alloc (.cells #[] 27)) B (.slice (some ⟨w.heap.size, 0, none⟩) 0 0) [] := ⟨[], owns_empty w _ hB, rfl, fun k u z h => by simp at h⟩
theorem OwnM.below {w w' : World} {B K : Nat} {v : Value} {zss : List (List Int)} (h : OwnM w B v zss) (hb : Below K w w') (hK : w.heap.size ≤ K) : OwnM w' B v zss := by
  obtain ⟨cs, h1, h2, h3⟩ := h
  exact ⟨cs, owns_below h1 hb hK, h2, fun k u z hu hz => (h3 k u z hu hz).step (R := 0) (row := none) ⟨hb.os, hb.tape, hb.output, hb.size, fun i hi _ => hb.block i (by omega)⟩ (fun r e => by cases e) (.inl rfl)⟩
theorem OwnM.grown {w w' : World} {B R : Nat} {v : Value} {zss : List (List Int)} (h : OwnM w B v zss) (hg : w.grownBy w' (some R)) (hR : R < B) : OwnM w' B v zss := by
  obtain ⟨cs, h1, h2, h3⟩ := h
  refine ⟨cs, World.ownsRow.kept h1 hg ?_, h2, fun k u z hu hz => (h3 k u z hu hz).step (R := 0) hg (fun r e => by cases e; exact .inl hR) (.inl rfl)⟩
  cases hv : v.ownBlock with
  | none => exact .inl rfl
  | some g =>
    refine .inr fun e => ?_
    cases e
    have := (h1.lt R hv).1
    omega
theorem OwnM.lt {w : World} {B : Nat} {v : Value} {zss : List (List Int)} (h : OwnM w B v zss) : ∀ r, v.ownBlock = some r → r < w.heap.size := by
  obtain ⟨cs, h1, _⟩ := h
  exact fun r hr => (h1.lt r hr).2
theorem OwnM.less {w : World} {B B' : Nat} {v : Value} {zss : List (List Int)} (h : OwnM w B v zss) (hB : B' ≤ B) : OwnM w B' v zss := by
  obtain ⟨cs, h1, h2, h3⟩ := h
  refine ⟨cs, owns_less h1 hB, h2, fun k u z hu hz => ?_⟩
  rcases h3 k u z hu hz with e | ⟨g, c, e1, e2, e3, e4, e5⟩
  · exact .inl e
  · exact .inr ⟨g, c, e1, e2, e3, by omega, e5⟩
theorem wpl_append_row {W : World} {ops : Array Oper} {rest : List Oper} {o : Oper} {a : Act} {Q : Exit → Act → World → Prop} {tt : TypeId} (hgd : o.guard = none) (s x : Operand)
    (ho : o.op = .call { callee := .builtin .append, args := #[s, x], argTypes := #[22, 22] })
    (B : Nat) (v : Value) (zss : List (List Int)) (u : Value) (z : List Int) (hs : a.eval s = v) (hown : OwnM W B v zss) (hh : Hd W B v u z) (hx : a.eval x = .slice (some ⟨W.heap.size, 0, none⟩) 1 1)
    (hn : zss.length ≤ 10000000) (hbase : B ≤ W.heap.size)
    (h : ∀ v' w', OwnM w' B v' (zss ++ [z]) → Below B W w' → W.grownBy w' v.ownBlock → wpList Try.prog ops Q rest (a.put o.dst v') w') :
    wpList Try.prog ops Q (o :: rest) a (W.alloc (.cells #[u] tt)) := by
  obtain ⟨cs, h1, h2, h3⟩ := hown
  obtain ⟨i0, hi, hz0, hz1, hz2⟩ := info_parts slices_info
  have hu1 : u.oneCell' = true := by rcases hh with ⟨rfl, _⟩ | ⟨g, c, rfl, _⟩ <;> rfl
  refine wpl_append1 hgd s x 22 ho B 27 i0 _ 1 24 Try.underlying22 hi hz0 hz1 hz2 rfl (by omega) v zss.length cs hs h1 #[u] rfl hx (by simpa using hu1) hn (by omega) hbase ?_
  intro v' w' ho' hb hg hat
  have hat' : v'.ownBlock = v.ownBlock ∨ (v'.ownBlock = some (W.heap.size + 1) ∧ W.heap.size ≤ W.heap.size + 1) := hat.imp id fun e => ⟨e, by omega⟩
  refine h v' w' ⟨cs ++ [u], by simpa using ho', by simp [h2], fun k u' z' hu hz => ?_⟩ hb hg
  by_cases hk : k < cs.length
  · rw [List.getElem?_append_left hk] at hu
    rw [List.getElem?_append_left (by omega)] at hz
    exact (h3 k u' z' hu hz).step hg (fun r e => .inr e) hat'
  · rw [List.getElem?_append_right (by omega)] at hu
    rw [List.getElem?_append_right (by omega)] at hz
    by_cases e : k - cs.length = 0
    · rw [e] at hu
      rw [← h2, e] at hz
      simp at hu hz
      subst hu hz
      exact hh.step hg (fun r e => .inr e) hat'
    · rw [List.getElem?_eq_none (by simp; omega)] at hu
      cases hu
theorem small_wf {x : Int} (h : 1 ≤ x ∧ x ≤ 6) : (Lit.int .i64 x).wf = true := by
  rcases (show x = 1 ∨ x = 2 ∨ x = 3 ∨ x = 4 ∨ x = 5 ∨ x = 6 by omega) with rfl | rfl | rfl | rfl | rfl | rfl <;> decide
theorem OwnM.mat {w : World} {B : Nat} {v : Value} {zss : List (List Int)} (h : OwnM w B v zss) (hl : zss.length ≤ 1048576) (hs : ∀ z ∈ zss, Short z) :
    ∃ A c, v = .slice A zss.length c ∧ zss.length ≤ c ∧ c ≤ maxLen ∧ Mat w w.heap.size A zss.length zss ∧ SzOk zss zss.length := by
  obtain ⟨cs, h1, h2, h3⟩ := h
  obtain ⟨A, c, rfl, hc1, hc2, hr⟩ := owns_row h1
  have hz : ∀ k, k < zss.length → zss[k]? = some (zss.getD k []) := fun k hk => by simp [List.getD_eq_getElem?_getD, hk]
  have hS : ∀ k, k < zss.length → Short (zss.getD k []) := fun k hk => hs _ (List.mem_of_getElem? (hz k hk))
  refine ⟨A, c, rfl, hc1, hc2, ⟨rfl, ?_, fun k hk => ?_, fun k hk z hzm => small_wf ((hS k hk).2 z hzm)⟩, hl, fun k hk => Nat.le_trans (hS k hk).1 (by omega)⟩
  · rintro rfl
    rcases Nat.eq_zero_or_pos zss.length with h0 | h0
    · exact h0
    · obtain ⟨b, off, e, _⟩ := hr (by intro e; rw [e] at h2; simp at h2; first | done | omega)
      cases e
  · obtain ⟨u, hu⟩ : ∃ u, cs[k]? = some u := ⟨cs[k]'(by omega), by first | (simp; done) | (simp; omega)⟩
    obtain ⟨b, off, rfl, hb, hcell⟩ := hr (by rintro rfl; simp at hu)
    have hcu := hcell k u hu
    rcases h3 k u _ hu (hz k hk) with ⟨rfl, e⟩ | ⟨g, c', rfl, e2, e3, e4, e5, e6, e7⟩
    · refine ⟨b, off, none, 0, rfl, hb, ?_, by rw [e]; simp, Nat.zero_le _, by rw [e]; exact Row.empty, fun _ => e⟩
      rw [hcu, e]
      rfl
    · refine ⟨b, off, some ⟨g, 0, none⟩, c', rfl, hb, hcu, e2, e3, fun _ => ⟨g, 0, rfl, e5, fun j y hy => ?_⟩, fun e => by cases e⟩
      rw [Nat.zero_add]
      rw [List.getElem?_map] at hy
      cases hj : (zss.getD k [])[j]? with
      | none => rw [hj] at hy; cases hy
      | some x0 =>
        rw [hj] at hy
        cases hy
        exact e7 j x0 hj
end Go.Proofs.Ytiepoadnncnbkaa
