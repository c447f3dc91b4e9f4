/- The law FnWeightsValid: its walk. -/
import Derived.Test.YtagiiclmlpflkaaWts1
import Derived.Test.YtagiiclmlpflkaaDr1
namespace Go.Proofs.Ytagiiclmlpflkaa
open Go.RowKit
set_option maxHeartbeats 4000000

theorem own_form {w : World} {B : Nat} {v : Value} {zs : List Int} (h : OwnI w B v zs) (hn : 0 < zs.length) : ∃ g cap, v = .slice (some ⟨g, 0, none⟩) zs.length cap ∧ B ≤ g ∧ g < w.heap.size ∧ zs.length ≤ cap ∧
    (∀ k, k < zs.length → ∃ u, w.cell? ⟨g, k, none⟩ = some (.int .i64 u)) ∧ (∀ k, w.frozen? ⟨g, k, none⟩ = false) := by
  unfold OwnI at h
  rcases h.2 with ⟨_, h0⟩ | ⟨g, cap, cur, rfl, h2, h3, h4, h5, h6, h7⟩
  · omega
  · have hlt : g < w.heap.size := by
      rcases Nat.lt_or_ge g w.heap.size with hlt | hge
      · exact hlt
      · rw [Array.getElem?_eq_none hge] at h3; cases h3
    refine ⟨g, cap, rfl, h2, hlt, h4, fun k hk => ⟨zs[k], ?_⟩, fun k => h.frozenAt k⟩
    have := h.cellAt k (by omega)
    rw [this]
    simp [hk]
theorem own_set {w : World} {B g cap K : Nat} {zs : List Int} (h : OwnI w B (.slice (some ⟨g, 0, none⟩) zs.length cap) zs) (_hK : K < zs.length) (x : Int) : OwnI (w.setCell ⟨g, K, none⟩ (.int .i64 x)) B (.slice (some ⟨g, 0, none⟩) zs.length cap) (zs.set K x) := by
  unfold OwnI at h ⊢
  have := World.ownsRow.stored h K (.int .i64 x)
  rw [List.length_set, List.map_set]
  exact this.1
theorem own_empty' {w : World} {H B : Nat} (hH : w.heap.size = H) (hB : B ≤ H) : OwnI (w.alloc (.cells #[] 3)) B (.slice (some ⟨H, 0, none⟩) 0 0) [] := by
  subst hH
  exact own_empty w hB
theorem own_row {w : World} {B n c : Nat} {A : Option Addr} {zs : List Int} (h : OwnI w B (.slice A n c) zs) : Row w w.heap.size A (zs.map (Value.int .i64)) := by
  obtain ⟨A', c', e, _, _, hr⟩ := owns_row h
  injection e with e1 e2 e3
  subst e1
  exact hr
theorem own_far {w : World} {B : Nat} {v : Value} {zs : List Int} {p : Addr} (h : OwnI w B v zs) (hp : ∀ k, v.ownBlock = some k → k ≠ p.block) (u : Value) : OwnI (w.setCell p u) B v zs := by
  refine World.ownsRow.kept (row := some p.block) h ⟨rfl, rfl, rfl, by simp, fun i _ hne => Below.heap_setCell w p u i (fun e => hne (by rw [e]))⟩ ?_
  cases hv : v.ownBlock with
  | none => exact .inl rfl
  | some k => exact .inr (fun e => hp k hv (by injection e))

theorem wts_iff {zs : List Int} : wtsB zs = true ↔ (∀ z ∈ zs, 0 ≤ z ∧ z ≤ 9) ∧ 1 ≤ zs.length ∧ zs.length ≤ 6 := by
  unfold wtsB
  rw [Bool.and_eq_true, List.all_eq_true, inB_iff]
  simp only [inB_iff]
  constructor
  · intro h; exact ⟨h.1, by omega, by omega⟩
  · intro h; exact ⟨h.1, by omega, by omega⟩
theorem wts_set {zs : List Int} (h : wtsB zs = true) (K : Nat) {x : Int} (h0 : 0 ≤ x) (h9 : x ≤ 9) : wtsB (zs.set K x) = true := by
  rw [wts_iff] at h ⊢
  refine ⟨fun z hz => ?_, by simpa using h.2⟩
  rcases List.mem_or_eq_of_mem_set hz with h1 | h1
  · exact h.1 z h1
  · subst h1; omega
theorem wts_bad {zs : List Int} {K : Nat} (hK : K < zs.length) {x : Int} (h : x < 0 ∨ 9 < x) : wtsB (zs.set K x) = false := by
  cases hB : wtsB (zs.set K x)
  · rfl
  · rw [wts_iff] at hB
    have := hB.1 x (List.mem_set hK x)
    omega

end Go.Proofs.Ytagiiclmlpflkaa
