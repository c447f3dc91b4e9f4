/- Append of replies at a step of a region that draws its order. -/
import Derived.Test.YtagiiclmlpflkaaCiL
import Derived.Deep.AppendLies
import Derived.Deep.RegionHeld3
namespace Go.Proofs.Ytagiiclmlpflkaa
open Go.RowKit
set_option maxHeartbeats 2000000

theorem step_append_recs {W : World} {ops : Array Oper} {o : Oper} {a : Act} {K : Act → World → Prop} {Q : Exit → Act → World → Prop} {E : Prop} (hw : Region.wanted o (yielded ops a.tmps) = true) (s x : Operand)
    (ho : o.op = .call { callee := .builtin .append, args := #[s, x], argTypes := #[23, 23] })
    (B : Nat) (v : Value) (n : Nat) (fl : List Int) (hs : a.eval s = v) (hown : OwnR W B v n fl) (A : Option Addr) (m c : Nat) (ys : List Int) (hx : a.eval x = .slice A m c)
    (hr0 : ∃ B2, Row W B2 A (ys.map (Value.int .i64))) (hm : ys.length = m * 3) (hA : A = none → m = 0)
    (hn : n ≤ 10000000) (hm2 : m ≤ 10000000) (hbase : B ≤ W.heap.size)
    (h : ∀ v' w', OwnR w' B v' (n + m) (fl ++ ys) → Below B W w' → W.grownBy w' v.ownBlock → (v'.ownBlock = v.ownBlock ∨ v'.ownBlock = some W.heap.size) → K (a.put o.dst v') w') :
    if Region.wanted o (yielded ops a.tmps) = true then Oper.wp Try.prog o a W K Q else E := by
  rw [if_pos hw]
  obtain ⟨B2, hr⟩ := hr0
  obtain ⟨i0, hi, hz0, hz1, hz2⟩ := info_parts acceptor_info
  have hown' : W.ownsRow B 29 3 v n (fl.map (Value.int .i64)) := hown.2
  have fin : ∀ v' w', w'.ownsRow B 29 3 v' (n + m) (fl.map (Value.int .i64) ++ ys.map (Value.int .i64)) → OwnR w' B v' (n + m) (fl ++ ys) := by
    intro v' w' ho'
    refine ⟨by simp [hown.1, hm]; omega, ?_⟩
    simpa using ho'
  rcases A with _ | ad
  · obtain rfl := hA rfl
    have hn0 : ys = [] := List.eq_nil_of_length_eq_zero (by omega)
    subst hn0
    have hrun := run_append_of_nil (P := Try.prog) W B 23 o.type 29 i0 3 Try.underlying23 hi v n _ hown' c
    unfold Oper.wp execOp
    simp only [ho, resolve, invoke, builtin, Sem.run_bind, Sem.run_pure, Result.andThen_ok, List.map_toArray, List.map_cons, List.map_nil, hs, hx, hrun]
    exact h v W (by rw [List.append_nil]; exact hown) (Below.refl _ _) (World.grownBy.refl W _) (.inl rfl)
  · obtain ⟨v', w', hrun, ho', hg, _, hat⟩ := run_append_own_at (P := Try.prog) W B 23 o.type 29 i0 _ 3 24 Try.underlying23 hi hz0 hz1 hz2 rfl (by omega) v n _ hown' ad m c (ys.map (Value.int .i64)) (by simp [hm]) (by
      intro j u hj
      obtain ⟨b, off, e1, _, hc⟩ := hr (by intro e; rw [e] at hj; simp at hj)
      cases e1
      rw [addr_add]
      exact hc j u hj) (by simp [Value.oneCell']) (by unfold maxLen; omega) (by omega) hbase
    unfold Oper.wp execOp
    simp only [ho, resolve, invoke, builtin, Sem.run_bind, Sem.run_pure, Result.andThen_ok, List.map_toArray, List.map_cons, List.map_nil, hs, hx, hrun]
    exact h v' w' (fin _ _ ho') ((Below.refl _ _).grown hg hbase (fun k hk => (hown'.lt k hk).1)) hg hat

theorem ownr_made {w : World} {H B : Nat} (hH : w.heap.size = H) (hB : B ≤ H) (p q r : Int) : OwnR (w.alloc (.cells #[.int .i64 p, .int .i64 q, .int .i64 r] 29)) B (.slice (some ⟨H, 0, none⟩) 1 1) 1 [p, q, r] := by
  subst hH
  exact ⟨rfl, by simp, .inr ⟨w.heap.size, 1, _, rfl, hB, heap_alloc_new w _, Nat.le_refl _, by unfold maxLen; omega, by simp, by simp⟩⟩
/-- One reply that was just made, as a row. -/
theorem rec_made {w : World} {p q r : Int} {H : Nat} (hH : w.heap.size = H) (t : TypeId) : Row (w.alloc (.cells #[.int .i64 p, .int .i64 q, .int .i64 r] t)) (H + 1) (some ⟨H, 0, none⟩) ([p, q, r].map (Value.int .i64)) := by
  subst hH
  intro _
  refine ⟨w.heap.size, 0, rfl, by omega, fun j u hj => ?_⟩
  have := cell_of_row (w.alloc (.cells #[.int .i64 p, .int .i64 q, .int .i64 r] t)) w.heap.size j #[.int .i64 p, .int .i64 q, .int .i64 r] t (0, 0) (heap_alloc_new w _)
  rw [Nat.zero_add, this]
  simpa using hj
theorem rec_grown {w w' : World} {B H c : Nat} {A : Addr} {n : Nat} {cs : List Value} (h : Row w B (some A) cs) (hB : B ≤ w.heap.size) (hg : w.grownBy w' (Value.slice (some ⟨H, 0, none⟩) n c).ownBlock) (hne : A.block ≠ H) : Row w' B (some A) cs := by
  intro hc
  obtain ⟨b, off, e, hlt, hcell⟩ := h hc
  refine ⟨b, off, e, hlt, fun j u hu => ?_⟩
  rw [hg.cell_far ⟨b, off + j, none⟩ (by show b < _; omega) (by
    intro e2
    injection e with e
    subst e
    simp [Value.ownBlock] at e2
    exact hne e2)]
  exact hcell j u hu
theorem keep3 {w w' : World} {K b : Nat} {x y z : Value} (h : Below K w w') (hlt : b < K) (h0 : w.cell? ⟨b, 0, none⟩ = some x) (h1 : w.cell? ⟨b, 1, none⟩ = some y) (h2 : w.cell? ⟨b, 2, none⟩ = some z) :
    Below K w w' ∧ w'.cell? ⟨b, 0, none⟩ = some x ∧ w'.cell? ⟨b, 1, none⟩ = some y ∧ w'.cell? ⟨b, 2, none⟩ = some z := ⟨h, by rw [h.cell hlt]; exact h0, by rw [h.cell hlt]; exact h1, by rw [h.cell hlt]; exact h2⟩
theorem implOwnR_is {B n : Nat} {v : Value} {fl : List Int} {o : Int} {w : World} (h : OwnR w B v n fl) (hn : n ≤ 1048576) {r : Int} {q : Bool} (hr : chV fl n o = r) (hq : chB fl n o = q) :
    Calls Try.prog 7 #[v, .int .i64 o] w fun e w' => e = .returned (.tuple #[.int .i64 r, .bool q]) ∧ Below w.heap.size w w' := by
  obtain ⟨A, c, rfl, _, _, hrow⟩ := owns_row h.2
  exact implChoose_is A n c fl o w _ hrow (Nat.le_refl _) h.1 hn hr hq
end Go.Proofs.Ytagiiclmlpflkaa
