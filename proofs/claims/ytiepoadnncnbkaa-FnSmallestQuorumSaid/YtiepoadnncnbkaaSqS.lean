/- Append of integers at a step of a region that draws its order. -/
import Derived.Test.YtiepoadnncnbkaaSqM
import Derived.Deep.RegionHeld3
namespace Go.Proofs.Ytiepoadnncnbkaa
open Go.RowKit
set_option maxHeartbeats 2000000

/-- append of integers at a step of a region that draws its order. -/
theorem step_append_ints {W : World} {ops : Array Oper} {o : Oper} {a : Act} {K : Act → World → Prop} {Q : Exit → Act → World → Prop} {E : Prop} (hw : Region.wanted o (yielded ops a.tmps) = true) (s x : Operand)
    (ho : o.op = .call { callee := .builtin .append, args := #[s, x], argTypes := #[27, 27] })
    (B : Nat) (v : Value) (zs : List Int) (hs : a.eval s = v) (hown : OwnI W B v zs) (A : Option Addr) (m c : Nat) (ys : List Int) (hx : a.eval x = .slice A m c)
    (hr0 : ∃ B2, Row W B2 A (ys.map (Value.int .i64))) (hm : ys.length = m) (hA : A = none → m = 0)
    (hn : zs.length ≤ 10000000) (hm2 : m ≤ 10000000) (hbase : B ≤ W.heap.size)
    (h : ∀ v' w', OwnI w' B v' (zs ++ ys) → Below B W w' → W.grownBy w' v.ownBlock → (v'.ownBlock = v.ownBlock ∨ v'.ownBlock = some W.heap.size) → K (a.put o.dst v') w') :
    if Region.wanted o (yielded ops a.tmps) = true then Oper.wp Try.prog o a W K Q else E := by
  rw [if_pos hw]
  obtain ⟨B2, hr⟩ := hr0
  obtain ⟨i0, hi, hz0, hz1, hz2⟩ := info_parts int_inf
  have hown' : W.ownsRow B 3 1 v zs.length (zs.map (Value.int .i64)) := hown
  have fin : ∀ v' w', w'.ownsRow B 3 1 v' (zs.length + m) (zs.map (Value.int .i64) ++ ys.map (Value.int .i64)) → OwnI w' B v' (zs ++ ys) := by
    intro v' w' ho'
    unfold OwnI
    rw [← hm] at ho'
    simpa using ho'
  rcases A with _ | ad
  · obtain rfl := hA rfl
    have hn0 : ys = [] := List.eq_nil_of_length_eq_zero hm
    subst hn0
    have hrun := run_append_of_nil (P := Try.prog) W B 27 o.type 3 i0 1 Try.underlying27 hi v zs.length _ hown' c
    unfold Oper.wp execOp
    simp only [ho, resolve, invoke, builtin, Sem.run_bind, Sem.run_pure, Result.andThen_ok, List.map_toArray, List.map_cons, List.map_nil, hs, hx, hrun]
    exact h v W (by rw [List.append_nil]; exact hown) (Below.refl _ _) (World.grownBy.refl W _) (.inl rfl)
  · obtain ⟨v', w', hrun, ho', hg, _, hat⟩ := run_append_own_at (P := Try.prog) W B 27 o.type 3 i0 (.int .i64 0) 1 8 Try.underlying27 hi hz0 hz1 hz2 rfl (by omega) v zs.length _ hown' ad m c (ys.map (Value.int .i64)) (by simp [hm]) (by
      intro j u hj
      obtain ⟨b, off, e1, _, hc⟩ := hr (by intro e; rw [e] at hj; simp at hj)
      cases e1
      rw [addr_add]
      exact hc j u hj) (by simp [Value.oneCell']) (by unfold maxLen; omega) (by omega) hbase
    unfold Oper.wp execOp
    simp only [ho, resolve, invoke, builtin, Sem.run_bind, Sem.run_pure, Result.andThen_ok, List.map_toArray, List.map_cons, List.map_nil, hs, hx, hrun]
    exact h v' w' (fin _ _ ho') ((Below.refl _ _).grown hg hbase (fun k hk => (hown'.lt k hk).1)) hg hat

/-- A row of integers that was just made. -/
theorem row_made {w : World} {x : Int} {H : Nat} (hH : w.heap.size = H) (t : TypeId) : Row (w.alloc (.cells #[.int .i64 x] t)) (H + 1) (some ⟨H, 0, none⟩) ([x].map (Value.int .i64)) := by
  subst hH
  intro _
  refine ⟨w.heap.size, 0, rfl, by omega, fun j u hj => ?_⟩
  have := cell_of_row (w.alloc (.cells #[.int .i64 x] t)) w.heap.size j #[.int .i64 x] t (0, 0) (heap_alloc_new w _)
  rw [Nat.zero_add, this]
  simpa using hj
theorem row_grown {w w' : World} {B H c : Nat} {A : Addr} {n : Nat} {cs : List Value} (h : Row w B (some A) cs) (hB : B ≤ w.heap.size) (hg : w.grownBy w' (Value.slice (some ⟨H, 0, none⟩) n c).ownBlock) (hne : A.block ≠ H) : Row w' B (some A) cs := by
  intro hc
  obtain ⟨b, off, e, hlt, hcell⟩ := h hc
  refine ⟨b, off, e, hlt, fun j u hu => ?_⟩
  rw [hg.cell_far ⟨b, off + j, none⟩ (by show b < _; omega) (by
    intro e2
    injection e with e
    subst e
    simp [Value.ownBlock] at e2
    exact hne e2)]
  exact hcell j u hu
theorem own_alloc {w : World} {B : Nat} {v : Value} {zs : List Int} (h : OwnI w B v zs) (o : Obj) : OwnI (w.alloc o) B v zs := World.ownsRow.alloc h o
theorem keep_of {w w' : World} {K b o : Nat} {v : Value} (h : Below K w w') (hlt : b < K) (hc : w.cell? ⟨b, o, none⟩ = some v) : Below K w w' ∧ w'.cell? ⟨b, o, none⟩ = some v := ⟨h, by rw [h.cell hlt]; exact hc⟩
end Go.Proofs.Ytiepoadnncnbkaa
