/- The law FnSetValid: what it says of lists. Appends at a step of a region that draws its order. -/
import Derived.Test.YtagiiclmlpflkaaWts2
import Derived.Test.YtagiiclmlpflkaaSet5
import Derived.Deep.AppendLies
import Derived.Deep.RegionHeld3
namespace Go.Proofs.Ytagiiclmlpflkaa
open Go.RowKit
set_option maxHeartbeats 1000000

theorem set_okAt {zs : List Int} (h : setB zs = true) {k : Nat} (hk : k < zs.length) : okAt zs k = true := by
  unfold setB okTo at h
  exact List.all_eq_true.1 h k (List.mem_range.2 hk)
theorem set_of {zs : List Int} (h : ∀ k, k < zs.length → okAt zs k = true) : setB zs = true := by
  unfold setB okTo
  exact List.all_eq_true.2 fun k hk => h k (List.mem_range.1 hk)
theorem set_take {zs : List Int} (h : setB zs = true) (k : Nat) : setB (zs.take k) = true := by
  refine set_of fun j hj => ?_
  rw [List.length_take] at hj
  have h1 := set_okAt h (k := j) (by omega)
  have e : ∀ i, i ≤ j → (zs.take k).getD i 0 = zs.getD i 0 := by
    intro i hi
    rw [List.getD_eq_getElem?_getD, List.getD_eq_getElem?_getD, List.getElem?_take, if_pos (by omega)]
  unfold okAt at h1 ⊢
  rw [e j (Nat.le_refl _), e (j - 1) (by omega)]
  exact h1
theorem getD_app_last (zs : List Int) (x : Int) : (zs ++ [x]).getD zs.length 0 = x := by simp [List.getD_eq_getElem?_getD]
theorem getD_app_left (zs : List Int) (x : Int) {k : Nat} (h : k < zs.length) : (zs ++ [x]).getD k 0 = zs.getD k 0 := by
  simp [List.getD_eq_getElem?_getD, List.getElem?_append_left h]
theorem set_seven (zs : List Int) : setB (zs ++ [7]) = false := by
  refine set_bad _ zs.length (by simp) ?_
  unfold okAt
  rw [getD_app_last]
  rfl
theorem set_twice {zs : List Int} {q : Nat} (hq : zs.length = q + 1) : setB (zs ++ [zs.getD q 0]) = false := by
  refine set_bad _ zs.length (by simp) ?_
  unfold okAt
  rw [getD_app_last, hq, show q + 1 - 1 = q by omega, getD_app_left zs _ (by omega)]
  simp
theorem set_ge {zs : List Int} (h : setB zs = true) : ∀ k, k < zs.length → (k : Int) + 1 ≤ zs.getD k 0
  | 0, hk => by have := set_at h hk; omega
  | k + 1, hk => by
    have h0 := set_ge h k (by omega)
    have h1 := set_okAt h hk
    unfold okAt at h1
    simp at h1
    have := h1.2
    simp only [List.getD_eq_getElem?_getD] at h0 ⊢
    omega
theorem set_len {zs : List Int} (h : setB zs = true) : zs.length ≤ 6 := by
  rcases Nat.lt_or_ge 6 zs.length with h1 | h1
  · have h2 := set_ge h 6 h1
    have h3 := set_at h h1
    omega
  · exact h1

/-- append of integers at a step of a region that draws its order. -/
theorem step_append_ints {W : World} {ops : Array Oper} {o : Oper} {a : Act} {K : Act → World → Prop} {Q : Exit → Act → World → Prop} {E : Prop} (hw : Region.wanted o (yielded ops a.tmps) = true) (s x : Operand)
    (ho : o.op = .call { callee := .builtin .append, args := #[s, x], argTypes := #[31, 31] })
    (B : Nat) (v : Value) (zs : List Int) (hs : a.eval s = v) (hown : OwnI W B v zs) (A : Option Addr) (m c : Nat) (ys : List Int) (hx : a.eval x = .slice A m c)
    (hr0 : ∃ B2, Row W B2 A (ys.map (Value.int .i64))) (hm : ys.length = m) (hA : A = none → m = 0)
    (hn : zs.length ≤ 10000000) (hm2 : m ≤ 10000000) (hbase : B ≤ W.heap.size)
    (h : ∀ v' w', OwnI w' B v' (zs ++ ys) → Below B W w' → W.grownBy w' v.ownBlock → (v'.ownBlock = v.ownBlock ∨ v'.ownBlock = some W.heap.size) → K (a.put o.dst v') w') :
    if Region.wanted o (yielded ops a.tmps) = true then Oper.wp Try.prog o a W K Q else E := by
  rw [if_pos hw]
  obtain ⟨B2, hr⟩ := hr0
  obtain ⟨i0, hi, hz0, hz1, hz2⟩ := info_parts int_inf
  have hown' : W.ownsRow B 3 1 v zs.length (zs.map (Value.int .i64)) := hown
  have fin : ∀ v' w', w'.ownsRow B 3 1 v' (zs.length + m) (zs.map (Value.int .i64) ++ ys.map (Value.int .i64)) → OwnI w' B v' (zs ++ ys) := by
    intro v' w' ho'
    unfold OwnI
    rw [← hm] at ho'
    simpa using ho'
  rcases A with _ | ad
  · obtain rfl := hA rfl
    have hn0 : ys = [] := List.eq_nil_of_length_eq_zero hm
    subst hn0
    have hrun := run_append_of_nil (P := Try.prog) W B 31 o.type 3 i0 1 Try.underlying31 hi v zs.length _ hown' c
    unfold Oper.wp execOp
    simp only [ho, resolve, invoke, builtin, Sem.run_bind, Sem.run_pure, Result.andThen_ok, List.map_toArray, List.map_cons, List.map_nil, hs, hx, hrun]
    exact h v W (by rw [List.append_nil]; exact hown) (Below.refl _ _) (World.grownBy.refl W _) (.inl rfl)
  · obtain ⟨v', w', hrun, ho', hg, _, hat⟩ := run_append_own_at (P := Try.prog) W B 31 o.type 3 i0 (.int .i64 0) 1 8 Try.underlying31 hi hz0 hz1 hz2 rfl (by omega) v zs.length _ hown' ad m c (ys.map (Value.int .i64)) (by simp [hm]) (by
      intro j u hj
      obtain ⟨b, off, e1, _, hc⟩ := hr (by intro e; rw [e] at hj; simp at hj)
      cases e1
      rw [addr_add]
      exact hc j u hj) (by simp [Value.oneCell']) (by unfold maxLen; omega) (by omega) hbase
    unfold Oper.wp execOp
    simp only [ho, resolve, invoke, builtin, Sem.run_bind, Sem.run_pure, Result.andThen_ok, List.map_toArray, List.map_cons, List.map_nil, hs, hx, hrun]
    exact h v' w' (fin _ _ ho') ((Below.refl _ _).grown hg hbase (fun k hk => (hown'.lt k hk).1)) hg hat

/-- A row of integers that was just made. -/
theorem row_made {w : World} {x : Int} {H : Nat} (hH : w.heap.size = H) (t : TypeId) : Row (w.alloc (.cells #[.int .i64 x] t)) (H + 1) (some ⟨H, 0, none⟩) ([x].map (Value.int .i64)) := by
  subst hH
  intro _
  refine ⟨w.heap.size, 0, rfl, by omega, fun j u hj => ?_⟩
  have := cell_of_row (w.alloc (.cells #[.int .i64 x] t)) w.heap.size j #[.int .i64 x] t (0, 0) (heap_alloc_new w _)
  rw [Nat.zero_add, this]
  simpa using hj
theorem row_grown {w w' : World} {B H c : Nat} {A : Addr} {n : Nat} {cs : List Value} (h : Row w B (some A) cs) (hB : B ≤ w.heap.size) (hg : w.grownBy w' (Value.slice (some ⟨H, 0, none⟩) n c).ownBlock) (hne : A.block ≠ H) : Row w' B (some A) cs := by
  intro hc
  obtain ⟨b, off, e, hlt, hcell⟩ := h hc
  refine ⟨b, off, e, hlt, fun j u hu => ?_⟩
  rw [hg.cell_far ⟨b, off + j, none⟩ (by show b < _; omega) (by
    intro e2
    injection e with e
    subst e
    simp [Value.ownBlock] at e2
    exact hne e2)]
  exact hcell j u hu
theorem own_alloc {w : World} {B : Nat} {v : Value} {zs : List Int} (h : OwnI w B v zs) (o : Obj) : OwnI (w.alloc o) B v zs := World.ownsRow.alloc h o
theorem keep_of {w w' : World} {K b o : Nat} {v : Value} (h : Below K w w') (hlt : b < K) (hc : w.cell? ⟨b, o, none⟩ = some v) : Below K w w' ∧ w'.cell? ⟨b, o, none⟩ = some v := ⟨h, by rw [h.cell hlt]; exact hc⟩
end Go.Proofs.Ytagiiclmlpflkaa
