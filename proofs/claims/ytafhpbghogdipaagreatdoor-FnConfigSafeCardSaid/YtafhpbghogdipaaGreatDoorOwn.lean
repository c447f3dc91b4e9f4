/- A slice that the call itself made: what it owns, and the append of one element, whatever the element's size. -/
import Derived.Test.YtafhpbghogdipaaGreatDoorOpen
import Derived.Maps.AppendAt
import Derived.OwnWalk
import Derived.Laws.OwnMore
import Derived.Laws.Rows
import Derived.Deep.Draws
namespace Go.Proofs.YtafhpbghogdipaaGreatDoor
open Go.RowKit

/-- The append of one element: it was laid in a new block ahead of it. -/
theorem wpl_append1 {P : Program} {W : World} {ops : Array Oper} {rest : List Oper} {o : Oper} {a : Act} {Q : Exit → Act → World → Prop} {tt : TypeId} (hgd : o.guard = none) (s x : Operand) (t : TypeId)
    (ho : o.op = .call { callee := .builtin .append, args := #[s, x], argTypes := #[t, t] })
    (base : Nat) (e : TypeId) (i : TypeInfo) (z : Value) (size bytes : Nat) (ht : P.underlying t = some (.slice e)) (hi : P.info? e = some i) (hz : i.zero = some z)
    (hsize : i.size = size) (hby : i.bytes = bytes) (hzs : z.cells.size = size) (hsz : 0 < size)
    (v : Value) (n : Nat) (xs : List Value) (hs : a.eval s = v) (hown : W.ownsRow base e size v n xs)
    (cs : Array Value) (hcs : cs.size = size) (hx : a.eval x = .slice (some ⟨W.heap.size, 0, none⟩) 1 1) (h1 : ∀ u ∈ cs.toList, u.oneCell' = true)
    (hn : n ≤ 10000000) (hb : bytes ≤ 1000) (hbase : base ≤ W.heap.size)
    (h : ∀ v' w', w'.ownsRow base e size v' (n + 1) (xs ++ cs.toList) → Below base W w' → W.grownBy w' v.ownBlock → (v'.ownBlock = v.ownBlock ∨ v'.ownBlock = some (W.heap.size + 1)) → wpList P ops Q rest (a.put o.dst v') w') :
    wpList P ops Q (o :: rest) a (W.alloc (.cells cs tt)) := by
  refine wpList_append_own_at _ hgd s x t ho base e i z size bytes ht hi hz hsize hby hzs hsz v n xs hs (hown.alloc _) ⟨W.heap.size, 0, none⟩ 1 1 cs.toList hx (by simp [hcs]) ?_ h1 (by unfold maxLen; omega) ?_ (by simp; omega) ?_
  · intro j u hj
    have hc := cell_of_row (W.alloc (.cells cs tt)) W.heap.size j cs tt (0, 0) (heap_alloc_new W _)
    have he : (⟨W.heap.size, 0, none⟩ : Addr).add j = ⟨W.heap.size, j, none⟩ := by
      unfold Addr.add
      split
      · subst_vars; rfl
      · simp
    rw [he, hc]
    simpa using hj
  · have := Nat.mul_le_mul (show n + 1 ≤ 10000001 by omega) hb
    omega
  · intro v' w' hown' hg _ hat
    refine h v' w' hown' ?_ ?_ ?_
    · exact ((Below.refl _ _).alloc hbase _).grown hg (by simp; omega) (fun k hk => (hown.lt k hk).1)
    · exact (World.grownBy_alloc W _ _).trans hg
    · simpa using hat

/-- The slice v owns the integers zs, from block B on. -/
def OwnI (w : World) (B : Nat) (v : Value) (zs : List Int) : Prop := w.ownsRow B 3 1 v zs.length (zs.map (Value.int .i64))
theorem int_inf : (Tryz.prog.info? 3).map (fun i => (i.zero, i.size, i.bytes)) = some (some (.int .i64 0), 1, 8) := by kernel_rfl
theorem wpl_append_int {W : World} {ops : Array Oper} {rest : List Oper} {o : Oper} {a : Act} {Q : Exit → Act → World → Prop} {tt : TypeId} (hgd : o.guard = none) (s x : Operand)
    (ho : o.op = .call { callee := .builtin .append, args := #[s, x], argTypes := #[62, 62] })
    (B : Nat) (v : Value) (zs : List Int) (q : Int) (hs : a.eval s = v) (hown : OwnI W B v zs) (hx : a.eval x = .slice (some ⟨W.heap.size, 0, none⟩) 1 1)
    (hn : zs.length ≤ 10000000) (hbase : B ≤ W.heap.size)
    (h : ∀ v' w', OwnI w' B v' (zs ++ [q]) → Below B W w' → W.grownBy w' v.ownBlock → (v'.ownBlock = v.ownBlock ∨ v'.ownBlock = some (W.heap.size + 1)) → wpList Tryz.prog ops Q rest (a.put o.dst v') w') :
    wpList Tryz.prog ops Q (o :: rest) a (W.alloc (.cells #[.int .i64 q] tt)) := by
  obtain ⟨i0, hi, hz0, hz1, hz2⟩ := info_parts int_inf
  refine wpl_append1 hgd s x 62 ho B 3 i0 (.int .i64 0) 1 8 Tryz.underlying62 hi hz0 hz1 hz2 rfl (by omega) v zs.length _ hs hown #[.int .i64 q] rfl hx (by simp [Value.oneCell']) hn (by omega) hbase ?_
  intro v' w' hown' h1 h2 h3
  refine h v' w' ?_ h1 h2 h3
  unfold OwnI
  simpa using hown'

/-- append from whatever source: nil, empty or not. -/
theorem addr_add (b off j : Nat) : (⟨b, off, none⟩ : Addr).add j = ⟨b, off + j, none⟩ := by
  unfold Addr.add
  split
  · subst_vars; rfl
  · rfl
theorem run_append_of_nil {P : Program} (w : World) (base : Nat) (t ty e : TypeId) (i : TypeInfo) (size : Nat) (ht : P.underlying t = some (.slice e)) (hi : P.info? e = some i)
    (v : Value) (n : Nat) (xs : List Value) (hown : w.ownsRow base e size v n xs) (c : Nat) : (Builtin.append_ #[t, t] ty #[v, .slice none 0 c]).run P w = .ok v w := by
  rcases hown.2 with ⟨rfl, rfl⟩ | ⟨g, cap, cur, rfl, _, _, hnc, _⟩
  · simp [Builtin.append_, run_underlying ht, sizeOf, typeInfo, hi, Builtin.lenOf, Builtin.firstCells]
  · simp [Builtin.append_, run_underlying ht, sizeOf, typeInfo, hi, Builtin.lenOf, Builtin.firstCells, hnc, storeCells]
theorem wpl_append_all {P : Program} {W : World} {ops : Array Oper} {rest : List Oper} {o : Oper} {a : Act} {Q : Exit → Act → World → Prop} (hgd : o.guard = none) (s x : Operand) (t : TypeId)
    (ho : o.op = .call { callee := .builtin .append, args := #[s, x], argTypes := #[t, t] })
    (base : Nat) (e : TypeId) (i : TypeInfo) (z : Value) (size bytes : Nat) (ht : P.underlying t = some (.slice e)) (hi : P.info? e = some i) (hz : i.zero = some z)
    (hsize : i.size = size) (hby : i.bytes = bytes) (hzs : z.cells.size = size) (hsz : 0 < size)
    (v : Value) (n : Nat) (xs : List Value) (hs : a.eval s = v) (hown : W.ownsRow base e size v n xs)
    (B : Nat) (A : Option Addr) (m c : Nat) (news : List Value) (hx : a.eval x = .slice A m c) (hr : Row W B A news) (hm : news.length = m * size) (hA : A = none → m = 0) (h1 : ∀ u ∈ news, u.oneCell' = true)
    (hn : n ≤ 10000000) (hm2 : m ≤ 10000000) (hb : bytes ≤ 1000) (hbase : base ≤ W.heap.size)
    (h : ∀ v' w', w'.ownsRow base e size v' (n + m) (xs ++ news) → Below base W w' → W.grownBy w' v.ownBlock → (v'.ownBlock = v.ownBlock ∨ v'.ownBlock = some W.heap.size) → wpList P ops Q rest (a.put o.dst v') w') :
    wpList P ops Q (o :: rest) a W := by
  have hbytes : (n + m) * bytes ≤ 140737488355328 := by
    have := Nat.mul_le_mul (show n + m ≤ 20000000 by omega) hb
    omega
  have hmax : n + m ≤ maxLen := by unfold maxLen; omega
  rcases A with _ | ad
  · obtain rfl := hA rfl
    have hn0 : news = [] := List.eq_nil_of_length_eq_zero (by simpa using hm)
    subst hn0
    refine wpList_plain hgd fun K hK => ?_
    have hrun := run_append_of_nil (P := P) W base t o.type e i size ht hi v n xs hown c
    unfold Oper.wp execOp
    simp only [ho, resolve, invoke, builtin, Sem.run_bind, Sem.run_pure, Result.andThen_ok, List.map_toArray, List.map_cons, List.map_nil, hs, hx, hrun]
    exact hK _ _ (h v W (by simpa using hown) (Below.refl _ _) (World.grownBy.refl W _) (.inl rfl))
  · refine wpList_append_own_at W hgd s x t ho base e i z size bytes ht hi hz hsize hby hzs hsz v n xs hs hown ad m c news hx hm ?_ h1 hmax hbytes hbase ?_
    · intro j u hj
      obtain ⟨b, off, e1, _, hc⟩ := hr (by rintro rfl; simp at hj)
      cases e1
      rw [addr_add]
      exact hc j u hj
    · intro v' w' hown' hg _ hat
      exact h v' w' hown' ((Below.refl _ _).grown hg hbase (fun k hk => (hown.lt k hk).1)) hg hat
theorem wpl_append_ints {W : World} {ops : Array Oper} {rest : List Oper} {o : Oper} {a : Act} {Q : Exit → Act → World → Prop} (hgd : o.guard = none) (s x : Operand)
    (ho : o.op = .call { callee := .builtin .append, args := #[s, x], argTypes := #[62, 62] })
    (B : Nat) (v : Value) (zs : List Int) (hs : a.eval s = v) (hown : OwnI W B v zs) (B2 : Nat) (A : Option Addr) (m c : Nat) (ys : List Int) (hx : a.eval x = .slice A m c)
    (hr : Row W B2 A (ys.map (Value.int .i64))) (hm : ys.length = m) (hA : A = none → m = 0)
    (hn : zs.length ≤ 10000000) (hm2 : m ≤ 10000000) (hbase : B ≤ W.heap.size)
    (h : ∀ v' w', OwnI w' B v' (zs ++ ys) → Below B W w' → W.grownBy w' v.ownBlock → (v'.ownBlock = v.ownBlock ∨ v'.ownBlock = some W.heap.size) → wpList Tryz.prog ops Q rest (a.put o.dst v') w') :
    wpList Tryz.prog ops Q (o :: rest) a W := by
  obtain ⟨i0, hi, hz0, hz1, hz2⟩ := info_parts int_inf
  refine wpl_append_all hgd s x 62 ho B 3 i0 (.int .i64 0) 1 8 Tryz.underlying62 hi hz0 hz1 hz2 rfl (by omega) v zs.length _ hs hown B2 A m c _ hx hr (by simp [hm]) hA (by simp [Value.oneCell']) hn hm2 (by omega) hbase ?_
  intro v' w' hown' h1 h2 h3
  refine h v' w' ?_ h1 h2 h3
  unfold OwnI
  rw [← hm] at hown'
  simpa using hown'

section
variable {w w' : World} {B e size n : Nat} {v : Value} {xs : List Value} {zs : List Int}
theorem owns_less {B' : Nat} (h : w.ownsRow B e size v n xs) (hB : B' ≤ B) : w.ownsRow B' e size v n xs := by
  refine ⟨h.1, ?_⟩
  rcases h.2 with h2 | ⟨g, cap, cur, h1, h2, h3⟩
  · exact .inl h2
  · exact .inr ⟨g, cap, cur, h1, by omega, h3⟩
theorem owns_below {K : Nat} (h : w.ownsRow B e size v n xs) (hb : Below K w w') (hK : w.heap.size ≤ K) : w'.ownsRow B e size v n xs :=
  h.kept (row := none) ⟨hb.os, hb.tape, hb.output, hb.size, fun i hi _ => hb.block i (by omega)⟩ (by cases v.ownBlock <;> simp)
theorem owns_drewN (h : w.ownsRow B e size v n xs) (k : Nat) : (w.drewN k).ownsRow B e size v n xs := h
theorem owns_setCell (h : w.ownsRow B e size v n xs) {p : Addr} (hp : p.block < B) (u : Value) : (w.setCell p u).ownsRow B e size v n xs := by
  refine ⟨h.1, ?_⟩
  rcases h.2 with h2 | ⟨g, cap, cur, h1, h2, h3, h4⟩
  · exact .inl h2
  · exact .inr ⟨g, cap, cur, h1, h2, (Below.heap_setCell w p u g (by omega)).trans h3, h4⟩
/-- A row that is owned, as its slice and its cells. -/
theorem owns_row (h : w.ownsRow B e size v n xs) : ∃ A c, v = .slice A n c ∧ n ≤ c ∧ c ≤ maxLen ∧ Row w w.heap.size A xs := by
  rcases h.2 with ⟨rfl, rfl⟩ | ⟨g, cap, cur, rfl, h2, h3, h4, h5, h6, h7⟩
  · have hx : xs = [] := List.eq_nil_of_length_eq_zero (by simpa using h.1)
    subst hx
    exact ⟨none, 0, rfl, Nat.le_refl _, Nat.zero_le _, Row.empty⟩
  · refine ⟨_, cap, rfl, h4, h5, fun _ => ⟨g, 0, rfl, ?_, fun j u hu => ?_⟩⟩
    · rcases Nat.lt_or_ge g w.heap.size with hlt | hge
      · exact hlt
      · rw [Array.getElem?_eq_none hge] at h3; cases h3
    · have hc := cell_of_row w g j cur e (0, 0) h3
      rw [Nat.zero_add, hc]
      rw [← h7, List.getElem?_take] at hu
      split at hu
      · simpa using hu
      · cases hu
theorem owns_empty (w : World) (e : TypeId) (hB : B ≤ w.heap.size) : (w.alloc (.cells #[] e)).ownsRow B e size (.slice (some ⟨w.heap.size, 0, none⟩) 0 0) 0 [] :=
  ⟨by simp, .inr ⟨w.heap.size, 0, #[], rfl, hB, heap_alloc_new w _, Nat.le_refl _, Nat.zero_le _, by simp, by simp⟩⟩
theorem OwnI.ints (h : OwnI w B v zs) (hf : ∀ z ∈ zs, (Lit.int .i64 z).wf = true) : ∃ A c, v = .slice A zs.length c ∧ Ints .i64 w A zs.length c zs := by
  obtain ⟨A, c, rfl, h1, h2, h3⟩ := owns_row h
  exact ⟨A, c, rfl, h3, rfl, h1, h2, hf⟩
end
end Go.Proofs.YtafhpbghogdipaaGreatDoor
