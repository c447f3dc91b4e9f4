/- Slices of structs whose fields are all of type int: one flat list of integers. -/
import Derived.Test.YtafhpbghogdipaaGreatDoorOpen
import Derived.Deep.Slices
import Derived.Deep.Fields
import Derived.ChangeSame
namespace Go.Proofs.YtafhpbghogdipaaGreatDoor
open Go.ChangeShapes Go.WideShapes Go.ChangeAt Go.RowKit Go.Deep

theorem addr_add' (b off j : Nat) : (⟨b, off, none⟩ : Addr).add j = ⟨b, off + j, none⟩ := by
  unfold Addr.add
  split
  · subst_vars; rfl
  · rfl

section
variable {H : Type} {enc : TypeId × Value → H} {P : Program} {w : World} {base : Nat} {spare : Nat → Bool} {held : Bool}
theorem open_slice_fields {t e : TypeId} {fs : Array Field} {fuel : Nat} {cs : List Value} {x : DataW H × List MemPlace} (ht : P.underlying t = some (.slice e)) (he : P.underlying e = some (.struct fs))
    (hone : oneCellFields P fs = true) (hC : P.cellsOf e = fs.size) (h : DataW.trod enc P w base spare held fuel t cs = some x) :
    (cs = [.slice none 0 0]) ∨
    ∃ (a : Addr) (len cap : Nat), cs = [.slice (some a) len cap] ∧ len ≤ cap ∧ cap ≤ maxLen ∧
      ∀ i, i < len → ∀ (j : Nat) (f : Field), fs[j]? = some f → ∃ (n : Nat) (v : Value) (y : DataW H × List MemPlace), w.cell? (a.add (i * fs.size + j)) = some v ∧ DataW.trod enc P w base spare held n f.type [v] = some y := by
  rcases open_slice ht h with h0 | ⟨a, len, cap, m, n, D, Pl, hcs, hb, hl, hm, hmm, hx, hi⟩
  · exact .inl h0.1
  · refine .inr ⟨a, len, cap, hcs, hl, hm, fun i hil => ?_⟩
    have him : i < m := by
      rw [hmm]
      split <;> omega
    obtain ⟨cs', hc, ht'⟩ := hi i him
    rw [hC] at hc
    obtain ⟨ys, n', hn', hy, hlen, hyl, hf⟩ := DataW.trod_struct he ht'
    obtain ⟨_, hcl, hat⟩ := World.cells?_some hc
    intro j f hj
    obtain ⟨ho, hk⟩ := hone_of hone j f hj
    have hjl : j < fs.size := (Array.getElem?_eq_some_iff.1 hj).1
    have hcell := hat j hjl
    have hv : cs'[j]? = some (cs'[j]'(by omega)) := List.getElem?_eq_getElem (by omega)
    have h1 := hf j f hj
    rw [ho, hk] at h1
    have hone' : (cs'.drop j).take 1 = [cs'[j]'(by omega)] := by
      rw [List.drop_eq_getElem_cons (by omega)]
      rfl
    rw [hone'] at h1
    have hys : ys[j]? = some (ys[j]'(by omega)) := List.getElem?_eq_getElem (by omega)
    refine ⟨n', _, _, ?_, h1.trans hys⟩
    rw [← Go.Deep.add_add, hcell, hv]
end

theorem two_types {f0 f1 : Field} {q : TypeId} (h0 : f0.type = q) (h1 : f1.type = q) : ∀ (j : Nat) (f : Field), (#[f0, f1] : Array Field)[j]? = some f → f.type = q
  | 0, f, h => by simp at h; subst h; exact h0
  | 1, f, h => by simp at h; subst h; exact h1
  | j + 2, f, h => by simp at h
theorem three_types {f0 f1 f2 : Field} {q : TypeId} (h0 : f0.type = q) (h1 : f1.type = q) (h2 : f2.type = q) : ∀ (j : Nat) (f : Field), (#[f0, f1, f2] : Array Field)[j]? = some f → f.type = q
  | 0, f, h => by simp at h; subst h; exact h0
  | 1, f, h => by simp at h; subst h; exact h1
  | 2, f, h => by simp at h; subst h; exact h2
  | j + 3, f, h => by simp at h
theorem list_of {α : Type} [Inhabited α] {P : Nat → α → Prop} : ∀ (n : Nat), (∀ i, i < n → ∃ x, P i x) → ∃ l : List α, l.length = n ∧ ∀ i x, l[i]? = some x → P i x
  | 0, _ => ⟨[], rfl, by simp⟩
  | n + 1, h => by
    obtain ⟨l, hl, hP⟩ := list_of n (fun i hi => h i (by omega))
    obtain ⟨x, hx⟩ := h n (by omega)
    refine ⟨l ++ [x], by simp [hl], fun i y hy => ?_⟩
    rw [List.getElem?_append] at hy
    split at hy
    · exact hP i y hy
    · rename_i hi
      have hi' : i = n := by
        by_cases e : i = n
        · exact e
        · rw [List.getElem?_eq_none (by simp; omega)] at hy; cases hy
      subst hi'
      simp [hl] at hy
      subst hy
      exact hx

/-- A slice of structs of s fields, each of type int, that came in: its numbers in one list. -/
structure Flat (s : Nat) (w : World) (A : Option Addr) (n c : Nat) (fl : List Int) : Prop where
  row : Row w w.heap.size A (fl.map (Value.int .i64))
  len : fl.length = n * s
  cap : n ≤ c
  max : c ≤ maxLen
  fit : ∀ z ∈ fl, (Lit.int .i64 z).wf = true
theorem Flat.below {s : Nat} {w w' : World} {A : Option Addr} {n c : Nat} {fl : List Int} (h : Flat s w A n c fl) (hb : Below w.heap.size w w') : Flat s w' A n c fl :=
  ⟨(h.row.below hb).more hb.size, h.len, h.cap, h.max, h.fit⟩

theorem flat_of {H : Type} {enc : TypeId × Value → H} {P : Program} {w : World} {base b0 : Nat} {r : Reach} {held : Bool} {t e q : TypeId} {fs : Array Field} {v : Value} {d : DataW H} {ps : List MemPlace} {s : Nat}
    (ht : P.underlying t = some (.slice e)) (he : P.underlying e = some (.struct fs)) (hone : oneCellFields P fs = true) (hC : P.cellsOf e = fs.size) (hs : fs.size = s) (hs0 : 0 < s)
    (hq : ∀ (j : Nat) (f : Field), fs[j]? = some f → f.type = q) (hi : P.underlying q = some (.int .i64)) (hv : Value.okWide P w r b0 t v) (h : DataW.Trod enc P w base (fun _ => true) held t v d ps) :
    ∃ (A : Option Addr) (n c : Nat) (fl : List Int), v = .slice A n c ∧ Flat s w A n c fl := by
  obtain ⟨A, n, c, rfl⟩ := okWide_slice ht hv
  obtain ⟨fuel, hf⟩ := h
  rcases open_slice_fields ht he hone hC hf with hcs | ⟨a, len, cap, hcs, hl, hm, hcell⟩
  · simp [Value.cells] at hcs
    obtain ⟨rfl, rfl, rfl⟩ := hcs
    exact ⟨_, _, _, [], rfl, ⟨Row.empty, by simp, Nat.le_refl _, Nat.zero_le _, by simp⟩⟩
  · simp [Value.cells] at hcs
    obtain ⟨rfl, rfl, rfl⟩ := hcs
    subst hs
    have hz : ∀ i, i < n * fs.size → ∃ x : Int, w.cell? (a.add i) = some (.int .i64 x) ∧ (Lit.int .i64 x).wf = true := by
      intro i hin
      have h1 : i / fs.size < n := (Nat.div_lt_iff_lt_mul hs0).2 hin
      have h2 : i % fs.size < fs.size := Nat.mod_lt _ hs0
      obtain ⟨m, u, y, hc, hy⟩ := hcell (i / fs.size) h1 (i % fs.size) _ (Array.getElem?_eq_getElem h2)
      have e : i / fs.size * fs.size + i % fs.size = i := by rw [Nat.mul_comm]; exact Nat.div_add_mod i _
      rw [e] at hc
      have ht := hq (i % fs.size) _ (Array.getElem?_eq_getElem h2)
      rw [ht] at hy
      obtain ⟨x, e0, _, w0⟩ := DataW.trod_int hi hy
      simp at e0
      subst e0
      exact ⟨x, hc, w0⟩
    obtain ⟨fl, hfl, hP⟩ := list_of _ hz
    refine ⟨_, _, _, fl, rfl, ⟨?_, hfl, hl, hm, fun z hz' => ?_⟩⟩
    · intro hn
      have h0 : 0 < fl.length := by
        rcases Nat.eq_zero_or_pos fl.length with h | h
        · exact absurd (by simp [List.eq_nil_of_length_eq_zero h]) hn
        · exact h
      obtain ⟨b, off, spot⟩ := a
      have hc0 := (hP 0 _ (List.getElem?_eq_getElem h0)).1
      have hspot : spot = none := by simpa [Addr.add] using World.cell?_spot hc0
      subst hspot
      refine ⟨b, off, rfl, ?_, fun j u hu => ?_⟩
      · have := World.block_lt_of_cell? _ _ hc0
        simpa [Addr.add] using this
      · rw [List.getElem?_map] at hu
        cases hx : fl[j]? with
        | none => rw [hx] at hu; cases hu
        | some x =>
          rw [hx] at hu
          simp at hu
          subst hu
          have := (hP j x hx).1
          rwa [addr_add'] at this
    · obtain ⟨i, hi', e⟩ := List.getElem_of_mem hz'
      exact (hP i z (by rw [List.getElem?_eq_getElem hi', e])).2
end Go.Proofs.YtafhpbghogdipaaGreatDoor
