/- How the arguments of the laws come in: slices as rows of cells below a block number, structs as their fields. -/
import Derived.Test.YtafhpbghogdipaaGreatDoorRows
import Derived.WalkKit
import Derived.ProofKit
import Derived.OpenShut
import Derived.Below
import Derived.ChangeOld
import Derived.Lib.SmallJoins
import Derived.Lib.Hide
namespace Go.Proofs.YtafhpbghogdipaaGreatDoor
open Go.ChangeShapes Go.WideShapes Go.ChangeAt Go.RowKit Go.Deep

/-- The cells xs lie in one block below block B, one behind the other, from the address A on (of no cells nothing is said). -/
def Row (w : World) (B : Nat) (A : Option Addr) (xs : List Value) : Prop :=
  xs ≠ [] → ∃ b off, A = some ⟨b, off, none⟩ ∧ b < B ∧ ∀ j u, xs[j]? = some u → w.cell? ⟨b, off + j, none⟩ = some u

section
variable {w w' : World} {B B' : Nat} {A : Option Addr} {xs : List Value}
theorem Row.empty : Row w B A [] := fun h => absurd rfl h
theorem Row.at_ (h : Row w B A xs) {k : Nat} {u : Value} (hk : xs[k]? = some u) : ∃ b off, A = some ⟨b, off, none⟩ ∧ b < B ∧ w.cell? ⟨b, off + k, none⟩ = some u := by
  obtain ⟨b, off, e, hb, hc⟩ := h (by rintro rfl; simp at hk)
  exact ⟨b, off, e, hb, hc k u hk⟩
theorem Row.keep (h : Row w B A xs) (hk : ∀ p : Addr, p.block < B → w'.cell? p = w.cell? p) : Row w' B A xs := fun hn => by
  obtain ⟨b, off, e, hb, hc⟩ := h hn
  exact ⟨b, off, e, hb, fun j u hu => (hk _ hb).trans (hc j u hu)⟩
theorem Row.more (h : Row w B A xs) (hB : B ≤ B') : Row w B' A xs := fun hn => by
  obtain ⟨b, off, e, hb, hc⟩ := h hn
  exact ⟨b, off, e, Nat.lt_of_lt_of_le hb hB, hc⟩
theorem Row.below (h : Row w B A xs) (hb : Below B w w') : Row w' B A xs := h.keep fun _ hp => hb.cell hp
theorem Row.drew (h : Row w B A xs) : Row w.drew B A xs := h
theorem Row.alloc (h : Row w B A xs) (hB : B ≤ w.heap.size) (o : Obj) : Row (w.alloc o) B A xs := h.keep fun p hp => World.cell?_alloc_lt w o p (by omega)
theorem Row.setCell (h : Row w B A xs) {p : Addr} (hB : B ≤ p.block) (u : Value) : Row (w.setCell p u) B A xs :=
  h.keep fun q hq => World.cell?_setCell_other w p q u (fun e => by subst e; omega)
theorem Row.take (h : Row w B A xs) (k : Nat) : Row w B A (xs.take k) := fun hn => by
  obtain ⟨b, off, e, hb, hc⟩ := h (by rintro rfl; simp at hn)
  exact ⟨b, off, e, hb, fun j u hu => hc j u (by
    rw [List.getElem?_take] at hu
    split at hu
    · exact hu
    · cases hu)⟩
theorem Row.shrink (h : Row w B A xs) (hlt : ∀ b off, A = some ⟨b, off, none⟩ → b < B') : Row w B' A xs := fun hn => by
  obtain ⟨b, off, e, hb, hc⟩ := h hn
  exact ⟨b, off, e, hlt b off e, hc⟩
end

/-- A slice of integers of kind k that came in: its elements are zs. -/
structure Ints (k : IntKind) (w : World) (A : Option Addr) (n c : Nat) (zs : List Int) : Prop where
  row : Row w w.heap.size A (zs.map (Value.int k))
  len : zs.length = n
  cap : n ≤ c
  max : c ≤ maxLen
  fit : ∀ z ∈ zs, (Lit.int k z).wf = true

theorem ints_of {H : Type} {enc : TypeId × Value → H} {P : Program} {w : World} {base b0 : Nat} {r : Reach} {held : Bool} {k : IntKind} {t e : TypeId} {v : Value} {d : DataW H} {ps : List MemPlace}
    (ht : P.underlying t = some (.slice e)) (he : P.underlying e = some (.int k)) (hc : P.cellsOf e = 1) (hv : Value.okWide P w r b0 t v) (h : DataW.Trod enc P w base (fun _ => true) held t v d ps) :
    ∃ (A : Option Addr) (n c : Nat) (zs : List Int), v = .slice A n c ∧ Ints k w A n c zs := by
  obtain ⟨A, n, c, rfl⟩ := okWide_slice ht hv
  obtain ⟨fuel, hf⟩ := h
  rcases open_ints ht he hc hf with ⟨hcs, _⟩ | ⟨x, l, cc, zs, hcs, _, hl, hm, hz, _, hcell, hwz⟩
  · simp [Value.cells] at hcs
    obtain ⟨rfl, rfl, rfl⟩ := hcs
    exact ⟨_, _, _, [], rfl, ⟨Row.empty, rfl, Nat.le_refl _, Nat.zero_le _, by simp⟩⟩
  · simp [Value.cells] at hcs
    obtain ⟨rfl, rfl, rfl⟩ := hcs
    simp only [if_true] at hz
    refine ⟨_, _, _, zs.take n, rfl, ⟨?_, by simp; omega, hl, hm, fun z hz' => hwz z (List.mem_of_mem_take hz')⟩⟩
    intro hn
    have h0 : 0 < (zs.take n).length := by
      rcases Nat.eq_zero_or_pos (zs.take n).length with h | h
      · exact absurd (by simp [List.eq_nil_of_length_eq_zero h]) hn
      · exact h
    simp only [List.length_take] at h0
    obtain ⟨b, off, spot⟩ := x
    have hc0 := hcell 0 (by omega)
    have hspot : spot = none := by simpa [Addr.add] using World.cell?_spot hc0
    subst hspot
    refine ⟨b, off, rfl, ?_, fun j u hu => ?_⟩
    · have := World.block_lt_of_cell? _ _ hc0
      simpa [Addr.add] using this
    · rw [List.getElem?_map, List.getElem?_take] at hu
      split at hu
      · rename_i hjn
        have hj : j < zs.length := by omega
        have hcj := hcell j hj
        rw [List.getElem?_eq_getElem hj] at hu
        simp only [Option.map_some, Option.some.injEq] at hu
        subst hu
        have hg : zs.getD j 0 = zs[j] := by simp [List.getD, hj]
        rw [hg] at hcj
        rw [← hcj]
        unfold Addr.add
        split
        · subst_vars; simp
        · rfl
      · simp at hu

/-- A struct of three integers that came in by value. -/
theorem three_of {H : Type} {enc : TypeId × Value → H} {P : Program} {w : World} {base b0 : Nat} {r : Reach} {held : Bool} {spare : Nat → Bool} {t e : TypeId} {f0 f1 f2 : Field} {v : Value} {d : DataW H} {ps : List MemPlace}
    (hs : P.underlying t = some (.struct #[f0, f1, f2])) (hone : oneCellFields P #[f0, f1, f2] = true) (hC : P.cellsOf t = 3) (h0 : f0.type = e) (h1 : f1.type = e) (h2 : f2.type = e) (he : P.underlying e = some (.int .i64))
    (hv : Value.okWide P w r b0 t v) (h : DataW.Trod enc P w base spare held t v d ps) :
    ∃ x y z : Int, v = .agg #[.int .i64 x, .int .i64 y, .int .i64 z] ∧ (Lit.int .i64 x).wf = true ∧ (Lit.int .i64 y).wf = true ∧ (Lit.int .i64 z).wf = true := by
  obtain ⟨v0, v1, v2, y0, y1, y2, n, rfl, _, _, hy0, hy1, hy2⟩ := Go.Joins.open_agg3 hs hone hC hv h
  subst h0
  rw [h1] at hy1
  rw [h2] at hy2
  obtain ⟨x, e0, _, w0⟩ := DataW.trod_int he hy0
  obtain ⟨y, e1, _, w1⟩ := DataW.trod_int he hy1
  obtain ⟨z, e2, _, w2⟩ := DataW.trod_int he hy2
  simp at e0 e1 e2
  subst e0 e1 e2
  exact ⟨x, y, z, rfl, w0, w1, w2⟩

theorem two_of {H : Type} {enc : TypeId × Value → H} {P : Program} {w : World} {base b0 : Nat} {r : Reach} {held : Bool} {spare : Nat → Bool} {t e : TypeId} {f0 f1 : Field} {v : Value} {d : DataW H} {ps : List MemPlace}
    (hs : P.underlying t = some (.struct #[f0, f1])) (hone : oneCellFields P #[f0, f1] = true) (hC : P.cellsOf t = 2) (h0 : f0.type = e) (h1 : f1.type = e) (he : P.underlying e = some (.int .i64))
    (hv : Value.okWide P w r b0 t v) (h : DataW.Trod enc P w base spare held t v d ps) :
    ∃ x y : Int, v = .agg #[.int .i64 x, .int .i64 y] ∧ (Lit.int .i64 x).wf = true ∧ (Lit.int .i64 y).wf = true := by
  obtain ⟨v0, v1, y0, y1, n, rfl, _, _, hy0, hy1⟩ := Go.Joins.open_agg2 hs hone hC hv h
  subst h0
  rw [h1] at hy1
  obtain ⟨x, e0, _, w0⟩ := DataW.trod_int he hy0
  obtain ⟨y, e1, _, w1⟩ := DataW.trod_int he hy1
  simp at e0 e1
  subst e0 e1
  exact ⟨x, y, rfl, w0, w1⟩

theorem trod_below {H : Type} {enc : TypeId × Value → H} {P : Program} {w : World} {base : Nat} {spare : Nat → Bool} {held : Bool} {t : TypeId} {v : Value} {d : DataW H} {ps : List MemPlace} (h : DataW.Trod enc P w base spare held t v d ps) : ∀ x ∈ ps, x.block < w.heap.size := by
  obtain ⟨m, hm⟩ := h
  exact DataW.trod_lt m _ _ _ hm
end Go.Proofs.YtafhpbghogdipaaGreatDoor
