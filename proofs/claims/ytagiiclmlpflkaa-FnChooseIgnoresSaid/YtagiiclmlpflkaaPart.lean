/- A list of integers as cells, laid one after the other over zeros; slices of structs made by the call. -/
import Derived.Test.YtagiiclmlpflkaaFlat
import Derived.Laws.MakeOwn
import Derived.Laws.Rows
import Derived.LoopTactic
import Derived.Deep.Draws
namespace Go.Proofs.Ytagiiclmlpflkaa
open Go.RowKit

/-- A list of integers as cells, the first k of them laid, the rest still zero. -/
def part (zs : List Int) (k : Nat) : List Value := (zs.take k).map (Value.int .i64) ++ List.replicate (zs.length - k) (.int .i64 0)
theorem part_zero (zs : List Int) : part zs 0 = List.replicate zs.length (.int .i64 0) := by simp [part]
theorem part_all {zs : List Int} {k : Nat} (h : zs.length ≤ k) : part zs k = zs.map (Value.int .i64) := by
  unfold part
  rw [List.take_of_length_le h, Nat.sub_eq_zero_of_le h]
  simp
theorem part_mid (zs : List Int) (k : Nat) (h : k < zs.length) : part zs k = (zs.take k).map (Value.int .i64) ++ .int .i64 0 :: List.replicate (zs.length - (k + 1)) (.int .i64 0) := by
  unfold part
  rw [show zs.length - k = (zs.length - (k + 1)) + 1 by omega, List.replicate_succ]
theorem part_len (zs : List Int) (k : Nat) (h : k ≤ zs.length) : (part zs k).length = zs.length := by simp [part]; omega
theorem part_at (zs : List Int) (k j : Nat) (h : j < zs.length) (hk : k ≤ zs.length) : ∃ u, (part zs k)[j]? = some u := by
  have : j < (part zs k).length := by rw [part_len zs k hk]; exact h
  exact ⟨_, List.getElem?_eq_getElem this⟩
theorem set_mid (l r : List Value) (x v : Value) : (l ++ x :: r).set l.length v = l ++ v :: r := by simp
theorem part_set (zs : List Int) (k : Nat) (h : k < zs.length) : (part zs k).set k (.int .i64 (zs.getD k 0)) = part zs (k + 1) := by
  have hl : ((zs.take k).map (Value.int .i64)).length = k := by simp; omega
  have h1 := part_mid zs k h
  have h2 := set_mid ((zs.take k).map (Value.int .i64)) (List.replicate (zs.length - (k + 1)) (.int .i64 0)) (.int .i64 0) (.int .i64 (zs.getD k 0))
  rw [hl] at h2
  rw [h1, h2]
  unfold part
  have hg : zs.getD k 0 = zs[k] := by simp [h]
  rw [hg, List.take_succ_eq_append_getElem h, List.map_append, List.append_assoc]
  rfl
theorem blk_set {w : World} {g k : Nat} {l : List Value} {t : TypeId} (h : w.heap[g]? = some (.cells l.toArray t (0, 0))) (u : Value) : (w.setCell ⟨g, k, none⟩ u).heap[g]? = some (.cells (l.set k u).toArray t (0, 0)) := by
  simp [World.setCell, Array.getElem?_modify, h]
theorem blk_cell {w : World} {g : Nat} {l : List Value} {t : TypeId} (h : w.heap[g]? = some (.cells l.toArray t (0, 0))) (k : Nat) : w.cell? ⟨g, k, none⟩ = l[k]? := by
  have := cell_of_row w g k l.toArray t (0, 0) h
  simpa using this
theorem blk_free {w : World} {g : Nat} {l : List Value} {t : TypeId} (h : w.heap[g]? = some (.cells l.toArray t (0, 0))) (k : Nat) : w.frozen? ⟨g, k, none⟩ = false := by simp [World.frozen?, h]
theorem blk_lt {w : World} {g : Nat} {o : Obj} (h : w.heap[g]? = some o) : g < w.heap.size := by
  rcases Nat.lt_or_ge g w.heap.size with hlt | hge
  · exact hlt
  · rw [Array.getElem?_eq_none hge] at h; cases h
theorem blk_row {w : World} {g : Nat} {t : TypeId} {xs : List Value} (h : w.heap[g]? = some (.cells xs.toArray t (0, 0))) {B : Nat} (hB : g < B) : Row w B (some ⟨g, 0, none⟩) xs := fun _ =>
  ⟨g, 0, rfl, hB, fun j u hu => by rw [Nat.zero_add, blk_cell h]; exact hu⟩
theorem blk_below {w w' : World} {g B : Nat} {o : Obj} (h : w.heap[g]? = some o) (hb : Below B w w') (hg : g < B) : w'.heap[g]? = some o := (hb.block g hg).trans h

theorem make_recs {P : Program} (t e : TypeId) (i : TypeInfo) (z : Value) (ht : P.underlying t = some (.slice e)) (hi : P.info? e = some i) (hz : i.zero = some z)
    (n : Nat) (hb : i.bytes * n ≤ 281474976710656) (h63 : n ≤ 9223372036854775807) (w : World) :
    (Instr.makeSlice t (.int .i64 (n : Int)) (.int .i64 (n : Int))).run P w = .ok (.slice (some ⟨w.heap.size, 0, none⟩) n n) (w.alloc (.cells (madeCells z.cells (n * i.size)) e)) := by
  have hb' : (i.bytes : Int) * (n : Int) ≤ 281474976710656 := by
    have h : ((i.bytes * n : Nat) : Int) ≤ 281474976710656 := by omega
    rwa [Int.natCast_mul] at h
  have hr := run_make (P := P) w t e i z ht hi hz .i64 .i64 n n (by omega) (by omega) hb' (by omega)
  simp only [Int.toNat_natCast] at hr
  exact hr
theorem made_two (m : Nat) : madeCells #[Value.int .i64 0, Value.int .i64 0] m = (List.replicate m (Value.int .i64 0)).toArray := by
  apply Array.ext_getElem?
  intro i
  by_cases h : i < m
  · have : i % 2 = 0 ∨ i % 2 = 1 := by omega
    rcases this with e | e <;> simp [madeCells, h, e]
  · simp [madeCells, h]
theorem made_three (m : Nat) : madeCells #[Value.int .i64 0, Value.int .i64 0, Value.int .i64 0] m = (List.replicate m (Value.int .i64 0)).toArray := by
  apply Array.ext_getElem?
  intro i
  by_cases h : i < m
  · have : i % 3 = 0 ∨ i % 3 = 1 ∨ i % 3 = 2 := by omega
    rcases this with e | e | e <;> simp [madeCells, h, e]
  · simp [madeCells, h]
end Go.Proofs.Ytagiiclmlpflkaa
