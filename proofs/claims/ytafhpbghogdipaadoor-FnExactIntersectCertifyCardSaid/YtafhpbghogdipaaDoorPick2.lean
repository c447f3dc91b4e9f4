/- The reader's pick, its world told by facts. -/
import Derived.Test.YtafhpbghogdipaaDoorPick
namespace Go.Proofs.YtafhpbghogdipaaDoor
open Go.RowKit

/-- A cell behind a store into it: no premise, so that a chain of stores is read one after the other. -/
@[simp high] theorem cell_set_map (w : World) (b o : Nat) (u : Value) : (w.setCell ⟨b, o, none⟩ u).cell? ⟨b, o, none⟩ = (w.cell? ⟨b, o, none⟩).map fun _ => u := by
  unfold World.setCell World.cell?
  simp only [Array.getElem?_modify]
  cases h : w.heap[b]? with
  | none => simp
  | some x =>
    cases x with
    | cells c t fr =>
      by_cases ho : o < c.size
      · simp [ho]
      · simp [ho]
    | _ => simp

theorem ups {a b : Nat} (h : a < b) : a < b ∧ a ≤ b ∧ a ≤ b + 1 ∧ a ≤ b + 1 + 1 ∧ a ≤ b + 1 + 1 + 1 ∧ a ≤ b + 1 + 1 + 1 + 1 ∧ a ≤ b + 1 + 1 + 1 + 1 + 1 := by omega
theorem bcell {W w1 : World} (hb : Below W.heap.size W w1) : (∀ b o, b < W.heap.size → w1.cell? ⟨b, o, none⟩ = W.cell? ⟨b, o, none⟩) ∧ (∀ b o, b < W.heap.size → w1.frozen? ⟨b, o, none⟩ = W.frozen? ⟨b, o, none⟩) :=
  ⟨fun b o h => hb.cell (p := ⟨b, o, none⟩) h, fun b o h => hb.frozen (p := ⟨b, o, none⟩) h⟩
theorem aboves {R n : Nat} (h : R < n) : ¬ n = R ∧ ¬ n + 1 = R ∧ ¬ n + 1 + 1 = R ∧ ¬ n + 1 + 1 + 1 = R ∧ ¬ n + 1 + 1 + 1 + 1 = R := by omega
/-- Only block R has turned, and perhaps blocks are new. -/
theorem gcell {W w1 : World} {R : Nat} (hg : W.grownBy w1 (some R)) : (∀ b o, b < W.heap.size → ¬ b = R → w1.cell? ⟨b, o, none⟩ = W.cell? ⟨b, o, none⟩) ∧ (∀ b o, b < W.heap.size → ¬ b = R → w1.frozen? ⟨b, o, none⟩ = W.frozen? ⟨b, o, none⟩) :=
  ⟨fun b o h hn => World.cell?_of_block (hg.block b h (fun e => hn (by injection e))), fun b o h hn => World.frozen?_of_block (hg.block b h (fun e => hn (by injection e)))⟩
theorem grown_trans {a b c : World} {R : Nat} (h : a.grownBy b (some R)) (k : b.grownBy c (some R)) : a.grownBy c (some R) :=
  ⟨k.os.trans h.os, k.tape.trans h.tape, k.output.trans h.output, Nat.le_trans h.size k.size, fun i hi hne => (k.block i (Nat.lt_of_lt_of_le hi h.size) hne).trans (h.block i hi hne)⟩

theorem Ints.below {k : IntKind} {w w' : World} {A : Option Addr} {n c : Nat} {zs : List Int} (h : Ints k w A n c zs) (hb : Below w.heap.size w w') : Ints k w' A n c zs :=
  ⟨(h.row.below hb).more hb.size, h.len, h.cap, h.max, h.fit⟩
end Go.Proofs.YtafhpbghogdipaaDoor
