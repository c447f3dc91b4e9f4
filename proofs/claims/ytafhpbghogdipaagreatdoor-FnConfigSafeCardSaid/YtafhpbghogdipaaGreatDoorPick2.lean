/- The reader's pick, its world told by facts. -/
import Derived.Test.YtafhpbghogdipaaGreatDoorPick
namespace Go.Proofs.YtafhpbghogdipaaGreatDoor
open Go.RowKit

/-- A cell behind a store into it: no premise, so that a chain of stores is read one after the other. -/
@[simp high] theorem cell_set_map (w : World) (b o : Nat) (u : Value) : (w.setCell ⟨b, o, none⟩ u).cell? ⟨b, o, none⟩ = (w.cell? ⟨b, o, none⟩).map fun _ => u := by
  unfold World.setCell World.cell?
  simp only [Array.getElem?_modify]
  cases h : w.heap[b]? with
  | none => simp
  | some x =>
    cases x with
    | cells c t fr =>
      by_cases ho : o < c.size
      · simp [ho]
      · simp [ho]
    | _ => simp

theorem ups {a b : Nat} (h : a < b) : a < b ∧ a ≤ b ∧ a ≤ b + 1 ∧ a ≤ b + 1 + 1 ∧ a ≤ b + 1 + 1 + 1 ∧ a ≤ b + 1 + 1 + 1 + 1 ∧ a ≤ b + 1 + 1 + 1 + 1 + 1 := by omega
theorem bcell {W w1 : World} (hb : Below W.heap.size W w1) : (∀ b o, b < W.heap.size → w1.cell? ⟨b, o, none⟩ = W.cell? ⟨b, o, none⟩) ∧ (∀ b o, b < W.heap.size → w1.frozen? ⟨b, o, none⟩ = W.frozen? ⟨b, o, none⟩) :=
  ⟨fun b o h => hb.cell (p := ⟨b, o, none⟩) h, fun b o h => hb.frozen (p := ⟨b, o, none⟩) h⟩
theorem aboves {R n : Nat} (h : R < n) : ¬ n = R ∧ ¬ n + 1 = R ∧ ¬ n + 1 + 1 = R ∧ ¬ n + 1 + 1 + 1 = R ∧ ¬ n + 1 + 1 + 1 + 1 = R := by omega
/-- Only block R has turned, and perhaps blocks are new. -/
theorem gcell {W w1 : World} {R : Nat} (hg : W.grownBy w1 (some R)) : (∀ b o, b < W.heap.size → ¬ b = R → w1.cell? ⟨b, o, none⟩ = W.cell? ⟨b, o, none⟩) ∧ (∀ b o, b < W.heap.size → ¬ b = R → w1.frozen? ⟨b, o, none⟩ = W.frozen? ⟨b, o, none⟩) :=
  ⟨fun b o h hn => World.cell?_of_block (hg.block b h (fun e => hn (by injection e))), fun b o h hn => World.frozen?_of_block (hg.block b h (fun e => hn (by injection e)))⟩
theorem grown_trans {a b c : World} {R : Nat} (h : a.grownBy b (some R)) (k : b.grownBy c (some R)) : a.grownBy c (some R) :=
  ⟨k.os.trans h.os, k.tape.trans h.tape, k.output.trans h.output, Nat.le_trans h.size k.size, fun i hi hne => (k.block i (Nat.lt_of_lt_of_le hi h.size) hne).trans (h.block i hi hne)⟩

theorem Ints.below {k : IntKind} {w w' : World} {A : Option Addr} {n c : Nat} {zs : List Int} (h : Ints k w A n c zs) (hb : Below w.heap.size w w') : Ints k w' A n c zs :=
  ⟨(h.row.below hb).more hb.size, h.len, h.cap, h.max, h.fit⟩
theorem Rdr.keepB {W w' : World} {R B : Nat} {p : Int} (hb : Below W.heap.size W w') (h : Rdr W R B p) : Rdr w' R B p := h.keep (hb.mono h.lt)
theorem ex_rdr {w : World} {R B : Nat} {p q : Int} (h : Rdr w R B p) (hp : p ≤ q) : ∃ q', q' ≤ q ∧ Rdr w R B q' := ⟨p, hp, h⟩
theorem pick_abs (R : Nat) {B : Nat} (p m : Int) (w : World) (h : Rdr w R B p) (hp : p ≤ 50000) :
    Calls Tryz.prog 20 #[.pointer (some ⟨R, 0, none⟩), .int .i64 m] w fun e w' => ∃ v : Int, e = .returned (.int .i64 v) ∧ 0 ≤ v ∧ (1 ≤ m → v < m) ∧
      Rdr w' R B (p + 1) ∧ w'.heap.size = w.heap.size ∧ (∀ b o, ¬ b = R → w'.cell? ⟨b, o, none⟩ = w.cell? ⟨b, o, none⟩) ∧ (∀ b o, ¬ b = R → w'.frozen? ⟨b, o, none⟩ = w.frozen? ⟨b, o, none⟩) ∧ w.grownBy w' (some R) := by
  refine (pick_any R p m w h hp).mono ?_
  rintro e w' ⟨v, rfl, h0, h1, k, rfl⟩
  refine ⟨v, rfl, h0, h1, h.next.drewN k, by simp, fun b o hb => ?_, fun b o hb => ?_, grown_drewN (grown_setCell (World.grownBy.refl w _) (.inl rfl) _) k⟩
  · show (w.setCell ⟨R, 1, none⟩ (.int .i64 (p + 1))).cell? ⟨b, o, none⟩ = _
    exact World.cell?_setCell_other w _ _ _ (by intro e; cases e; exact hb rfl)
  · show (w.setCell ⟨R, 1, none⟩ (.int .i64 (p + 1))).frozen? ⟨b, o, none⟩ = _
    exact World.frozen?_of_block (Below.heap_setCell w _ _ b hb)
end Go.Proofs.YtafhpbghogdipaaGreatDoor
