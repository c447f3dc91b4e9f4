/- The draws of expressions: some text of few bytes. -/
import Derived.Test.YtbokieephhffnaaDoorEx9
import Derived.Laws.IdiomStrings
namespace Go.Proofs.YtbokieephhffnaaDoor
open Go.RowKit
set_option maxHeartbeats 4000000

/-- n strings, each of lo to hi bytes. -/
def StrArr (arr : Array Value) (n lo hi : Nat) : Prop := arr.size = n ∧ ∀ k, k < n → ∃ str, arr[k]? = some (.string str) ∧ lo ≤ str.size ∧ str.size ≤ hi
/-- A text was drawn by the reader in block R. -/
def DrS (R B : Nat) (q : Int) (lo hi : Nat) (w : World) (e : Ending) (w' : World) : Prop := ∃ str : ByteArray, e = .returned (.string str) ∧ (lo ≤ str.size ∧ str.size ≤ hi) ∧ Rdr w' R B q ∧ w.grownBy w' (some R)
theorem blk_kept {w w' : World} {R b : Nat} {o : Obj} (h : w.heap[b]? = some o) (hg : w.grownBy w' (some R)) (hb : b ≠ R) : w'.heap[b]? = some o :=
  (hg.block b (heap_lt h) (by intro e; cases e; exact hb rfl)).trans h
theorem arr_cell {w : World} {b k n lo hi : Nat} {arr : Array Value} {T : TypeId} (h : w.heap[b]? = some (.cells arr T (0, 0))) (hs : StrArr arr n lo hi) (hk : k < n) : ∃ str, w.cell? ⟨b, k, none⟩ = some (.string str) ∧ lo ≤ str.size ∧ str.size ≤ hi := by
  obtain ⟨str, h1, h2⟩ := hs.2 k hk
  exact ⟨str, by rw [cell_of_row w b k arr T (0, 0) h]; exact h1, h2⟩
@[go_sem] theorem sz1 (x : UInt8) : (⟨#[x]⟩ : ByteArray).size = 1 := rfl
theorem l6Dec_small (n : Int) (h0 : 0 ≤ n) (h10 : n < 10) (w : World) : Calls Tryd.prog 14 #[.int .i64 n] w fun e w' => ∃ str : ByteArray, e = .returned (.string str) ∧ str.size = 1 ∧ Below w.heap.size w w' := by
  have m1 : ¬ n < -9223372036854775807 := by omega
  have m2 : ¬ n < 0 := by omega
  have m3 : IntKind.u8.wrap (48 + n) = 48 + n := by
    have : IntKind.u8.wrap (48 + n) = (48 + n) % 256 := by first | rfl | simp [IntKind.wrap]
    omega
  obtain ⟨x, hx⟩ : ∃ x : UInt8, ((x.toNat : Nat) : Int) = 48 + n := ⟨UInt8.ofNat (48 + n).toNat, by simp; omega⟩
  have hconv : ∀ W : World, (convert 28 9 (.slice (some ⟨W.heap.size, 0, none⟩) 1 1)).run Tryd.prog (W.alloc (.cells #[.int .u8 (48 + n)] 5)) = .ok (.string ⟨#[x]⟩) (W.alloc (.cells #[.int .u8 (48 + n)] 5)) := fun W => by
    have := run_convert_bytes_back (P := Tryd.prog) (W.alloc (.cells #[.int .u8 (48 + n)] 5)) 28 9 5 ⟨W.heap.size, 0, none⟩ 1 [x] Tryd.underlying28 Tryd.underlying5 Tryd.underlying9 (fun j hj => by
      have hj0 : j = 0 := by simpa using hj
      subst hj0
      have := cell_of_row (W.alloc (.cells #[.int .u8 (48 + n)] 5)) W.heap.size 0 #[.int .u8 (48 + n)] 5 (0, 0) (heap_alloc_new W _)
      simp [Addr.add, this, hx])
    exact this
  go_enter Tryd.func14, Tryd.ntmps14
  go_wp2
  go_ret
  exact ⟨_, rfl, rfl, (Below.refl _ _).alloc (Nat.le_refl _) _⟩

end Go.Proofs.YtbokieephhffnaaDoor
