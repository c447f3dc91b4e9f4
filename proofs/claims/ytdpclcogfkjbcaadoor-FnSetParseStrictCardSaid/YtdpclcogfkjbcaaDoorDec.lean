/- A digit's text; lists of texts joined; the reference's l6Dec at a digit. -/
import Derived.Test.YtdpclcogfkjbcaaDoorOwn
import Derived.Lib.Join
import Derived.Lib.ItoaNum
import Derived.WalkKit
import Derived.Laws.IdiomStrings
namespace Go.Proofs.YtdpclcogfkjbcaaDoor
open Go.RowKit
set_option maxHeartbeats 8000000
set_option linter.unusedVariables false

theorem dig_one : ∀ n : Nat, n < 10 → Lib.decDigits n = [UInt8.ofNat (48 + n)] := by decide +kernel
theorem dig_of {n : Nat} {x : UInt8} (hn : n < 10) (hx : x.toNat = 48 + n) : Lib.decDigits n = [x] := by
  rw [dig_one n hn, ← hx]
  simp
theorem join_cons (sep x : List UInt8) {l : List (List UInt8)} (h : l ≠ []) : Lib.join (x :: l) sep = x ++ sep ++ Lib.join l sep := by
  cases l with
  | nil => exact absurd rfl h
  | cons b l => simp [Lib.join]
theorem join_snoc (sep x : List UInt8) : ∀ l : List (List UInt8), l ≠ [] → Lib.join (l ++ [x]) sep = Lib.join l sep ++ sep ++ x
  | [], h => absurd rfl h
  | [a], _ => by simp [Lib.join]
  | a :: b :: l, _ => by
    have := join_snoc sep x (b :: l) (by simp)
    rw [join_cons sep a (l := b :: l) (by simp), List.cons_append, join_cons sep a (l := (b :: l) ++ [x]) (by simp), this]
    simp
theorem join_take (sep : List UInt8) (l : List (List UInt8)) : ∀ k, (Lib.join (l.take k) sep).length ≤ (Lib.join l sep).length := by
  induction l with
  | nil => intro k; simp
  | cons a l ih =>
    intro k
    cases k with
    | zero => simp [Lib.join]
    | succ k =>
      rw [List.take_succ_cons]
      by_cases hl : l = []
      · subst hl; simp
      · rw [join_cons sep a hl]
        by_cases ht : l.take k = []
        · rw [ht]; simp [Lib.join]
        · rw [join_cons sep a ht]
          have := ih k
          simp
          omega

theorem dig_len {n : Nat} (h : n < 10) : (Lib.decDigits n).length = 1 := by rw [dig_one n h]; rfl
theorem l6Dec_is (n : Nat) (h10 : n < 10) (w : World) : Calls Tryd.prog 42 #[.int .i64 (n : Int)] w fun e w' => e = .returned (.string ⟨(Lib.decDigits n).toArray⟩) ∧ Below w.heap.size w w' := by
  have m1 : ¬ (n : Int) < -9223372036854775807 := by omega
  have m2 : ¬ (n : Int) < 0 := by omega
  have m3 : IntKind.u8.wrap (48 + (n : Int)) = 48 + (n : Int) := by
    have : IntKind.u8.wrap (48 + (n : Int)) = (48 + (n : Int)) % 256 := by first | rfl | simp [IntKind.wrap]
    omega
  have m4 : (n : Int) < 10 := by omega
  obtain ⟨x, hx⟩ : ∃ x : UInt8, ((x.toNat : Nat) : Int) = 48 + (n : Int) := ⟨UInt8.ofNat (48 + n), by simp; omega⟩
  rw [dig_of (x := x) h10 (by omega)]
  have hconv : ∀ W : World, (convert 28 9 (.slice (some ⟨W.heap.size, 0, none⟩) 1 1)).run Tryd.prog (W.alloc (.cells #[.int .u8 (48 + (n : Int))] 5)) = .ok (.string ⟨#[x]⟩) (W.alloc (.cells #[.int .u8 (48 + (n : Int))] 5)) := fun W => by
    have := run_convert_bytes_back (P := Tryd.prog) (W.alloc (.cells #[.int .u8 (48 + (n : Int))] 5)) 28 9 5 ⟨W.heap.size, 0, none⟩ 1 [x] Tryd.underlying28 Tryd.underlying5 Tryd.underlying9 (fun j hj => by
      have hj0 : j = 0 := by simpa using hj
      subst hj0
      have := cell_of_row (W.alloc (.cells #[.int .u8 (48 + (n : Int))] 5)) W.heap.size 0 #[.int .u8 (48 + (n : Int))] 5 (0, 0) (heap_alloc_new W _)
      simp [Addr.add, this, hx])
    exact this
  go_enter Tryd.func42, Tryd.ntmps42
  go_wp2
  go_ret
  exact ⟨rfl, (Below.refl _ _).alloc (Nat.le_refl _) _⟩
end Go.Proofs.YtdpclcogfkjbcaaDoor
