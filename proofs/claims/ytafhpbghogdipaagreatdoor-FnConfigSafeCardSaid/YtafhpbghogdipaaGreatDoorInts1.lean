/- Slices of integers: laws.toIntS copies one, laws.eqIntS compares two. -/
import Derived.Test.YtafhpbghogdipaaGreatDoorAcc1
import Derived.Test.YtafhpbghogdipaaGreatDoorPick2
import Derived.LoopTactic
import Derived.Laws.MakeOwn
namespace Go.Proofs.YtafhpbghogdipaaGreatDoor
open Go.RowKit

theorem make_ints {P : Program} (t e : TypeId) (i : TypeInfo) (ht : P.underlying t = some (.slice e)) (hi : P.info? e = some i) (hz : i.zero = some (.int .i64 0)) (hsz : i.size = 1) (hby : i.bytes = 8)
    (n : Nat) (hn : n ≤ 140737488355328 / 8) (w : World) :
    (Instr.makeSlice t (.int .i64 (n : Int)) (.int .i64 (n : Int))).run P w = .ok (.slice (some ⟨w.heap.size, 0, none⟩) n n) (w.alloc (.cells (madeCells (Value.int .i64 0).cells n) e)) := by
  have hr := run_make (P := P) w t e i (.int .i64 0) ht hi hz .i64 .i64 n n (by omega) (by omega) (by rw [hby]; omega) (by omega)
  simp only [Int.toNat_natCast, hsz, Nat.mul_one] at hr
  exact hr

/-- A list of integers as cells, the first k of them laid, the rest still zero. -/
def part (zs : List Int) (k : Nat) : List Value := (zs.take k).map (Value.int .i64) ++ List.replicate (zs.length - k) (.int .i64 0)
theorem part_zero (zs : List Int) : part zs 0 = List.replicate zs.length (.int .i64 0) := by simp [part]
theorem part_all (zs : List Int) : part zs zs.length = zs.map (Value.int .i64) := by simp [part]
theorem part_len (zs : List Int) (k : Nat) (h : k ≤ zs.length) : (part zs k).length = zs.length := by simp [part]; omega
theorem part_mid (zs : List Int) (k : Nat) (h : k < zs.length) : part zs k = (zs.take k).map (Value.int .i64) ++ .int .i64 0 :: List.replicate (zs.length - (k + 1)) (.int .i64 0) := by
  unfold part
  rw [show zs.length - k = (zs.length - (k + 1)) + 1 by omega, List.replicate_succ]
theorem part_at (zs : List Int) (k : Nat) (h : k < zs.length) : (part zs k)[k]? = some (.int .i64 0) := by
  have hl : ((zs.take k).map (Value.int .i64)).length = k := by simp; omega
  rw [part_mid zs k h, List.getElem?_append_right (by omega), hl]
  simp
theorem set_mid (l r : List Value) (x v : Value) : (l ++ x :: r).set l.length v = l ++ v :: r := by simp
theorem part_set (zs : List Int) (k : Nat) (h : k < zs.length) : (part zs k).set k (.int .i64 zs[k]) = part zs (k + 1) := by
  have hl : ((zs.take k).map (Value.int .i64)).length = k := by simp; omega
  have h1 : part zs k = (zs.take k).map (Value.int .i64) ++ .int .i64 0 :: List.replicate (zs.length - (k + 1)) (.int .i64 0) := by
    unfold part
    rw [show zs.length - k = (zs.length - (k + 1)) + 1 by omega, List.replicate_succ]
  have h2 := set_mid ((zs.take k).map (Value.int .i64)) (List.replicate (zs.length - (k + 1)) (.int .i64 0)) (.int .i64 0) (.int .i64 zs[k])
  rw [hl] at h2
  rw [h1, h2]
  unfold part
  rw [List.take_succ_eq_append_getElem h, List.map_append, List.append_assoc]
  rfl
theorem made_ints (n : Nat) : madeCells (Value.int .i64 0).cells n = (List.replicate n (Value.int .i64 0)).toArray := by
  apply Array.ext_getElem?
  intro i
  by_cases h : i < n <;> simp [madeCells, Value.cells, h, Nat.mod_one]

theorem int_info : (Tryz.prog.info? 3).map (fun i => (i.zero, i.size, i.bytes)) = some (some (.int .i64 0), 1, 8) := by kernel_rfl

set_option maxHeartbeats 1000000
end Go.Proofs.YtafhpbghogdipaaGreatDoor
