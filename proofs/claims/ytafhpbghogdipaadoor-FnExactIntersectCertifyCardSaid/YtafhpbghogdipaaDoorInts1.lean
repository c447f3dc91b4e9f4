/- Slices of integers: laws.toIntS copies one, laws.eqIntS compares two. -/
import Derived.Test.YtafhpbghogdipaaDoorAcc1
import Derived.Test.YtafhpbghogdipaaDoorPick2
import Derived.LoopTactic
import Derived.Laws.MakeOwn
namespace Go.Proofs.YtafhpbghogdipaaDoor
open Go.RowKit

theorem make_ints {P : Program} (t e : TypeId) (i : TypeInfo) (ht : P.underlying t = some (.slice e)) (hi : P.info? e = some i) (hz : i.zero = some (.int .i64 0)) (hsz : i.size = 1) (hby : i.bytes = 8)
    (n : Nat) (hn : n ≤ 140737488355328 / 8) (w : World) :
    (Instr.makeSlice t (.int .i64 (n : Int)) (.int .i64 (n : Int))).run P w = .ok (.slice (some ⟨w.heap.size, 0, none⟩) n n) (w.alloc (.cells (madeCells (Value.int .i64 0).cells n) e)) := by
  have hr := run_make (P := P) w t e i (.int .i64 0) ht hi hz .i64 .i64 n n (by omega) (by omega) (by rw [hby]; omega) (by omega)
  simp only [Int.toNat_natCast, hsz, Nat.mul_one] at hr
  exact hr

/-- A list of integers as cells, the first k of them laid, the rest still zero. -/
def part (zs : List Int) (k : Nat) : List Value := (zs.take k).map (Value.int .i64) ++ List.replicate (zs.length - k) (.int .i64 0)
theorem part_zero (zs : List Int) : part zs 0 = List.replicate zs.length (.int .i64 0) := by simp [part]
theorem part_all (zs : List Int) : part zs zs.length = zs.map (Value.int .i64) := by simp [part]
theorem part_len (zs : List Int) (k : Nat) (h : k ≤ zs.length) : (part zs k).length = zs.length := by simp [part]; omega
theorem part_mid (zs : List Int) (k : Nat) (h : k < zs.length) : part zs k = (zs.take k).map (Value.int .i64) ++ .int .i64 0 :: List.replicate (zs.length - (k + 1)) (.int .i64 0) := by
  unfold part
  rw [show zs.length - k = (zs.length - (k + 1)) + 1 by omega, List.replicate_succ]
theorem part_at (zs : List Int) (k : Nat) (h : k < zs.length) : (part zs k)[k]? = some (.int .i64 0) := by
  have hl : ((zs.take k).map (Value.int .i64)).length = k := by simp; omega
  rw [part_mid zs k h, List.getElem?_append_right (by omega), hl]
  simp
theorem set_mid (l r : List Value) (x v : Value) : (l ++ x :: r).set l.length v = l ++ v :: r := by simp
theorem part_set (zs : List Int) (k : Nat) (h : k < zs.length) : (part zs k).set k (.int .i64 zs[k]) = part zs (k + 1) := by
  have hl : ((zs.take k).map (Value.int .i64)).length = k := by simp; omega
  have h1 : part zs k = (zs.take k).map (Value.int .i64) ++ .int .i64 0 :: List.replicate (zs.length - (k + 1)) (.int .i64 0) := by
    unfold part
    rw [show zs.length - k = (zs.length - (k + 1)) + 1 by omega, List.replicate_succ]
  have h2 := set_mid ((zs.take k).map (Value.int .i64)) (List.replicate (zs.length - (k + 1)) (.int .i64 0)) (.int .i64 0) (.int .i64 zs[k])
  rw [hl] at h2
  rw [h1, h2]
  unfold part
  rw [List.take_succ_eq_append_getElem h, List.map_append, List.append_assoc]
  rfl
theorem made_ints (n : Nat) : madeCells (Value.int .i64 0).cells n = (List.replicate n (Value.int .i64 0)).toArray := by
  apply Array.ext_getElem?
  intro i
  by_cases h : i < n <;> simp [madeCells, Value.cells, h, Nat.mod_one]

theorem int_info : (Tryd.prog.info? 3).map (fun i => (i.zero, i.size, i.bytes)) = some (some (.int .i64 0), 1, 8) := by kernel_rfl

set_option maxHeartbeats 1000000
theorem toIntS_any (A : Option Addr) (n c : Nat) (zs : List Int) (w : World) (h : Ints .i64 w A n c zs) (hn : n ≤ 1048576) : Calls Tryd.prog 22 #[.slice A n c] w fun e w' =>
    e = .returned (.slice (some ⟨w.heap.size, 0, none⟩) n n) ∧ w'.heap[w.heap.size]? = some (.cells (zs.map (Value.int .i64)).toArray 3 (0, 0)) ∧ w'.heap.size = w.heap.size + 1 ∧ Below w.heap.size w w' := by
  obtain ⟨i0, hi, hz0, hz1, hz2⟩ := info_parts int_info
  have hlen := h.len
  have hmk : ∀ W : World, (Instr.makeSlice 24 (.int .i64 (n : Int)) (.int .i64 (n : Int))).run Tryd.prog W = .ok (.slice (some ⟨W.heap.size, 0, none⟩) n n) (W.alloc (.cells (part zs 0).toArray 3)) := fun W => by
    rw [make_ints 24 3 i0 Tryd.underlying24 hi hz0 hz1 hz2 n (by omega) W, made_ints, part_zero, hlen]
  clear hi hz0 hz1 hz2
  have hcap := h.cap
  have hmx := h.max
  unfold maxLen at hmx
  have HR := Lib.hid h.row
  clear h
  have HL := Lib.hid hlen
  clear hlen
  have hsrc : ∀ k : Nat, k < n → ∃ b off, A = some ⟨b, off, none⟩ ∧ b < w.heap.size ∧ w.cell? ⟨b, off + k, none⟩ = some (.int .i64 (zs.getD k 0)) := fun k hk => by
    have hkl : k < zs.length := by rw [HL.out]; exact hk
    have hz : (zs.map (Value.int .i64))[k]? = some (.int .i64 (zs.getD k 0)) := by simp [hkl]
    exact HR.out.at_ hz
  have HS := Lib.hid hsrc
  clear hsrc
  by_cases hn0 : n ≤ 0
  · go_enter Tryd.func22, Tryd.ntmps22
    go_wp2
    go_loopw [4] (fun i wr => ∃ k : Nat, k ≤ n ∧ i = .int .i64 k ∧ wr.heap[w.heap.size]? = some (.cells (part zs k).toArray 3 (0, 0)) ∧ wr.heap.size = w.heap.size + 1 ∧ Below w.heap.size w wr) (fun i _ => n - (intOf i).toNat)
    case atStart => exact ⟨0, Nat.zero_le _, rfl, heap_alloc_new w _, by simp, (Below.refl _ _).alloc (Nat.le_refl _) _⟩
    case round =>
      obtain ⟨k, hk, rfl, hH, hS, hB⟩ := hrel
      by_cases hkn : k < n
      · omega
      · have HH : Hid (wr.heap[w.heap.size]? = some (.cells (zs.map (Value.int .i64)).toArray 3 (0, 0))) := by
          rw [← part_all zs, HL.out, show n = k by omega]
          exact hH
        clear hH
        have HZ := Lib.hid hS
        clear hS
        go_wp2
        go_ret
        exact ⟨rfl, HH.out, HZ.out, hB⟩
  · obtain ⟨b, off, rfl, _, _⟩ := HS.out 0 (by omega)
    go_enter Tryd.func22, Tryd.ntmps22
    go_wp2
    go_loopw [4] (fun i wr => ∃ k : Nat, k ≤ n ∧ i = .int .i64 k ∧ wr.heap[w.heap.size]? = some (.cells (part zs k).toArray 3 (0, 0)) ∧ wr.heap.size = w.heap.size + 1 ∧ Below w.heap.size w wr) (fun i _ => n - (intOf i).toNat)
    case atStart => exact ⟨0, Nat.zero_le _, rfl, heap_alloc_new w _, by simp, (Below.refl _ _).alloc (Nat.le_refl _) _⟩
    case round =>
      obtain ⟨k, hk, rfl, hH, hS, hB⟩ := hrel
      by_cases hkn : k < n
      · have hkl : k < zs.length := by rw [HL.out]; exact hkn
        obtain ⟨b', off', e, hb, hc⟩ := HS.out k hkn
        cases e
        have hcr := (hB.cell (p := ⟨b, off + k, none⟩) hb).trans hc
        have c2 : wr.cell? ⟨w.heap.size, k, none⟩ = some (.int .i64 0) := by
          have := part_at zs k hkl
          simp [World.cell?, hH, this]
        have f2 : wr.frozen? ⟨w.heap.size, k, none⟩ = false := by simp [World.frozen?, hH]
        have hg : zs.getD k 0 = zs[k] := by simp [hkl]
        have h2 : (wr.setCell ⟨w.heap.size, k, none⟩ (.int .i64 zs[k])).heap[w.heap.size]? = some (.cells (part zs (k + 1)).toArray 3 (0, 0)) := by
          have hp := part_set zs k hkl
          rw [← hp]
          simp [World.setCell, Array.getElem?_modify, hH]
        have H2 := Lib.hid h2
        rw [hg] at hcr
        clear h2 hg
        have HZ := Lib.hid hS
        clear hH hS hc
        go_wp2
        go_roundw
        case rel => exact ⟨k + 1, by omega, by go_num, H2.out, by simpa using HZ.out, hB.setCell (Nat.le_refl _) _⟩
        case measure => simp [intOf]; omega
      · have HH : Hid (wr.heap[w.heap.size]? = some (.cells (zs.map (Value.int .i64)).toArray 3 (0, 0))) := by
          rw [← part_all zs, HL.out, show n = k by omega]
          exact hH
        clear hH
        have HZ := Lib.hid hS
        clear hS
        go_wp2
        go_ret
        exact ⟨rfl, HH.out, HZ.out, hB⟩
end Go.Proofs.YtafhpbghogdipaaDoor
