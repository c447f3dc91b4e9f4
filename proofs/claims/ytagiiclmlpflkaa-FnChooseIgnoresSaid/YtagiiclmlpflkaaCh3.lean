/- The program's ChooseValue, and the law FnExactChooseValue. -/
import Derived.Test.YtagiiclmlpflkaaCh2
namespace Go.Proofs.Ytagiiclmlpflkaa
open Go.RowKit
set_option maxHeartbeats 2000000
set_option linter.unusedVariables false

theorem three_set {W : World} {H : Nat} {x y z a b c : Value} {T : TypeId} (h : W.heap[H]? = some (.cells #[x, y, z] T (0, 0))) : (((W.setCell ⟨H, 0, none⟩ a).setCell ⟨H, 1, none⟩ b).setCell ⟨H, 2, none⟩ c).heap[H]? = some (.cells #[a, b, c] T (0, 0)) := by
  simp [World.setCell, Array.getElem?_modify, h]

theorem first_set {w : World} {H : Nat} {x : Obj} (h : w.heap[H]? = some x) (hg : H < w.heap.size) (o : Obj) : (w.alloc o).heap[H]? = some x := (Below.heap_alloc w o H hg).trans h
theorem implChoose_any (A : Option Addr) (n c : Nat) (fl : List Int) (o : Int) (w : World) (B : Nat) (hA : Row w B A (fl.map (Value.int .i64))) (hB : B ≤ w.heap.size) (hl : fl.length = n * 3) (hn : n ≤ 1048576) : Calls Try.prog 7 #[.slice A n c, .int .i64 o] w fun e w' => e = .returned (.tuple #[.int .i64 (chV fl n o), .bool (chB fl n o)]) ∧ Below w.heap.size w w' := by
  have HA := Lib.hid (rec_src hA hl)
  have HR := Lib.hid hA
  have HL := Lib.hid hl
  have hBw := hB
  clear hA hl hB
  cases hq : inB o 1 99
  · have HX := Lib.hid (show chB fl n o = false by simp [chB, hq])
    go_enter Try.func7, Try.ntmps7
    go_wp2_with (go_at_call 17; refine (isValue_any _ _).mono ?_; rintro e w' ⟨rfl, hw'⟩; obtain rfl : w = w' := hw'.symm)
    go_ret2
    exact ⟨ret_iv (by simp [chV, HX.out]) HX.out.symm, Below.refl _ _⟩
  cases ha : accTo fl n
  · have HX := Lib.hid (show chB fl n o = false by simp [chB, hq, ha])
    go_enter Try.func7, Try.ntmps7
    go_wp2_with (first | (go_at_call 17; refine (isValue_any _ _).mono ?_; rintro e w' ⟨rfl, hw'⟩; obtain rfl : w = w' := hw'.symm) | (go_at_call 18; refine (containsFunc_any A n c fl _ B HR.out hBw HL.out hn).mono ?_; rintro e w1 ⟨rfl, hb1⟩))
    go_ret2
    exact ⟨ret_iv (by simp [chV, HX.out]) HX.out.symm, hb1⟩
  · have HX := Lib.hid (show chB fl n o = true by simp [chB, hq, ha])
    go_enter Try.func7, Try.ntmps7
    go_wp2_with (first | (go_at_call 17; refine (isValue_any _ _).mono ?_; rintro e w' ⟨rfl, hw'⟩; obtain rfl : w = w' := hw'.symm) | (go_at_call 18; refine (containsFunc_any A n c fl _ B HR.out hBw HL.out hn).mono ?_; rintro e w1 ⟨rfl, hb1⟩))
    have hz1 := hb1.size
    go_loopw [20] (fun i wr => ∃ (j : Nat) (p : Int), j ≤ n ∧ i = .int .i64 j ∧ wr.heap[w1.heap.size]? = some (.cells #[.int .i64 p, .int .i64 (bestA fl j), .int .i64 (bestV fl o j)] 29 (0, 0)) ∧ Below w.heap.size w wr) (fun i _ => n - (intOf i).toNat)
    case atStart => exact ⟨0, 0, Nat.zero_le _, rfl, heap_alloc_new w1 _, hb1.alloc hz1 _⟩
    case round =>
      obtain ⟨j, p, hj, rfl, hH, hB⟩ := hrel
      have hsz := hB.size
      have hg := blk_lt hH
      have HB := Lib.hid (fun o1 : Obj => (Below.heap_alloc wr o1 _ hg).trans hH)
      by_cases hjn : j < n
      · obtain ⟨b, off, rfl, hb, d0, d1, d2⟩ := HA.out j hjn
        have c0 := (hB.cell (p := ⟨b, off + j * 3, none⟩) (Nat.lt_of_lt_of_le hb hBw)).trans d0
        have c1 := (hB.cell (p := ⟨b, off + j * 3 + 1, none⟩) (Nat.lt_of_lt_of_le hb hBw)).trans d1
        have c2 := (hB.cell (p := ⟨b, off + j * 3 + 2, none⟩) (Nat.lt_of_lt_of_le hb hBw)).trans d2
        clear d0 d1 d2
        have H1 := Lib.hid (show bestA fl (j + 1) = if bestA fl j < fl.getD (j * 3 + 1) 0 then fl.getD (j * 3 + 1) 0 else bestA fl j from rfl)
        have H2 := Lib.hid (show bestV fl o (j + 1) = if bestA fl j < fl.getD (j * 3 + 1) 0 then fl.getD (j * 3 + 2) 0 else bestV fl o j from rfl)
        generalize fl.getD (j * 3) 0 = p2 at c0
        generalize fl.getD (j * 3 + 1) 0 = a2 at c1 H1 H2
        generalize fl.getD (j * 3 + 2) 0 = v2 at c2 H1 H2
        have i1 : (j : Int) < n := by omega
        have s0 : ∀ o1 : Obj, (wr.alloc o1).cell? ⟨w1.heap.size, 0, none⟩ = some (.int .i64 p) := fun o1 => by simp [World.cell?, HB.out o1]
        have s1 : ∀ o1 : Obj, (wr.alloc o1).cell? ⟨w1.heap.size, 1, none⟩ = some (.int .i64 (bestA fl j)) := fun o1 => by simp [World.cell?, HB.out o1]
        have s2 : ∀ o1 : Obj, (wr.alloc o1).cell? ⟨w1.heap.size, 2, none⟩ = some (.int .i64 (bestV fl o j)) := fun o1 => by simp [World.cell?, HB.out o1]
        have t0 : ∀ (o1 : Obj) (k : Nat), (wr.alloc o1).frozen? ⟨w1.heap.size, k, none⟩ = false := fun o1 k => by simp [World.frozen?, HB.out o1]
        have r0 : wr.cell? ⟨w1.heap.size, 0, none⟩ = some (.int .i64 p) := by simp [World.cell?, hH]
        have r1 : wr.cell? ⟨w1.heap.size, 1, none⟩ = some (.int .i64 (bestA fl j)) := by simp [World.cell?, hH]
        have r2 : wr.cell? ⟨w1.heap.size, 2, none⟩ = some (.int .i64 (bestV fl o j)) := by simp [World.cell?, hH]
        have r3 : ∀ k : Nat, wr.frozen? ⟨w1.heap.size, k, none⟩ = false := fun k => by simp [World.frozen?, hH]
        have HH := Lib.hid hH
        clear hH
        by_cases hq : bestA fl j < a2
        · go_wp2
          go_roundw
          case rel => exact ⟨j + 1, p2, by omega, by go_num, by rw [H1.out, H2.out, if_pos hq, if_pos hq]; exact (first_set (three_set HH.out) (by simpa using hg) _), by (repeat (first | (with_reducible exact Below.refl _ _) | (with_reducible assumption) | (with_reducible refine below_drewN ?_ _) | (with_reducible refine Below.drew ?_) | (with_reducible refine Below.alloc ?_ (by (first | omega | (show _ < _; omega) | (simp; omega) | (simp; done))) _) | (with_reducible refine Below.setCell ?_ (by (first | omega | (show _ < _; omega) | (simp; omega) | (simp; done))) _) | (with_reducible refine Below.trans ?_ (Below.mono (by with_reducible assumption) (by (first | omega | (show _ < _; omega) | (simp; omega) | (simp; done))))) | (with_reducible refine below_grown ?_ (by with_reducible assumption) (by (first | omega | (show _ < _; omega) | (simp; omega) | (simp; done))) (by (first | omega | (show _ < _; omega) | (simp; omega) | (simp; done))))))⟩
          case measure => simp [intOf]; omega
        · go_wp2
          go_roundw
          case rel => exact ⟨j + 1, p, by omega, by go_num, by rw [H1.out, H2.out, if_neg hq, if_neg hq]; exact HB.out _, by (repeat (first | (with_reducible exact Below.refl _ _) | (with_reducible assumption) | (with_reducible refine below_drewN ?_ _) | (with_reducible refine Below.drew ?_) | (with_reducible refine Below.alloc ?_ (by (first | omega | (show _ < _; omega) | (simp; omega) | (simp; done))) _) | (with_reducible refine Below.setCell ?_ (by (first | omega | (show _ < _; omega) | (simp; omega) | (simp; done))) _) | (with_reducible refine Below.trans ?_ (Below.mono (by with_reducible assumption) (by (first | omega | (show _ < _; omega) | (simp; omega) | (simp; done))))) | (with_reducible refine below_grown ?_ (by with_reducible assumption) (by (first | omega | (show _ < _; omega) | (simp; omega) | (simp; done))) (by (first | omega | (show _ < _; omega) | (simp; omega) | (simp; done))))))⟩
          case measure => simp [intOf]; omega
      · obtain rfl : j = n := by omega
        have s2 : wr.cell? ⟨w1.heap.size, 2, none⟩ = some (.int .i64 (bestV fl o j)) := by simp [World.cell?, hH]
        clear hH
        go_wp2
        go_ret2
        exact ⟨ret_iv (by simp [chV, HX.out]) HX.out.symm, hB⟩

theorem specChoose_is (A : Option Addr) (n c : Nat) (fl : List Int) (o : Int) (w : World) (B : Nat) (hA : Row w B A (fl.map (Value.int .i64))) (hB : B ≤ w.heap.size) (hl : fl.length = n * 3) (hn : n ≤ 1048576) {r : Int} {q : Bool} (hr : chV fl n o = r) (hq : chB fl n o = q) : Calls Try.prog 6 #[.slice A n c, .int .i64 o] w fun e w' => e = .returned (.tuple #[.int .i64 r, .bool q]) ∧ Below w.heap.size w w' := by
  rw [← hr, ← hq]; exact specChoose_any A n c fl o w B hA hB hl hn
theorem implChoose_is (A : Option Addr) (n c : Nat) (fl : List Int) (o : Int) (w : World) (B : Nat) (hA : Row w B A (fl.map (Value.int .i64))) (hB : B ≤ w.heap.size) (hl : fl.length = n * 3) (hn : n ≤ 1048576) {r : Int} {q : Bool} (hr : chV fl n o = r) (hq : chB fl n o = q) : Calls Try.prog 7 #[.slice A n c, .int .i64 o] w fun e w' => e = .returned (.tuple #[.int .i64 r, .bool q]) ∧ Below w.heap.size w w' := by
  rw [← hr, ← hq]; exact implChoose_any A n c fl o w B hA hB hl hn
end Go.Proofs.Ytagiiclmlpflkaa
