/- Slices of LogEntry: the laws' copy and comparison. -/
import Derived.Test.YtijilikkdnpbmaaLog3
import Derived.Test.YtijilikkdnpbmaaPart
import Derived.Deep.RegionHeld3
import Derived.Deep.DrawnRows
namespace Go.Proofs.Ytijilikkdnpbmaa
open Go.RowKit
set_option maxHeartbeats 2000000
set_option linter.unusedVariables false
attribute [local go_sem ↓] Go.wp_at_zero Go.wp_at_succ

theorem rec_src {w : World} {B n : Nat} {A : Option Addr} {fl : List Int} (h : Row w B A (fl.map (Value.int .i64))) (hl : fl.length = n * 2) :
    ∀ k : Nat, k < n → ∃ b off, A = some ⟨b, off, none⟩ ∧ b < B ∧ w.cell? ⟨b, off + k * 2, none⟩ = some (.int .i64 (fl.getD (k * 2) 0)) ∧ w.cell? ⟨b, off + k * 2 + 1, none⟩ = some (.int .i64 (fl.getD (k * 2 + 1) 0)) := fun k hk => by
  obtain ⟨b, off, e, hb, hc⟩ := h (by
    intro e
    have : fl.length = 0 := by simpa using congrArg List.length e
    omega)
  refine ⟨b, off, e, hb, ?_, ?_⟩
  · have h0 : k * 2 < fl.length := by omega
    exact hc (k * 2) _ (by simp [h0])
  · have h0 : k * 2 + 1 < fl.length := by omega
    rw [Nat.add_assoc]
    exact hc (k * 2 + 1) _ (by simp [h0])

theorem rec_set {W : World} {g k : Nat} {T : TypeId} {fl : List Int} (h : W.heap[g]? = some (.cells (part fl (k * 2)).toArray T (0, 0))) (hk : k * 2 + 1 < fl.length) :
    (((W.setCell ⟨g, k * 2, none⟩ (.int .i64 (fl.getD (k * 2) 0))).setCell ⟨g, k * 2 + 1, none⟩ (.int .i64 (fl.getD (k * 2 + 1) 0)))).heap[g]? = some (.cells (part fl ((k + 1) * 2)).toArray T (0, 0)) := by
  have e0 := part_set fl (k * 2) (by omega)
  have e1 := part_set fl (k * 2 + 1) (by omega)
  have h0 := blk_set (k := k * 2) h (.int .i64 (fl.getD (k * 2) 0))
  rw [e0] at h0
  have h1 := blk_set (k := k * 2 + 1) h0 (.int .i64 (fl.getD (k * 2 + 1) 0))
  rw [e1] at h1
  rw [show (k + 1) * 2 = k * 2 + 1 + 1 by omega]
  exact h1

theorem toLogEntry_any (x y : Int) (w : World) : Calls Try.prog 30 #[.agg #[.int .i64 x, .int .i64 y]] w fun e w' => e = .returned (.agg #[.int .i64 x, .int .i64 y]) ∧ ∃ c1 c2 c3 : Array Value, w' = ((w.alloc (.cells c1 50)).alloc (.cells c2 33)).alloc (.cells c3 33) := by
  go_enter Try.func30, Try.ntmps30
  go_wp2
  go_returns
  exact ⟨rfl, _, _, _, rfl⟩
theorem logentry_info : (Try.prog.info? 33).map (fun i => (i.zero, i.size, i.bytes)) = some (some (.agg #[Value.int .i64 0, Value.int .i64 0]), 2, 16) := by kernel_rfl

theorem toLogEntryS_any (A : Option Addr) (n c : Nat) (fl : List Int) (w : World) (h : Flat 2 w A n c fl) (hn : n ≤ 1048576) : Calls Try.prog 13 #[.slice A n c] w fun e w' =>
    e = .returned (.slice (some ⟨w.heap.size, 0, none⟩) n n) ∧ w'.heap[w.heap.size]? = some (.cells (fl.map (Value.int .i64)).toArray 33 (0, 0)) ∧ Below w.heap.size w w' := by
  obtain ⟨i0, hi, hz0, hz1, hz2⟩ := info_parts logentry_info
  have hlen := h.len
  have hmk : ∀ W : World, (Instr.makeSlice 25 (.int .i64 (n : Int)) (.int .i64 (n : Int))).run Try.prog W = .ok (.slice (some ⟨W.heap.size, 0, none⟩) n n) (W.alloc (.cells (part fl 0).toArray 33)) := fun W => by
    rw [make_recs 25 33 i0 _ Try.underlying25 hi hz0 n (by rw [hz2]; omega) (by omega) W, hz1, part_zero, hlen]
    simp only [Value.cells]
    rw [made_two]
  clear hi hz0 hz1 hz2
  have HA := Lib.hid (rec_src h.row hlen)
  have HL := Lib.hid hlen
  clear h hlen
  go_enter Try.func13, Try.ntmps13
  go_wp2
  go_loopw [4] (fun i wr => ∃ k : Nat, k ≤ n ∧ i = .int .i64 k ∧ wr.heap[w.heap.size]? = some (.cells (part fl (k * 2)).toArray 33 (0, 0)) ∧ Below w.heap.size w wr) (fun i _ => n - (intOf i).toNat)
  case atStart => exact ⟨0, Nat.zero_le _, rfl, by rw [Nat.zero_mul]; exact heap_alloc_new w _, (Below.refl _ _).alloc (Nat.le_refl _) _⟩
  case round =>
    obtain ⟨k, hk, rfl, hH, hB⟩ := hrel
    have hsz := hB.size
    by_cases hkn : k < n
    · obtain ⟨b, off, rfl, hb, d0, d1⟩ := HA.out k hkn
      have hkl : k * 2 + 1 < fl.length := by rw [HL.out]; omega
      have hg := blk_lt hH
      have HB := Lib.hid (fun o1 o2 o3 : Obj => show (((wr.alloc o1).alloc o2).alloc o3).heap[w.heap.size]? = some (.cells (part fl (k * 2)).toArray 33 (0, 0)) from (Below.heap_alloc _ o3 _ (by simp; omega)).trans ((Below.heap_alloc _ o2 _ (by simp; omega)).trans ((Below.heap_alloc wr o1 _ hg).trans hH)))
      have c0 := (hB.cell (p := ⟨b, off + k * 2, none⟩) hb).trans d0
      have c1 := (hB.cell (p := ⟨b, off + k * 2 + 1, none⟩) hb).trans d1
      obtain ⟨u0, hu0⟩ := part_at fl (k * 2) (k * 2) (by omega) (by omega)
      have s0 : ∀ o1 o2 o3 : Obj, (((wr.alloc o1).alloc o2).alloc o3).cell? ⟨w.heap.size, k * 2, none⟩ = some u0 := fun o1 o2 o3 => (blk_cell (HB.out o1 o2 o3) _).trans hu0
      have f0 : ∀ o1 o2 o3 : Obj, (((wr.alloc o1).alloc o2).alloc o3).frozen? ⟨w.heap.size, k * 2, none⟩ = false := fun o1 o2 o3 => blk_free (HB.out o1 o2 o3) _
      obtain ⟨u1, hu1⟩ := part_at fl (k * 2) (k * 2 + 1) (by omega) (by omega)
      have s1 : ∀ o1 o2 o3 : Obj, (((wr.alloc o1).alloc o2).alloc o3).cell? ⟨w.heap.size, k * 2 + 1, none⟩ = some u1 := fun o1 o2 o3 => (blk_cell (HB.out o1 o2 o3) _).trans hu1
      have f1 : ∀ o1 o2 o3 : Obj, (((wr.alloc o1).alloc o2).alloc o3).frozen? ⟨w.heap.size, k * 2 + 1, none⟩ = false := fun o1 o2 o3 => blk_free (HB.out o1 o2 o3) _
      clear d0 hu0 d1 hu1 hH
      obtain ⟨e0, he0⟩ : ∃ e, fl.getD (k * 2) 0 = e := ⟨_, rfl⟩
      rw [he0] at c0
      have HE0 := Lib.hid he0
      clear he0
      obtain ⟨e1, he1⟩ : ∃ e, fl.getD (k * 2 + 1) 0 = e := ⟨_, rfl⟩
      rw [he1] at c1
      have HE1 := Lib.hid he1
      clear he1
      have i1 : (k : Int) < n := by omega
      go_wp2_with (go_at_call 30; refine (toLogEntry_any _ _ _).mono ?_; rintro e w' ⟨rfl, c1, c2, c3, rfl⟩)
      go_roundw
      case rel =>
        have h2 := rec_set (HB.out (.cells c1 50) (.cells c2 33) (.cells c3 33)) hkl
        rw [HE0.out, HE1.out] at h2
        exact ⟨k + 1, by omega, by go_num, h2, by (repeat (first | (with_reducible exact Below.refl _ _) | (with_reducible assumption) | (with_reducible refine below_drewN ?_ _) | (with_reducible refine Below.drew ?_) | (with_reducible refine Below.alloc ?_ (by (first | omega | (show _ < _; omega) | (simp; omega) | (simp; done))) _) | (with_reducible refine Below.setCell ?_ (by (first | omega | (show _ < _; omega) | (simp; omega) | (simp; done))) _) | (with_reducible refine Below.trans ?_ (Below.mono (by with_reducible assumption) (by (first | omega | (show _ < _; omega) | (simp; omega) | (simp; done))))) | (with_reducible refine below_grown ?_ (by with_reducible assumption) (by (first | omega | (show _ < _; omega) | (simp; omega) | (simp; done))) (by (first | omega | (show _ < _; omega) | (simp; omega) | (simp; done))))))⟩
      case measure => simp [intOf]; omega
    · have HH := Lib.hid (show wr.heap[w.heap.size]? = some (.cells (fl.map (Value.int .i64)).toArray 33 (0, 0)) by
        rw [← part_all (zs := fl) (k := k * 2) (by rw [HL.out]; exact Nat.mul_le_mul_right _ (by omega))]
        exact hH)
      clear hH
      go_wp2
      go_ret
      exact ⟨rfl, HH.out, hB⟩

theorem eqLogEntry_same (x y : Int) (w : World) : Calls Try.prog 32 #[.agg #[.int .i64 x, .int .i64 y], .agg #[.int .i64 x, .int .i64 y]] w fun e w' => e = .returned (.bool true) ∧ w' = (w.alloc (.cells #[.int .i64 x, .int .i64 y] 33)).alloc (.cells #[.int .i64 x, .int .i64 y] 33) := by
  go_enter Try.func32, Try.ntmps32
  go_wp2
  go_ret
  exact ⟨rfl, rfl⟩
theorem eqLogEntryS_same (A B : Option Addr) (n c d : Nat) (fl : List Int) (w : World) (hA : Row w w.heap.size A (fl.map (Value.int .i64))) (hB : Row w w.heap.size B (fl.map (Value.int .i64))) (hl : fl.length = n * 2) (hn : n ≤ 1048576) :
    Calls Try.prog 15 #[.slice A n c, .slice B n d] w fun e w' => e = .returned (.bool true) ∧ Below w.heap.size w w' := by
  have HA := Lib.hid (rec_src hA hl)
  have HB := Lib.hid (rec_src hB hl)
  clear hA hB hl
  go_enter Try.func15, Try.ntmps15
  go_wp2
  go_loopw [5] (fun i wr => ∃ k : Nat, k ≤ n ∧ i = .int .i64 k ∧ Below w.heap.size w wr) (fun i _ => n - (intOf i).toNat)
  case atStart => exact ⟨0, Nat.zero_le _, rfl, Below.refl _ _⟩
  case round =>
    obtain ⟨k, hk, rfl, hbw⟩ := hrel
    have hsz := hbw.size
    by_cases hkn : k < n
    · obtain ⟨b, off, rfl, hb, d0, d1⟩ := HA.out k hkn
      obtain ⟨b2, off2, rfl, hb2, q0, q1⟩ := HB.out k hkn
      have c0 := (hbw.cell (p := ⟨b, off + k * 2, none⟩) hb).trans d0
      have p0 := (hbw.cell (p := ⟨b2, off2 + k * 2, none⟩) hb2).trans q0
      have c1 := (hbw.cell (p := ⟨b, off + k * 2 + 1, none⟩) hb).trans d1
      have p1 := (hbw.cell (p := ⟨b2, off2 + k * 2 + 1, none⟩) hb2).trans q1
      clear d0 q0 d1 q1
      generalize fl.getD (k * 2) 0 = e0 at c0 p0
      generalize fl.getD (k * 2 + 1) 0 = e1 at c1 p1
      have i1 : (k : Int) < n := by omega
      have i2 : (0 : Int) ≤ (k : Int) := by omega
      have hx : b < wr.heap.size := by omega
      have hx2 : b2 < wr.heap.size := by omega
      go_wp2
      go_region_held3 (fun w' => w'.cell? ⟨b, off + k * 2, none⟩ = some (.int .i64 e0) ∧ w'.cell? ⟨b, off + k * 2 + 1, none⟩ = some (.int .i64 e1) ∧ w'.cell? ⟨b2, off2 + k * 2, none⟩ = some (.int .i64 e0) ∧ w'.cell? ⟨b2, off2 + k * 2 + 1, none⟩ = some (.int .i64 e1)) ((first | exact ⟨c0, c1, p0, p1⟩ | (go_keep; done) | (have hh := ‹_ ∧ _ ∧ _›; refine ⟨?_, ?_, ?_, ?_⟩ <;> (rw [World.cell?_alloc_lt _ _ _ (by simp; omega), World.cell?_alloc_lt _ _ _ (by simp; omega)]; first | exact hh.1 | exact hh.2.1 | exact hh.2.2.1 | exact hh.2.2.2)))) (first | (go_at_call 32; refine (eqLogEntry_same _ _ _).mono ?_; rintro e w' ⟨rfl, rfl⟩))
      go_wp2
      go_roundw
      case rel => exact ⟨k + 1, by omega, by go_num, by (repeat (first | (with_reducible exact Below.refl _ _) | (with_reducible assumption) | (with_reducible refine below_drewN ?_ _) | (with_reducible refine Below.drew ?_) | (with_reducible refine Below.alloc ?_ (by (first | omega | (show _ < _; omega) | (simp; omega) | (simp; done))) _) | (with_reducible refine Below.setCell ?_ (by (first | omega | (show _ < _; omega) | (simp; omega) | (simp; done))) _) | (with_reducible refine Below.trans ?_ (Below.mono (by with_reducible assumption) (by (first | omega | (show _ < _; omega) | (simp; omega) | (simp; done))))) | (with_reducible refine below_grown ?_ (by with_reducible assumption) (by (first | omega | (show _ < _; omega) | (simp; omega) | (simp; done))) (by (first | omega | (show _ < _; omega) | (simp; omega) | (simp; done))))))⟩
      case measure => simp [intOf]; omega
    · go_wp2
      go_ret
      exact ⟨rfl, hbw⟩

theorem szLogEntryS_any (A : Option Addr) (n c : Nat) (w : World) (hn : n ≤ 9223372036854775807) : Calls Try.prog 11 #[.slice A n c, .int .i64 1048576] w fun e w' => e = .returned (.int .i64 (if n ≤ 1048576 then 1048576 - (n : Int) else -1)) ∧ w' = w := by
  by_cases h : n ≤ 1048576
  · have h1 : ¬ (1048576 : Int) - n < 0 := by omega
    rw [if_pos h]
    go_enter Try.func11, Try.ntmps11
    go_wp2
    go_ret
    exact ⟨rfl, rfl⟩
  · have h1 : (1048576 : Int) - n < 0 := by omega
    rw [if_neg h]
    go_enter Try.func11, Try.ntmps11
    go_wp2
    go_ret
    exact ⟨rfl, rfl⟩
end Go.Proofs.Ytijilikkdnpbmaa
