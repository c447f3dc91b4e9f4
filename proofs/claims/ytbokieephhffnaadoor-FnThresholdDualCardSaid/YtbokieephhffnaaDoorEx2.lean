/- The program's parser: take and digit. -/
import Derived.Test.YtbokieephhffnaaDoorEx1
import Derived.Test.YtbokieephhffnaaDoorPick2
namespace Go.Proofs.YtbokieephhffnaaDoor
open Go.RowKit
set_option maxHeartbeats 2000000

/-- Block P is a parser with r left. -/
def Psr (w : World) (P : Nat) (r : ByteArray) : Prop := w.heap[P]? = some (.cells #[.string r] 64 (0, 0))
theorem Psr.cell {w : World} {P : Nat} {r : ByteArray} (h : Psr w P r) : w.cell? ⟨P, 0, none⟩ = some (.string r) ∧ w.frozen? ⟨P, 0, none⟩ = false ∧ P < w.heap.size := by
  have hl : P < w.heap.size := by
    rcases Nat.lt_or_ge P w.heap.size with hlt | hge
    · exact hlt
    · unfold Psr at h
      rw [Array.getElem?_eq_none hge] at h; cases h
  exact ⟨by simp [World.cell?, Psr.eq_1 .. ▸ h], by simp [World.frozen?, Psr.eq_1 .. ▸ h], hl⟩
theorem Psr.set {w : World} {P : Nat} {r : ByteArray} (h : Psr w P r) (r' : ByteArray) : Psr (w.setCell ⟨P, 0, none⟩ (.string r')) P r' := by
  unfold Psr at h ⊢
  simp [World.setCell, Array.getElem?_modify, h]
theorem lst_ne {r : ByteArray} (h : 0 < r.size) : r.toList ≠ [] ∧ (r.toList == []) = false := by
  have : r.toList.length = r.size := by rw [ByteArray.toList_eq]; exact (Lib.size_eq r).symm
  have h2 : r.toList ≠ [] := by intro e; rw [e] at this; simp at this; omega
  exact ⟨h2, by simpa using h2⟩
theorem lst_nil {r : ByteArray} (h : ¬ 0 < r.size) : r.toList = [] ∧ (r.toList == []) = true := by
  have : r.toList.length = r.size := by rw [ByteArray.toList_eq]; exact (Lib.size_eq r).symm
  have h2 : r.toList = [] := List.eq_nil_of_length_eq_zero (by omega)
  exact ⟨h2, by rw [h2]; rfl⟩

theorem take_no (P b : Nat) (r : ByteArray) (w : World) (h : Psr w P r) (hb : fst r ≠ b) (_hb0 : 0 < b) : Calls Tryd.prog 34 #[.pointer (some ⟨P, 0, none⟩), .int .u8 (b : Int)] w fun e w' => e = .returned (.bool false) ∧ w' = w := by
  obtain ⟨c1, c2, c3⟩ := h.cell
  by_cases h0 : 0 < r.size
  · obtain ⟨e1, e2⟩ := lst_ne h0
    have hb1 := bt_at h0
    obtain ⟨x, hx⟩ : ∃ x, r[0] = x := ⟨_, rfl⟩
    rw [hx] at hb1
    have hn : ¬ ((x.toNat : Nat) : Int) = b := by unfold fst at hb; omega
    have hn2 : (((x.toNat : Nat) : Int) != b) = true := by simpa using hn
    have h0' : (0 : Int) < r.size := by omega
    clear h hb1 hb
    go_enter Tryd.func34, Tryd.ntmps34
    go_wp2
    go_ret
    exact ⟨rfl, rfl⟩
  · obtain ⟨e1, e2⟩ := lst_nil h0
    clear h hb
    go_enter Tryd.func34, Tryd.ntmps34
    go_wp2
    go_ret
    exact ⟨rfl, rfl⟩
theorem take_yes (P b : Nat) (r : ByteArray) (w : World) (h : Psr w P r) (hb : fst r = b) (hb0 : 0 < b) : Calls Tryd.prog 34 #[.pointer (some ⟨P, 0, none⟩), .int .u8 (b : Int)] w fun e w' => e = .returned (.bool true) ∧ w' = w.setCell ⟨P, 0, none⟩ (.string (r.extract 1 r.size)) := by
  obtain ⟨c1, c2, c3⟩ := h.cell
  have h0 : 0 < r.size := bt_lt (s := r) (i := 0) (by unfold fst at hb; omega)
  obtain ⟨e1, e2⟩ := lst_ne h0
  have hb1 := bt_at h0
  obtain ⟨x, hx⟩ : ∃ x, r[0] = x := ⟨_, rfl⟩
  rw [hx] at hb1
  have hn : ((x.toNat : Nat) : Int) = b := by unfold fst at hb; omega
  have hn2 : (((x.toNat : Nat) : Int) != b) = false := by simpa using hn
  have h0' : (0 : Int) < r.size := by omega
  have h0'' : (1 : Int) ≤ r.size := by omega
  have h01 : 1 ≤ r.size := h0
  clear h hb1 hb
  go_enter Tryd.func34, Tryd.ntmps34
  go_wp2
  go_ret
  exact ⟨rfl, rfl⟩
theorem digit_no (P : Nat) (r : ByteArray) (w : World) (h : Psr w P r) (hb : isD (fst r) = false) : Calls Tryd.prog 33 #[.pointer (some ⟨P, 0, none⟩)] w fun e w' => e = .returned (.tuple #[.int .i64 0, .bool false]) ∧ w' = w := by
  obtain ⟨c1, c2, c3⟩ := h.cell
  by_cases h0 : 0 < r.size
  · obtain ⟨e1, e2⟩ := lst_ne h0
    have hb1 := bt_at h0
    obtain ⟨x, hx⟩ : ∃ x, r[0] = x := ⟨_, rfl⟩
    rw [hx] at hb1
    have hn : x.toNat < 49 ∨ 54 < x.toNat := by
      rcases Nat.lt_or_ge x.toNat 49 with h1 | h1
      · exact .inl h1
      · rcases Nat.lt_or_ge 54 x.toNat with h2 | h2
        · exact .inr h2
        · unfold fst at hb
          rw [hb1, isD_iff.2 ⟨h1, h2⟩] at hb
          cases hb
    have h0' : (0 : Int) < r.size := by omega
    clear h hb1 hb
    obtain ⟨c, hc⟩ : ∃ c, x.toNat = c := ⟨_, rfl⟩
    rw [hc] at hn
    by_cases hc1 : (c : Int) < 49
    · clear hn
      go_enter Tryd.func33, Tryd.ntmps33
      go_wp2
      go_ret2
      exact ⟨rfl, rfl⟩
    · have hc2 : (54 : Int) < c := by omega
      clear hn
      go_enter Tryd.func33, Tryd.ntmps33
      go_wp2
      go_ret2
      exact ⟨rfl, rfl⟩
  · obtain ⟨e1, e2⟩ := lst_nil h0
    clear h hb
    go_enter Tryd.func33, Tryd.ntmps33
    go_wp2
    go_ret2
    exact ⟨rfl, rfl⟩
theorem digit_yes (P : Nat) (r : ByteArray) (w : World) (h : Psr w P r) (hb : isD (fst r) = true) : Calls Tryd.prog 33 #[.pointer (some ⟨P, 0, none⟩)] w fun e w' => e = .returned (.tuple #[.int .i64 ((fst r - 48 : Nat) : Int), .bool true]) ∧ w' = w.setCell ⟨P, 0, none⟩ (.string (r.extract 1 r.size)) := by
  obtain ⟨c1, c2, c3⟩ := h.cell
  obtain ⟨d1, d2⟩ := isD_iff.1 hb
  have h0 : 0 < r.size := bt_lt (s := r) (i := 0) (by unfold fst at d1; omega)
  obtain ⟨e1, e2⟩ := lst_ne h0
  have hb1 : fst r = _ := bt_at h0
  obtain ⟨x, hx⟩ : ∃ x, r[0] = x := ⟨_, rfl⟩
  rw [hx] at hb1
  rw [hb1] at d1 d2 ⊢
  have hx2 := byte_lt x
  obtain ⟨c, hc⟩ : ∃ c, x.toNat = c := ⟨_, rfl⟩
  rw [hc] at d1 d2 hx2 ⊢
  have hc1 : ¬ (c : Int) < 49 := by omega
  have hc2 : ¬ (54 : Int) < c := by omega
  have hsub := u8_sub (c := c) (by omega) (by omega)
  obtain ⟨N, hN⟩ : ∃ N, c - 48 = N := ⟨_, rfl⟩
  rw [hN] at hsub ⊢
  have hN6 : N ≤ 6 := by omega
  have h0' : (0 : Int) < r.size := by omega
  have h0'' : (1 : Int) ≤ r.size := by omega
  have h01 : 1 ≤ r.size := h0
  clear h hb1 hb hN
  go_enter Tryd.func33, Tryd.ntmps33
  go_wp2
  go_ret2
  exact ⟨rfl, rfl⟩
end Go.Proofs.YtbokieephhffnaaDoor
