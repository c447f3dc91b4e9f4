/- The law FnSetFormatParse: its walk. -/
import Derived.Test.YtdpclcogfkjbcaaDoorPar5
import Derived.Test.YtdpclcogfkjbcaaDoorDr2
namespace Go.Proofs.YtdpclcogfkjbcaaDoor
open Go.RowKit
set_option maxHeartbeats 8000000
set_option linter.unusedVariables false

theorem drawFormat_any (A : Option Addr) (n c : Nat) (zs0 : List Int) (w : World) (h : Ints .u8 w A n c zs0) : Calls Tryd.prog 12 #[.slice A n c] w fun e w' =>
    ∃ (A' : Option Addr) (n' c' : Nat) (zs : List Int), e = .returned (.slice A' n' c') ∧ zs.length = n' ∧ n' ≤ 7 ∧ Row w' w'.heap.size A' (zs.map (Value.int .i64)) ∧ Below w.heap.size w w' := by
  go_enter Tryd.func12, Tryd.ntmps12
  go_wp2_with fail
  (refine (l6Open_any A n c zs0 _ w h (by (repeat (first | (with_reducible exact Below.refl _ _) | (with_reducible assumption) | (with_reducible refine below_drewN ?_ _) | (with_reducible refine Below.drew ?_) | (with_reducible refine Below.alloc ?_ (by (first | omega | (show _ < _; omega) | (simp; omega) | (simp; done))) _) | (with_reducible refine Below.setCell ?_ (by (first | omega | (show _ < _; omega) | (simp; omega) | (simp; done))) _) | (with_reducible refine Below.trans ?_ (Below.mono (by with_reducible assumption) (by (first | omega | (show _ < _; omega) | (simp; omega) | (simp; done))))) | (with_reducible refine below_grown ?_ (by with_reducible assumption) (by (first | omega | (show _ < _; omega) | (simp; omega) | (simp; done))) (by (first | omega | (show _ < _; omega) | (simp; omega) | (simp; done)))))))).mono ?_; rintro e w1 ⟨rfl, n', c', hw1, hrd⟩; have hbw1 : Below w.heap.size w w1 := (by rw [hw1]; exact (Below.refl _ _).alloc (Nat.le_refl _) _); have hsw1 : w.heap.size + 1 ≤ w1.heap.size := (by rw [hw1]; simp); clear hw1)
  go_wp2_with fail
  refine (l91Set_any _ _ _ hrd (by omega)).mono ?_
  rintro e w3 ⟨A', n', c', zs, rfl, hl, hn, hrow, _, hg⟩
  have HB := Lib.hid (below_grown hbw1 hg (by omega) (Nat.le_refl _))
  have HR := Lib.hid hrow
  have HL := Lib.hid hl
  clear hg hrow hl
  go_wp2_with fail
  go_ret
  exact ⟨A', n', c', zs, rfl, HL.out, hn, HR.out, HB.out⟩
theorem parV_fmt {zs : List Int} (h : setB zs = true) : parV (fmtS zs) = (zs, true) := by
  obtain ⟨p1, p2, p3⟩ := par_set h
  unfold parV
  rw [if_pos ⟨p1, by rw [p2]; unfold fmtO; rw [if_pos h]⟩, p2]
theorem fmtS_pos (zs : List Int) : 0 < (fmtS zs).size := by
  unfold fmtS
  rw [size_bytes]
  simp
theorem fmtS_size {zs : List Int} (h : setB zs = true) : (fmtS zs).size ≤ 100 := by
  have h1 := fPre_size h zs.length
  have h2 := congrArg ByteArray.size (fPre_all zs)
  rw [ByteArray.size_append] at h2
  have h3 : (⟨#[125]⟩ : ByteArray).size = 1 := rfl
  omega

theorem formatParse_walk (A : Option Addr) (n c : Nat) (zs0 : List Int) (w : World) (h : Ints .u8 w A n c zs0) (hV : VF w) : Calls Tryd.prog 4 #[.slice A n c] w fun e w' => e = .returned (.bool true) ∧ Below w.heap.size w w' := by
  have hmx := h.max
  have hcp := h.cap
  unfold maxLen at hmx
  by_cases hl : 1048576 < n
  · have hl2 : (1048576 : Int) < n := by omega
    go_enter Tryd.func4, Tryd.ntmps4
    go_wp2
    go_ret
    exact ⟨rfl, Below.refl _ _⟩
  have hl2 : ¬ (1048576 : Int) < n := by omega
  have HV := Lib.hid hV
  clear hV
  go_enter Tryd.func4, Tryd.ntmps4
  go_wp2_with fail
  refine (drawFormat_any A n c zs0 _ h).mono ?_
  rintro e wd ⟨A', n', c', zs, rfl, hlen, hn7, hrow, hbd⟩
  clear h
  have HBd := Lib.hid hbd
  have HR := Lib.hid hrow
  have HL := Lib.hid hlen
  clear hbd hrow hlen
  go_wp2_with fail
  refine (implFormat_any A' n' c' zs wd HR.out HL.out (by omega)).mono ?_
  rintro e w1 ⟨rfl, hb1⟩
  have HB1 := Lib.hid (HBd.out.trans (hb1.mono HBd.out.size))
  have HR1 := Lib.hid ((HR.out.below hb1).more hb1.size)
  clear hb1
  go_wp2_with fail
  refine (specFormat_any A' n' c' zs w1 HR1.out HL.out (by omega)).mono ?_
  rintro e w2 ⟨rfl, hb2⟩
  have HB2 := Lib.hid (HB1.out.trans (hb2.mono HB1.out.size))
  have HR2 := Lib.hid ((HR1.out.below hb2).more hb2.size)
  clear hb2
  cases hs : setB zs
  · have e1 : fmtO zs = ⟨#[]⟩ := by unfold fmtO; rw [if_neg (by rw [hs]; simp)]
    have HE := Lib.hid e1
    rw [e1]
    clear e1 hs
    go_wp2_with fail
    refine (specFormat_any A' n' c' zs w2 HR2.out HL.out (by omega)).mono ?_
    rintro e w3 ⟨rfl, hb3⟩
    rw [HE.out]
    have HB3 := Lib.hid (HB2.out.trans (hb3.mono HB2.out.size))
    clear hb3
    go_wp2_with fail
    go_ret
    exact ⟨rfl, HB3.out⟩
  · have e1 : fmtO zs = fmtS zs := by unfold fmtO; rw [if_pos hs]
    have hne := no_empty (fmtS zs) (fmtS_pos zs)
    have hsz := fmtS_size hs
    have HP := Lib.hid (implParse_any (fmtS zs) (by omega) w2 (HV.out.below HB2.out))
    unfold ParQ at HP
    rw [parV_fmt hs] at HP
    rw [e1]
    clear e1 hs hsz
    generalize fmtS zs = t at hne HP ⊢
    go_wp2_with fail
    refine HP.out.mono ?_
    rintro e w3 ⟨v, rfl, hown, hb3⟩
    have HB3 := Lib.hid (HB2.out.trans (hb3.mono HB2.out.size))
    have HR3 := Lib.hid ((HR2.out.below hb3).more hb3.size)
    obtain ⟨A3, c3, hv3, _, _, hr3⟩ := owns_row hown
    have HX3 := Lib.hid hr3
    subst hv3
    clear hown hb3 hr3
    rw [HL.out]
    go_wp2_with fail
    refine (sameInts_same A3 A' n' c3 c' zs w3 HX3.out HR3.out HL.out (by omega)).mono ?_
    rintro e w4 ⟨rfl, m4, hw4⟩
    have HB4 := Lib.hid (show Below w.heap.size w w4 by rw [hw4]; exact below_drewN HB3.out m4)
    clear hw4
    go_wp2_with fail
    go_ret
    exact ⟨rfl, HB4.out⟩
end Go.Proofs.YtdpclcogfkjbcaaDoor
