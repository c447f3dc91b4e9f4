/- The draws of vote assignments and of lists of members. -/
import Derived.Test.YtagiiclmlpflkaaMask
import Derived.Test.YtagiiclmlpflkaaPick2
namespace Go.Proofs.Ytagiiclmlpflkaa
open Go.RowKit
set_option maxHeartbeats 2000000

theorem own_empty {B : Nat} (w : World) (hB : B ≤ w.heap.size) : OwnI (w.alloc (.cells #[] 3)) B (.slice (some ⟨w.heap.size, 0, none⟩) 0 0) [] := owns_empty w _ hB
theorem own_grown {w w' : World} {B R : Nat} {v : Value} {zs : List Int} (h : OwnI w B v zs) (hg : w.grownBy w' (some R)) (hR : R < B) : OwnI w' B v zs := by
  refine World.ownsRow.kept h hg ?_
  cases hv : v.ownBlock with
  | none => exact .inl rfl
  | some k =>
    right
    intro e
    have := h.lt k hv
    cases e
    omega
theorem grown_below {a w w' : World} {row : Option Nat} {K : Nat} (h : a.grownBy w row) (hb : Below K w w') (hK : a.heap.size ≤ K) : a.grownBy w' row :=
  ⟨hb.os.trans h.os, hb.tape.trans h.tape, hb.output.trans h.output, Nat.le_trans h.size hb.size, fun i hi hne => (hb.block i (by omega)).trans (h.block i hi hne)⟩
theorem all_snoc {P : Int → Prop} {zs : List Int} {x : Int} (h : ∀ z ∈ zs, P z) (hx : P x) : ∀ z ∈ zs ++ [x], P z := by
  intro z hz
  rw [List.mem_append] at hz
  rcases hz with hz | hz
  · exact h z hz
  · simp at hz
    subst hz
    exact hx

theorem drawSet_any (A : Option Addr) (n c : Nat) (zs0 : List Int) (w : World) (h : Ints .u8 w A n c zs0) : Calls Try.prog 8 #[.slice A n c] w fun e w' =>
    ∃ v zs, e = .returned v ∧ OwnI w' w.heap.size v zs ∧ (zs.length ≤ 8 ∧ ∀ z ∈ zs, -2 ≤ z ∧ z ≤ 10) ∧ Below w.heap.size w w' := by
  go_enter Try.func8, Try.ntmps8
  go_wp2_with fail
  (refine (l6Open_any A n c zs0 _ w h (by (repeat (first | (with_reducible exact Below.refl _ _) | (with_reducible assumption) | (with_reducible refine below_drewN ?_ _) | (with_reducible refine Below.drew ?_) | (with_reducible refine Below.alloc ?_ (by (first | omega | (show _ < _; omega) | (simp; omega) | (simp; done))) _) | (with_reducible refine Below.setCell ?_ (by (first | omega | (show _ < _; omega) | (simp; omega) | (simp; done))) _) | (with_reducible refine Below.trans ?_ (Below.mono (by with_reducible assumption) (by (first | omega | (show _ < _; omega) | (simp; omega) | (simp; done))))) | (with_reducible refine below_grown ?_ (by with_reducible assumption) (by (first | omega | (show _ < _; omega) | (simp; omega) | (simp; done))) (by (first | omega | (show _ < _; omega) | (simp; omega) | (simp; done)))))))).mono ?_; rintro e w1 ⟨rfl, n', c', hw1, hrd⟩; have hbw1 : Below w.heap.size w w1 := (by rw [hw1]; exact (Below.refl _ _).alloc (Nat.le_refl _) _); have hsw1 : w.heap.size + 1 ≤ w1.heap.size := (by rw [hw1]; simp); clear hw1)
  go_wp2_with fail
  (apply Calls.mono; focus (apply pick_abs; exact hrd; omega)); rintro e w2 ⟨x, rfl, hx0, hx1, hrd2, hsz2, hcp2, hfp2, hgp2⟩
  replace hx1 := hx1 (by omega)
  replace hsz2 := Nat.le_of_eq hsz2.symm
  have hbw2 := below_grown hbw1 hgp2 (by omega) (Nat.le_refl _)
  clear hcp2 hfp2 hgp2 hrd
  obtain ⟨m, rfl⟩ := Int.eq_ofNat_of_zero_le hx0
  go_wp2_with fail
  refine (l1OfMask_any m (by omega) _).mono ?_
  rintro e w3 ⟨v, rfl, hown, hb3⟩
  have hlen := ofTo_len m 6
  have hbd := ofTo_bd m 6
  have hrd3 := hrd2.keep (hb3.mono hrd2.lt)
  have hbw3 := hbw2.trans (hb3.mono (by omega))
  have hsz3 := hb3.size
  have hown : OwnI w3 (w.heap.size + 1) v (ofTo m 6) := owns_less hown (by omega)
  clear hb3 hrd2
  go_wp2_with fail
  (apply Calls.mono; focus (apply pick_abs; exact hrd3; omega)); rintro e w4 ⟨x, rfl, hx0, hx1, hrd4, hsz4, hcp4, hfp4, hgp4⟩
  replace hx1 := hx1 (by omega)
  replace hsz4 := Nat.le_of_eq hsz4.symm
  have hown4 := own_grown hown hgp4 (by omega)
  have hbw4 := below_grown hbw3 hgp4 (by omega) (Nat.le_refl _)
  clear hcp4 hfp4 hgp4 hrd3 hown
  by_cases hx : x = 0
  · subst hx
    go_wp2_with fail
    (apply Calls.mono; focus (apply pick_abs; exact hrd4; omega)); rintro e w5 ⟨y, rfl, hy0, hy1, hrd5, hsz5, hcp5, hfp5, hgp5⟩
    replace hy1 := hy1 (by omega)
    replace hsz5 := Nat.le_of_eq hsz5.symm
    have hown5 := own_grown hown4 hgp5 (by omega)
    have hbw5 := below_grown hbw4 hgp5 (by omega) (Nat.le_refl _)
    clear hcp5 hfp5 hgp5 hrd4 hown4
    go_wp2_with (at_builtin; refine wpl_append_int rfl _ _ (by rfl) (w.heap.size + 1) _ _ _ (by rfl) hown5 (by rfl) (by omega) (by omega) ?_; intro v' w6 hown6 hb6 _ _)
    go_ret
    exact ⟨_, ofTo m 6 ++ [y - 1], rfl, owns_less hown6 (by omega), ⟨by simp; omega, all_snoc (fun z hz => by have := hbd z hz; omega) (by omega)⟩, hbw5.trans (hb6.mono (by omega))⟩
  · have hx' : (x == 0) = false := by simpa using hx
    have HO := Lib.hid hown4
    clear hown4
    go_wp2_with fail
    go_ret
    exact ⟨_, ofTo m 6, rfl, owns_less HO.out (by omega), ⟨by omega, fun z hz => by have := hbd z hz; omega⟩, hbw4⟩
end Go.Proofs.Ytagiiclmlpflkaa
