/- The draws of vote assignments and of lists of members. -/
import Derived.Test.YtiepoadnncnbkaaMask
import Derived.Test.YtiepoadnncnbkaaPick2
namespace Go.Proofs.Ytiepoadnncnbkaa
open Go.RowKit
set_option maxHeartbeats 2000000

theorem own_empty {B : Nat} (w : World) (hB : B ≤ w.heap.size) : OwnI (w.alloc (.cells #[] 3)) B (.slice (some ⟨w.heap.size, 0, none⟩) 0 0) [] := owns_empty w _ hB
theorem own_grown {w w' : World} {B R : Nat} {v : Value} {zs : List Int} (h : OwnI w B v zs) (hg : w.grownBy w' (some R)) (hR : R < B) : OwnI w' B v zs := by
  refine World.ownsRow.kept h hg ?_
  cases hv : v.ownBlock with
  | none => exact .inl rfl
  | some k =>
    right
    intro e
    have := h.lt k hv
    cases e
    omega
theorem grown_below {a w w' : World} {row : Option Nat} {K : Nat} (h : a.grownBy w row) (hb : Below K w w') (hK : a.heap.size ≤ K) : a.grownBy w' row :=
  ⟨hb.os.trans h.os, hb.tape.trans h.tape, hb.output.trans h.output, Nat.le_trans h.size hb.size, fun i hi hne => (hb.block i (by omega)).trans (h.block i hi hne)⟩
theorem all_snoc {P : Int → Prop} {zs : List Int} {x : Int} (h : ∀ z ∈ zs, P z) (hx : P x) : ∀ z ∈ zs ++ [x], P z := by
  intro z hz
  rw [List.mem_append] at hz
  rcases hz with hz | hz
  · exact h z hz
  · simp at hz
    subst hz
    exact hx

theorem l91Weights_any (R : Nat) {B : Nat} (q : Int) (w : World) (hR : Rdr w R B q) (hq : q ≤ 40000) : Calls Try.prog 57 #[.pointer (some ⟨R, 0, none⟩)] w fun e w' =>
    ∃ v zs, e = .returned v ∧ OwnI w' w.heap.size v zs ∧ (zs.length ≤ 7 ∧ ∀ z ∈ zs, 0 ≤ z ∧ z ≤ 10) ∧ (∃ q', q' ≤ q + 10 ∧ Rdr w' R B q') ∧ w.grownBy w' (some R) := by
  have hlt := hR.lt
  have hlo := hR.lo
  go_enter Try.func57, Try.ntmps57
  go_wp2_with fail
  (apply Calls.mono; focus (apply pick_abs; (focus (repeat (first | (with_reducible assumption) | (with_reducible apply Rdr.drewN) | (with_reducible apply Rdr.drew) | (with_reducible apply Rdr.alloc) | (with_reducible apply Rdr.next) | (with_reducible apply Rdr.keepB; with_reducible assumption) | (with_reducible apply Rdr.setCell; (first | omega | (show _ < _; omega) | (simp; omega) | (simp; done))) | (with_reducible apply Rdr.setLow; (first | omega | (show _ < _; omega) | (simp; omega) | (simp; done)); (first | omega | (show _ < _ ∨ _ < _; omega) | (simp; omega)))))); omega)); rintro e wp ⟨v, rfl, hv0, hv1, hrd, hsz, hcp, hfp, hgp⟩
  replace hv1 := hv1 (by omega)
  try simp at hsz
  replace hsz := Nat.le_of_eq hsz.symm
  have hown0 := own_grown (B := w.heap.size) (own_empty w (Nat.le_refl _)) hgp hlt
  have hg0 := grown_trans (grown_alloc (World.grownBy.refl w (some R)) _) hgp
  clear hcp hfp hgp
  obtain ⟨kk, rfl⟩ := Int.eq_ofNat_of_zero_le hv0
  go_wp2_with fail
  go_loopw [3, 4] (fun u i wr => ∃ (zs : List Int) (k : Nat) (q' : Int), i = .int .i64 (k : Int) ∧ k ≤ 6 ∧ zs.length + k ≤ 6 ∧ (∀ z ∈ zs, 0 ≤ z ∧ z ≤ 10) ∧ OwnI wr w.heap.size u zs ∧ q' + k ≤ q + 8 ∧ Rdr wr R B q' ∧ w.grownBy wr (some R)) (fun _ i _ => (intOf i).toNat)
  case atStart => exact ⟨[], kk + 1, q + 1, by go_num, by omega, by simp; omega, by simp, hown0, by omega, hrd, hg0⟩
  case round =>
    obtain ⟨zs, k, q', rfl, hk, hlen, hall, hown, hq', hrd', hg⟩ := hrel
    have hszr := hg.size
    have hlo' := hrd'.lo
    by_cases hk0 : 0 < k
    · go_wp2_with fail
      (apply Calls.mono; focus (apply pick_abs; exact hrd'; omega)); rintro e wp2 ⟨x, rfl, hx0, hx1, hrd2, hsz2, hcp2, hfp2, hgp2⟩
      replace hx1 := hx1 (by omega)
      replace hsz2 := Nat.le_of_eq hsz2.symm
      have hown2 := own_grown hown hgp2 hlt
      have hg2 := grown_trans hg hgp2
      have hszr2 := hg2.size
      clear hcp2 hfp2 hgp2 hrd' hg hown
      go_wp2_with (at_builtin; refine wpl_append_int rfl _ _ (by rfl) w.heap.size _ _ _ (by rfl) hown2 (by rfl) (by omega) hszr2 ?_; intro v' w1 hown1 hb1 _ _)
      go_roundw
      case rel =>
        refine ⟨zs ++ [x], k - 1, q' + 1, by go_num, by omega, by simp; omega, all_snoc hall (by omega), hown1, by omega, hrd2.keep (hb1.mono (by omega)), grown_below hg2 hb1 (Nat.le_refl _)⟩
      case measure => simp [intOf]; omega
    · go_wp2_with fail
      (apply Calls.mono; focus (apply pick_abs; exact hrd'; omega)); rintro e wp2 ⟨x, rfl, hx0, hx1, hrd2, hsz2, hcp2, hfp2, hgp2⟩
      replace hx1 := hx1 (by omega)
      replace hsz2 := Nat.le_of_eq hsz2.symm
      have hown2 := own_grown hown hgp2 hlt
      have hg2 := grown_trans hg hgp2
      have hszr2 := hg2.size
      clear hcp2 hfp2 hgp2 hrd' hg hown
      by_cases hx : x = 0
      · subst hx
        go_wp2_with (at_builtin; refine wpl_append_int rfl _ _ (by rfl) w.heap.size _ _ _ (by rfl) hown2 (by rfl) (by omega) hszr2 ?_; intro v' w1 hown1 hb1 _ _)
        go_ret
        exact ⟨_, zs ++ [10], rfl, hown1, ⟨by simp; omega, all_snoc hall (by omega)⟩, ⟨q' + 1, by omega, hrd2.keep (hb1.mono (by omega))⟩, grown_below hg2 hb1 (Nat.le_refl _)⟩
      · have hx' : (x == 0) = false := by simpa using hx
        have HO := Lib.hid hown2
        clear hown2
        go_wp2_with fail
        go_ret
        exact ⟨_, zs, rfl, HO.out, ⟨by omega, hall⟩, ⟨q' + 1, by omega, hrd2⟩, hg2⟩

end Go.Proofs.Ytiepoadnncnbkaa
