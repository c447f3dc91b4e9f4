/- The draw of a list of members: the reference's l91Set. -/
import Derived.Test.YtdpclcogfkjbcaaDoorDr1
import Derived.Test.YtdpclcogfkjbcaaDoorInts2
namespace Go.Proofs.YtdpclcogfkjbcaaDoor
open Go.RowKit
set_option maxHeartbeats 4000000
set_option linter.unusedVariables false

/-- What a draw of a list of members leaves. -/
def SetQ (R B : Nat) (q : Int) (w : World) (e : Ending) (w' : World) : Prop := ∃ (A : Option Addr) (n c : Nat) (zs : List Int), e = .returned (.slice A n c) ∧ zs.length = n ∧ n ≤ 7 ∧ Row w' w'.heap.size A (zs.map (Value.int .i64)) ∧ (∃ q', q' ≤ q + 3 ∧ Rdr w' R B q') ∧ w.grownBy w' (some R)
theorem SetQ.own {R B : Nat} {q q' : Int} {w w' : World} {v : Value} {zs : List Int} {K : Nat} (h : OwnI w' K v zs) (hl : zs.length ≤ 7) (hr : Rdr w' R B q') (hq : q' ≤ q + 3) (hg : w.grownBy w' (some R)) : SetQ R B q w (.returned v) w' := by
  obtain ⟨A, c, rfl, _, _, hrow⟩ := owns_row h
  exact ⟨A, _, c, zs, rfl, rfl, hl, hrow, ⟨q', hq, hr⟩, hg⟩
theorem l91Set_any (R : Nat) {B : Nat} (q : Int) (w : World) (hR : Rdr w R B q) (hq : q ≤ 40000) : Calls Tryd.prog 23 #[.pointer (some ⟨R, 0, none⟩)] w (SetQ R B q w) := by
  have hlt := hR.lt
  have hlo := hR.lo
  go_enter Tryd.func23, Tryd.ntmps23
  go_wp2_with fail
  (apply Calls.mono; focus (apply pick_abs; exact hR; omega)); rintro e wa ⟨xa, rfl, hx0a, hx1a, hrda, hsza, hcpa, hfpa, hgpa⟩
  replace hx1a := hx1a (by omega)
  replace hsza := Nat.le_of_eq hsza.symm
  have hga := hgpa
  clear hcpa hfpa hgpa
  obtain ⟨m, rfl⟩ := Int.eq_ofNat_of_zero_le hx0a
  go_wp2_with fail
  refine (l1OfMask_any m (by omega) _).mono ?_
  rintro e wb ⟨v, rfl, hown, hbb⟩
  have hlen := ofTo_len m 6
  have hrdb := hrda.keep (hbb.mono (by omega))
  have hgb := grown_below hga hbb (by omega)
  have hszb := hbb.size
  have hown : OwnI wb w.heap.size v (ofTo m 6) := owns_less hown (by omega)
  clear hbb hrda hga
  go_wp2_with fail
  (apply Calls.mono; focus (apply pick_abs; exact hrdb; omega)); rintro e wc ⟨xc, rfl, hx0c, hx1c, hrdc, hszc, hcpc, hfpc, hgpc⟩
  replace hx1c := hx1c (by omega)
  replace hszc := Nat.le_of_eq hszc.symm
  have hownc := own_grown hown hgpc (by omega)
  have hgc := grown_trans hgb hgpc
  clear hcpc hfpc hgpc hrdb hown hgb
  by_cases h0 : xc = 0
  · subst h0
    go_wp2_with fail
    (apply Calls.mono; focus (apply pick_abs; exact hrdc; omega)); rintro e wd ⟨xd, rfl, hx0d, hx1d, hrdd, hszd, hcpd, hfpd, hgpd⟩
    replace hx1d := hx1d (by omega)
    replace hszd := Nat.le_of_eq hszd.symm
    have hownd := own_grown hownc hgpd (by omega)
    have hgd := grown_trans hgc hgpd
    clear hcpd hfpd hgpd hrdc hownc hgc
    go_wp2_with (at_builtin; refine wpl_append_int rfl _ _ (by rfl) w.heap.size _ _ _ (by rfl) hownd (by rfl) (by omega) (by omega) ?_; intro v' w6 hown6 hb6 _ _)
    go_ret
    exact SetQ.own hown6 (by simp; omega) (hrdd.keep (hb6.mono (by omega))) (by omega) (grown_below hgd hb6 (by omega))
  · by_cases h1 : xc = 1
    · subst h1
      have HO := Lib.hid hownc
      have HR := Lib.hid hrdc
      have HG := Lib.hid hgc
      clear hownc hrdc hgc
      go_wp2_with fail
      go_ret
      exact ⟨_, 2, 2, [2, 1], rfl, rfl, by omega, row_new (heap_alloc_new wc _) (by simp), ⟨_, by omega, HR.out.alloc _⟩, grown_alloc HG.out _⟩
    · have q0 : (xc == 0) = false := by simpa using h0
      have q1 : (xc == 1) = false := by simpa using h1
      have HO := Lib.hid hownc
      have HR := Lib.hid hrdc
      have HG := Lib.hid hgc
      clear hownc hrdc hgc h0 h1
      go_wp2_with fail
      go_ret
      exact SetQ.own HO.out (by omega) HR.out (by omega) HG.out
end Go.Proofs.YtdpclcogfkjbcaaDoor
