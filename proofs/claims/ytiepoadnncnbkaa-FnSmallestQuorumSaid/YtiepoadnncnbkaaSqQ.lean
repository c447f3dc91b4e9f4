/- The draw of a family: spec.l91Family. -/
import Derived.Test.YtiepoadnncnbkaaSqP
import Derived.Test.YtiepoadnncnbkaaDr1
namespace Go.Proofs.Ytiepoadnncnbkaa
open Go.RowKit
set_option maxHeartbeats 4000000
set_option linter.unusedVariables false

theorem hd_lit {w : World} {B : Nat} {v : Value} {x : Int} {tt : TypeId} (hB : B ≤ w.heap.size) (hv : ∀ r, v.ownBlock = some r → r < w.heap.size) :
    Hd (w.alloc (.cells #[.int .i64 x] tt)) B v (.slice (some ⟨w.heap.size, 0, none⟩) 1 1) [x] := by
  refine .inr ⟨w.heap.size, 1, rfl, Nat.le_refl _, by unfold maxLen; omega, hB, by simp, fun e => by have := hv _ e; omega, fun j y hy => ?_⟩
  cases j with
  | zero => simp at hy; subst hy; simp
  | succ j => simp at hy
theorem hd_lit0 {w : World} {B : Nat} {v : Value} {tt : TypeId} (hB : B ≤ w.heap.size) (hv : ∀ r, v.ownBlock = some r → r < w.heap.size) :
    Hd (w.alloc (.cells #[] tt)) B v (.slice (some ⟨w.heap.size, 0, none⟩) 0 0) [] :=
  .inr ⟨w.heap.size, 0, rfl, Nat.le_refl _, Nat.zero_le _, hB, by simp, fun e => by have := hv _ e; omega, fun j y hy => by simp at hy⟩
theorem hx_lit (w : World) (o : Obj) : Value.slice (some ⟨w.heap.size + 1, 0, none⟩) 1 1 = Value.slice (some ⟨(w.alloc o).heap.size, 0, none⟩) 1 1 := by simp
theorem le_lit {w : World} {B : Nat} (h : B ≤ w.heap.size) (o : Obj) : B ≤ (w.alloc o).heap.size := by simp; omega
theorem short_one {x : Int} (h : 1 ≤ x ∧ x ≤ 6) : Short [x] := ⟨by simp, fun y hy => by simp at hy; subst hy; exact h⟩
theorem short_nil : Short [] := ⟨by simp, fun y hy => by cases hy⟩

/-- The call has made a short list of short rows, and has gone on in the code. -/
def FaRes (R B : Nat) (q : Int) (w : World) (e : Ending) (w' : World) : Prop := ∃ v rows, e = .returned v ∧ OwnM w' w.heap.size v rows ∧ (rows.length ≤ 65 ∧ ∀ z ∈ rows, Short z) ∧ (∃ q', q' ≤ q + 40 ∧ Rdr w' R B q') ∧ w.grownBy w' (some R)

theorem l91Family_any (R : Nat) {B : Nat} (q : Int) (w : World) (hR : Rdr w R B q) (hq : q ≤ 20000) : Calls Try.prog 44 #[.pointer (some ⟨R, 0, none⟩)] w (FaRes R B q w) := by
  have hlt := hR.lt
  have hlo := hR.lo
  go_enter Try.func44, Try.ntmps44
  go_wp2_with fail
  (apply Calls.mono; focus (apply pick_abs; (focus (repeat (first | (with_reducible assumption) | (with_reducible apply Rdr.drewN) | (with_reducible apply Rdr.drew) | (with_reducible apply Rdr.alloc) | (with_reducible apply Rdr.next) | (with_reducible apply Rdr.keepB; with_reducible assumption) | (with_reducible apply Rdr.setCell; (first | omega | (show _ < _; omega) | (simp; omega) | (simp; done))) | (with_reducible apply Rdr.setLow; (first | omega | (show _ < _; omega) | (simp; omega) | (simp; done)); (first | omega | (show _ < _ ∨ _ < _; omega) | (simp; omega)))))); omega)); rintro e w1 ⟨x, rfl, hx0, hx1, hrd1, hsz1, hcp1, hfp1, hgp1⟩
  replace hx1 := hx1 (by omega)
  try simp at hsz1
  replace hsz1 := Nat.le_of_eq hsz1.symm
  have HO1 := Lib.hid ((OwnM.empty (B := w.heap.size) w (Nat.le_refl _)).grown hgp1 hlt)
  have hg1 := grown_trans (grown_alloc (World.grownBy.refl w (some R)) _) hgp1
  clear hcp1 hfp1 hgp1 hR
  rcases (show x = 0 ∨ x = 1 ∨ x = 2 by omega) with rfl | rfl | rfl
  · go_wp2_with fail
    refine (l91Expr_any _ _ _ hrd1 (by omega)).mono ?_
    rintro e w2 ⟨str, rfl, ⟨_, hstr⟩, ⟨q2, hq2, hrd2⟩, hgx⟩
    have HO2 := Lib.hid (HO1.out.grown hgx hlt)
    have hg2 := grown_trans hg1 hgx
    have hsz2 := hg2.size
    clear hgx HO1 hg1 hrd1
    go_wp2_with fail
    refine (familyOfExpr_any str (by omega) w2).mono ?_
    rintro e w3 ⟨v, rows, ok, rfl, hown3, hs3, hb3⟩
    have HOv := Lib.hid (hown3.less hsz2)
    have HSv := Lib.hid hs3
    have HO0 := Lib.hid (HO2.out.below hb3 (Nat.le_refl _))
    have hrd3 := hrd2.keepB hb3
    have hg3 := grown_below hg2 hb3 hsz2
    clear hown3 hs3 hb3 HO2 hg2 hrd2
    cases ok
    · clear HOv HSv
      have HS0 : Hid (([] : List (List Int)).length ≤ 64 ∧ ∀ z ∈ ([] : List (List Int)), Short z) := Lib.hid ⟨by simp, fun z h => by cases h⟩
      have hlenT := HS0.out.1
      have hszv := hg3.size
      go_wp2_with fail
      (apply Calls.mono; focus (apply pick_abs; exact hrd3; omega)); rintro e wt ⟨xt, rfl, hxt0, hxt1, hrdt, hszt, hcpt, hfpt, hgpt⟩
      replace hxt1 := hxt1 (by omega)
      replace hszt := Nat.le_of_eq hszt.symm
      clear hcpt hfpt
      have HOt := Lib.hid (HO0.out.grown hgpt hlt)
      have hgt := grown_trans hg3 hgpt
      have hszt2 := hgt.size
      clear hgpt
      by_cases hxa : xt = 0
      · subst hxa
        go_wp2_with fail
        (apply Calls.mono; focus (apply pick_abs; exact hrdt; omega)); rintro e wu ⟨xu, rfl, hxu0, hxu1, hrdu, hszu, hcpu, hfpu, hgpu⟩
        replace hxu1 := hxu1 (by omega)
        replace hszu := Nat.le_of_eq hszu.symm
        clear hcpu hfpu
        have HOu := Lib.hid (HOt.out.grown hgpu hlt)
        have hgu := grown_trans hgt hgpu
        have hszu2 := hgu.size
        clear hgpu HOt hgt hrdt
        have hwx : IntKind.i64.wrap (1 + xu) = 1 + xu := IntWalk.i64_in _ (by omega)
        go_wp2_with (at_builtin; refine wpl_append_row rfl _ _ (by rfl) w.heap.size _ [] _ [1 + xu] (by rfl) (HOu.out.below ((Below.refl wu.heap.size wu).alloc (Nat.le_refl _) _) (Nat.le_refl _)) (hd_lit hszu2 HOu.out.lt) (by refine Eq.trans (b := Value.slice (some ⟨wu.heap.size + 1, 0, none⟩) 1 1) (by rfl) (hx_lit wu _)) (by omega) (le_lit hszu2 _) ?_; intro v8 w8 hown8 hb8 _)
        go_ret
        exact ⟨v8, [] ++ [[1 + xu]], rfl, hown8, ⟨by simp <;> omega, short_snoc HS0.out.2 (short_one (by omega))⟩, ⟨_, by omega, (hrdu.alloc _).keep (hb8.mono (by have := hrdu.lt; simp; omega))⟩, grown_below (grown_alloc hgu _) hb8 (Nat.le_refl _)⟩
      by_cases hxb : xt = 1
      · subst hxb
        go_wp2_with (at_builtin; refine wpl_append_row rfl _ _ (by rfl) w.heap.size _ [] _ [] (by rfl) (HOt.out.below ((Below.refl wt.heap.size wt).alloc (Nat.le_refl _) _) (Nat.le_refl _)) (hd_lit0 hszt2 HOt.out.lt) (by refine Eq.trans (b := Value.slice (some ⟨wt.heap.size + 1, 0, none⟩) 1 1) (by rfl) (hx_lit wt _)) (by omega) (le_lit hszt2 _) ?_; intro v8 w8 hown8 hb8 _)
        go_ret
        exact ⟨v8, [] ++ [[]], rfl, hown8, ⟨by simp <;> omega, short_snoc HS0.out.2 short_nil⟩, ⟨_, by omega, (hrdt.alloc _).keep (hb8.mono (by have := hrdt.lt; simp; omega))⟩, grown_below (grown_alloc hgt _) hb8 (Nat.le_refl _)⟩
      have hxa' : (xt == 0) = false := by simpa using hxa
      have hxb' : (xt == 1) = false := by simpa using hxb
      go_wp2
      go_ret
      exact ⟨_, [], rfl, HOt.out, ⟨by omega, HS0.out.2⟩, ⟨_, by omega, hrdt⟩, hgt⟩
    · clear HO0
      have hlenT := HSv.out.1
      have hszv := hg3.size
      go_wp2_with fail
      (apply Calls.mono; focus (apply pick_abs; exact hrd3; omega)); rintro e wt ⟨xt, rfl, hxt0, hxt1, hrdt, hszt, hcpt, hfpt, hgpt⟩
      replace hxt1 := hxt1 (by omega)
      replace hszt := Nat.le_of_eq hszt.symm
      clear hcpt hfpt
      have HOt := Lib.hid (HOv.out.grown hgpt hlt)
      have hgt := grown_trans hg3 hgpt
      have hszt2 := hgt.size
      clear hgpt
      by_cases hxa : xt = 0
      · subst hxa
        go_wp2_with fail
        (apply Calls.mono; focus (apply pick_abs; exact hrdt; omega)); rintro e wu ⟨xu, rfl, hxu0, hxu1, hrdu, hszu, hcpu, hfpu, hgpu⟩
        replace hxu1 := hxu1 (by omega)
        replace hszu := Nat.le_of_eq hszu.symm
        clear hcpu hfpu
        have HOu := Lib.hid (HOt.out.grown hgpu hlt)
        have hgu := grown_trans hgt hgpu
        have hszu2 := hgu.size
        clear hgpu HOt hgt hrdt
        have hwx : IntKind.i64.wrap (1 + xu) = 1 + xu := IntWalk.i64_in _ (by omega)
        go_wp2_with (at_builtin; refine wpl_append_row rfl _ _ (by rfl) w.heap.size _ rows _ [1 + xu] (by rfl) (HOu.out.below ((Below.refl wu.heap.size wu).alloc (Nat.le_refl _) _) (Nat.le_refl _)) (hd_lit hszu2 HOu.out.lt) (by refine Eq.trans (b := Value.slice (some ⟨wu.heap.size + 1, 0, none⟩) 1 1) (by rfl) (hx_lit wu _)) (by omega) (le_lit hszu2 _) ?_; intro v8 w8 hown8 hb8 _)
        go_ret
        exact ⟨v8, rows ++ [[1 + xu]], rfl, hown8, ⟨by simp <;> omega, short_snoc HSv.out.2 (short_one (by omega))⟩, ⟨_, by omega, (hrdu.alloc _).keep (hb8.mono (by have := hrdu.lt; simp; omega))⟩, grown_below (grown_alloc hgu _) hb8 (Nat.le_refl _)⟩
      by_cases hxb : xt = 1
      · subst hxb
        go_wp2_with (at_builtin; refine wpl_append_row rfl _ _ (by rfl) w.heap.size _ rows _ [] (by rfl) (HOt.out.below ((Below.refl wt.heap.size wt).alloc (Nat.le_refl _) _) (Nat.le_refl _)) (hd_lit0 hszt2 HOt.out.lt) (by refine Eq.trans (b := Value.slice (some ⟨wt.heap.size + 1, 0, none⟩) 1 1) (by rfl) (hx_lit wt _)) (by omega) (le_lit hszt2 _) ?_; intro v8 w8 hown8 hb8 _)
        go_ret
        exact ⟨v8, rows ++ [[]], rfl, hown8, ⟨by simp <;> omega, short_snoc HSv.out.2 short_nil⟩, ⟨_, by omega, (hrdt.alloc _).keep (hb8.mono (by have := hrdt.lt; simp; omega))⟩, grown_below (grown_alloc hgt _) hb8 (Nat.le_refl _)⟩
      have hxa' : (xt == 0) = false := by simpa using hxa
      have hxb' : (xt == 1) = false := by simpa using hxb
      go_wp2
      go_ret
      exact ⟨_, rows, rfl, HOt.out, ⟨by omega, HSv.out.2⟩, ⟨_, by omega, hrdt⟩, hgt⟩
  · go_wp2_with fail
    refine (l91Weights_any _ _ _ hrd1 (by omega)).mono ?_
    rintro e w2 ⟨vz, zs, rfl, hoz, ⟨hlz, _⟩, ⟨q2, hq2, hrd2⟩, hgx⟩
    have HO2 := Lib.hid (HO1.out.grown hgx hlt)
    have hg2 := grown_trans hg1 hgx
    have hsz2 := hg2.size
    clear hgx HO1 hg1 hrd1
    go_wp2_with fail
    (apply Calls.mono; focus (apply pick_abs; exact hrd2; omega)); rintro e w4 ⟨y, rfl, hy0, hy1, hrd4, hsz4, hcp4, hfp4, hgp4⟩
    replace hy1 := hy1 (by omega)
    replace hsz4 := Nat.le_of_eq hsz4.symm
    clear hcp4 hfp4
    have HO4 := Lib.hid (HO2.out.grown hgp4 hlt)
    have hoz4 := own_grown (owns_less hoz (Nat.le_refl w1.heap.size)) hgp4 (by omega)
    have hg4 := grown_trans hg2 hgp4
    have hsz4' := hg4.size
    clear hgp4 HO2 hg2 hrd2 hoz
    obtain ⟨Az, cz, rfl, _, _, hrz⟩ := owns_row hoz4
    obtain ⟨L, hL⟩ : ∃ L, zs.length = L := ⟨_, rfl⟩
    have HW := Lib.hid (fun need => weightsFamily_any Az L cz zs need w4 hrz hL (by omega))
    rw [hL]
    clear hoz4 hrz hlz hL
    go_wp2_with fail
    refine (HW.out _).mono ?_
    rintro e w3 ⟨v, rows, ok, rfl, hown3, hs3, hb3⟩
    have HOv := Lib.hid (hown3.less hsz4')
    have HSv := Lib.hid hs3
    have HO0 := Lib.hid (HO4.out.below hb3 (Nat.le_refl _))
    have hrd3 := hrd4.keepB hb3
    have hg3 := grown_below hg4 hb3 hsz4'
    clear hown3 hs3 hb3 HO4 hg4 hrd4 HW
    cases ok
    · clear HOv HSv
      have HS0 : Hid (([] : List (List Int)).length ≤ 64 ∧ ∀ z ∈ ([] : List (List Int)), Short z) := Lib.hid ⟨by simp, fun z h => by cases h⟩
      have hlenT := HS0.out.1
      have hszv := hg3.size
      go_wp2_with fail
      (apply Calls.mono; focus (apply pick_abs; exact hrd3; omega)); rintro e wt ⟨xt, rfl, hxt0, hxt1, hrdt, hszt, hcpt, hfpt, hgpt⟩
      replace hxt1 := hxt1 (by omega)
      replace hszt := Nat.le_of_eq hszt.symm
      clear hcpt hfpt
      have HOt := Lib.hid (HO0.out.grown hgpt hlt)
      have hgt := grown_trans hg3 hgpt
      have hszt2 := hgt.size
      clear hgpt
      by_cases hxa : xt = 0
      · subst hxa
        go_wp2_with fail
        (apply Calls.mono; focus (apply pick_abs; exact hrdt; omega)); rintro e wu ⟨xu, rfl, hxu0, hxu1, hrdu, hszu, hcpu, hfpu, hgpu⟩
        replace hxu1 := hxu1 (by omega)
        replace hszu := Nat.le_of_eq hszu.symm
        clear hcpu hfpu
        have HOu := Lib.hid (HOt.out.grown hgpu hlt)
        have hgu := grown_trans hgt hgpu
        have hszu2 := hgu.size
        clear hgpu HOt hgt hrdt
        have hwx : IntKind.i64.wrap (1 + xu) = 1 + xu := IntWalk.i64_in _ (by omega)
        go_wp2_with (at_builtin; refine wpl_append_row rfl _ _ (by rfl) w.heap.size _ [] _ [1 + xu] (by rfl) (HOu.out.below ((Below.refl wu.heap.size wu).alloc (Nat.le_refl _) _) (Nat.le_refl _)) (hd_lit hszu2 HOu.out.lt) (by refine Eq.trans (b := Value.slice (some ⟨wu.heap.size + 1, 0, none⟩) 1 1) (by rfl) (hx_lit wu _)) (by omega) (le_lit hszu2 _) ?_; intro v8 w8 hown8 hb8 _)
        go_ret
        exact ⟨v8, [] ++ [[1 + xu]], rfl, hown8, ⟨by simp <;> omega, short_snoc HS0.out.2 (short_one (by omega))⟩, ⟨_, by omega, (hrdu.alloc _).keep (hb8.mono (by have := hrdu.lt; simp; omega))⟩, grown_below (grown_alloc hgu _) hb8 (Nat.le_refl _)⟩
      by_cases hxb : xt = 1
      · subst hxb
        go_wp2_with (at_builtin; refine wpl_append_row rfl _ _ (by rfl) w.heap.size _ [] _ [] (by rfl) (HOt.out.below ((Below.refl wt.heap.size wt).alloc (Nat.le_refl _) _) (Nat.le_refl _)) (hd_lit0 hszt2 HOt.out.lt) (by refine Eq.trans (b := Value.slice (some ⟨wt.heap.size + 1, 0, none⟩) 1 1) (by rfl) (hx_lit wt _)) (by omega) (le_lit hszt2 _) ?_; intro v8 w8 hown8 hb8 _)
        go_ret
        exact ⟨v8, [] ++ [[]], rfl, hown8, ⟨by simp <;> omega, short_snoc HS0.out.2 short_nil⟩, ⟨_, by omega, (hrdt.alloc _).keep (hb8.mono (by have := hrdt.lt; simp; omega))⟩, grown_below (grown_alloc hgt _) hb8 (Nat.le_refl _)⟩
      have hxa' : (xt == 0) = false := by simpa using hxa
      have hxb' : (xt == 1) = false := by simpa using hxb
      go_wp2
      go_ret
      exact ⟨_, [], rfl, HOt.out, ⟨by omega, HS0.out.2⟩, ⟨_, by omega, hrdt⟩, hgt⟩
    · clear HO0
      have hlenT := HSv.out.1
      have hszv := hg3.size
      go_wp2_with fail
      (apply Calls.mono; focus (apply pick_abs; exact hrd3; omega)); rintro e wt ⟨xt, rfl, hxt0, hxt1, hrdt, hszt, hcpt, hfpt, hgpt⟩
      replace hxt1 := hxt1 (by omega)
      replace hszt := Nat.le_of_eq hszt.symm
      clear hcpt hfpt
      have HOt := Lib.hid (HOv.out.grown hgpt hlt)
      have hgt := grown_trans hg3 hgpt
      have hszt2 := hgt.size
      clear hgpt
      by_cases hxa : xt = 0
      · subst hxa
        go_wp2_with fail
        (apply Calls.mono; focus (apply pick_abs; exact hrdt; omega)); rintro e wu ⟨xu, rfl, hxu0, hxu1, hrdu, hszu, hcpu, hfpu, hgpu⟩
        replace hxu1 := hxu1 (by omega)
        replace hszu := Nat.le_of_eq hszu.symm
        clear hcpu hfpu
        have HOu := Lib.hid (HOt.out.grown hgpu hlt)
        have hgu := grown_trans hgt hgpu
        have hszu2 := hgu.size
        clear hgpu HOt hgt hrdt
        have hwx : IntKind.i64.wrap (1 + xu) = 1 + xu := IntWalk.i64_in _ (by omega)
        go_wp2_with (at_builtin; refine wpl_append_row rfl _ _ (by rfl) w.heap.size _ rows _ [1 + xu] (by rfl) (HOu.out.below ((Below.refl wu.heap.size wu).alloc (Nat.le_refl _) _) (Nat.le_refl _)) (hd_lit hszu2 HOu.out.lt) (by refine Eq.trans (b := Value.slice (some ⟨wu.heap.size + 1, 0, none⟩) 1 1) (by rfl) (hx_lit wu _)) (by omega) (le_lit hszu2 _) ?_; intro v8 w8 hown8 hb8 _)
        go_ret
        exact ⟨v8, rows ++ [[1 + xu]], rfl, hown8, ⟨by simp <;> omega, short_snoc HSv.out.2 (short_one (by omega))⟩, ⟨_, by omega, (hrdu.alloc _).keep (hb8.mono (by have := hrdu.lt; simp; omega))⟩, grown_below (grown_alloc hgu _) hb8 (Nat.le_refl _)⟩
      by_cases hxb : xt = 1
      · subst hxb
        go_wp2_with (at_builtin; refine wpl_append_row rfl _ _ (by rfl) w.heap.size _ rows _ [] (by rfl) (HOt.out.below ((Below.refl wt.heap.size wt).alloc (Nat.le_refl _) _) (Nat.le_refl _)) (hd_lit0 hszt2 HOt.out.lt) (by refine Eq.trans (b := Value.slice (some ⟨wt.heap.size + 1, 0, none⟩) 1 1) (by rfl) (hx_lit wt _)) (by omega) (le_lit hszt2 _) ?_; intro v8 w8 hown8 hb8 _)
        go_ret
        exact ⟨v8, rows ++ [[]], rfl, hown8, ⟨by simp <;> omega, short_snoc HSv.out.2 short_nil⟩, ⟨_, by omega, (hrdt.alloc _).keep (hb8.mono (by have := hrdt.lt; simp; omega))⟩, grown_below (grown_alloc hgt _) hb8 (Nat.le_refl _)⟩
      have hxa' : (xt == 0) = false := by simpa using hxa
      have hxb' : (xt == 1) = false := by simpa using hxb
      go_wp2
      go_ret
      exact ⟨_, rows, rfl, HOt.out, ⟨by omega, HSv.out.2⟩, ⟨_, by omega, hrdt⟩, hgt⟩
  · go_wp2_with fail
    have hrd1' := hrd1.alloc (.cells #[] 27)
    have hg1' := grown_alloc hg1 (.cells #[] 27)
    have hszA := hg1.size
    have hownA := OwnM.empty (B := w.heap.size) w1 hszA
    clear HO1 hg1 hrd1
    (apply Calls.mono; focus (apply pick_abs; (focus (repeat (first | (with_reducible assumption) | (with_reducible apply Rdr.drewN) | (with_reducible apply Rdr.drew) | (with_reducible apply Rdr.alloc) | (with_reducible apply Rdr.next) | (with_reducible apply Rdr.keepB; with_reducible assumption) | (with_reducible apply Rdr.setCell; (first | omega | (show _ < _; omega) | (simp; omega) | (simp; done))) | (with_reducible apply Rdr.setLow; (first | omega | (show _ < _; omega) | (simp; omega) | (simp; done)); (first | omega | (show _ < _ ∨ _ < _; omega) | (simp; omega)))))); omega)); rintro e w4 ⟨y, rfl, hy0, hy1, hrd4, hsz4, hcp4, hfp4, hgp4⟩
    replace hy1 := hy1 (by omega)
    try simp at hsz4
    replace hsz4 := Nat.le_of_eq hsz4.symm
    have hown4 := hownA.grown hgp4 hlt
    have hg4 := grown_trans hg1' hgp4
    clear hcp4 hfp4 hgp4 hg1' hrd1' hownA
    obtain ⟨kk, rfl⟩ := Int.eq_ofNat_of_zero_le hy0
    have HI := Lib.hid (show OwnM w4 w.heap.size _ [] ∧ Rdr w4 R B _ ∧ w.grownBy w4 (some R) from ⟨hown4, hrd4, hg4⟩)
    clear hown4 hrd4 hg4
    go_wp2_with fail
    go_loopw [8, 9] (fun u i wr => ∃ (rows : List (List Int)) (k : Nat) (q' : Int), i = .int .i64 (k : Int) ∧ k ≤ 4 ∧ rows.length + k ≤ 4 ∧ (∀ z ∈ rows, Short z) ∧ q' + k ≤ q + 8 ∧ 0 ≤ q' ∧ (OwnM wr w.heap.size u rows ∧ Rdr wr R B q' ∧ w.grownBy wr (some R))) (fun _ i _ => (intOf i).toNat)
    case atStart => exact ⟨[], kk, _, by go_num, by omega, by simp; omega, (fun z h => by cases h), by omega, by omega, HI.out⟩
    case round =>
      obtain ⟨rows, k, q', rfl, hk, hlen, hsh, hq', hlo', hown, hrdr, hg⟩ := hrel
      have HSh := Lib.hid hsh
      have hszr := hg.size
      have HOr := Lib.hid hown
      clear hown hsh
      by_cases hk0 : 0 < k
      · have hki : (0 : Int) < (k : Int) := by omega
        go_wp2_with fail
        (apply Calls.mono; focus (apply pick_abs; exact hrdr; omega)); rintro e w5 ⟨z, rfl, hz0, hz1, hrd5, hsz5, hcp5, hfp5, hgp5⟩
        replace hz1 := hz1 (by omega)
        replace hsz5 := Nat.le_of_eq hsz5.symm
        clear hcp5 hfp5
        have HO5 := Lib.hid (HOr.out.grown hgp5 hlt)
        have hg5 := grown_trans hg hgp5
        have hsz5' := hg5.size
        clear hgp5 HOr hg hrdr
        obtain ⟨m, rfl⟩ := Int.eq_ofNat_of_zero_le hz0
        have hwm : IntKind.i64.wrap (1 + (m : Int)) = ((m + 1 : Nat) : Int) := by rw [IntWalk.i64_in _ (by omega)]; omega
        have HM := Lib.hid (l1OfMask_any (m + 1) (by omega) w5)
        go_wp2_with fail
        refine HM.out.mono ?_
        rintro e w6 ⟨s, rfl, ho6, hb6⟩
        have HO6 := Lib.hid (HO5.out.below hb6 (Nat.le_refl _))
        have HH6 := Lib.hid (Hd.of_own (v := _) ho6 hsz5' HO5.out.lt)
        have hrd6 := hrd5.keepB hb6
        have hg6 := grown_below hg5 hb6 hsz5'
        have hsz6 := hg6.size
        obtain ⟨A6, c6, rfl, _, _, _⟩ := owns_row ho6
        clear ho6 hb6 HO5 hrd5 hg5 HM
        go_wp2_with (at_builtin; refine wpl_append_row rfl _ _ (by rfl) w.heap.size _ rows _ (ofTo (m + 1) 6) (by rfl) HO6.out HH6.out (by rfl) (by omega) hsz6 ?_; intro v8 w8 hown8 hb8 _)
        go_roundw
        case rel => exact ⟨rows ++ [ofTo (m + 1) 6], k - 1, q' + 1, by go_num, by omega, by simp; omega, short_snoc HSh.out (short_of (m + 1)), by omega, by omega, hown8, hrd6.keep (hb8.mono (by omega)), grown_below hg6 hb8 (Nat.le_refl _)⟩
        case measure => simp [intOf]; omega
      · have hki : ¬ (0 : Int) < (k : Int) := by omega
        obtain ⟨A9, c9, rfl, _, _, hM9, hZ9⟩ := HOr.out.mat (by omega) HSh.out
        obtain ⟨L, hL⟩ : ∃ L, rows.length = L := ⟨_, rfl⟩
        have HMin := Lib.hid (l3Minimize_any A9 L c9 rows wr (by rw [← hL]; exact hM9) (by rw [← hL]; exact hZ9))
        rw [hL]
        clear hM9 hZ9 HOr
        go_wp2_with fail
        refine HMin.out.mono ?_
        rintro e w3 ⟨v, rows2, rfl, ho9, hs9, hb9⟩
        have HOv := Lib.hid (ho9.less hszr)
        have HSv := Lib.hid hs9
        have hrd3 := hrdr.keepB hb9
        have hg3 := grown_below hg hb9 hszr
        clear ho9 hb9 hs9 hrdr hg HMin
        have hlenT := HSv.out.1
        have hszv := hg3.size
        go_wp2_with fail
        (apply Calls.mono; focus (apply pick_abs; exact hrd3; omega)); rintro e wt ⟨xt, rfl, hxt0, hxt1, hrdt, hszt, hcpt, hfpt, hgpt⟩
        replace hxt1 := hxt1 (by omega)
        replace hszt := Nat.le_of_eq hszt.symm
        clear hcpt hfpt
        have HOt := Lib.hid (HOv.out.grown hgpt hlt)
        have hgt := grown_trans hg3 hgpt
        have hszt2 := hgt.size
        clear hgpt
        by_cases hxa : xt = 0
        · subst hxa
          go_wp2_with fail
          (apply Calls.mono; focus (apply pick_abs; exact hrdt; omega)); rintro e wu ⟨xu, rfl, hxu0, hxu1, hrdu, hszu, hcpu, hfpu, hgpu⟩
          replace hxu1 := hxu1 (by omega)
          replace hszu := Nat.le_of_eq hszu.symm
          clear hcpu hfpu
          have HOu := Lib.hid (HOt.out.grown hgpu hlt)
          have hgu := grown_trans hgt hgpu
          have hszu2 := hgu.size
          clear hgpu HOt hgt hrdt
          have hwx : IntKind.i64.wrap (1 + xu) = 1 + xu := IntWalk.i64_in _ (by omega)
          go_wp2_with (at_builtin; refine wpl_append_row rfl _ _ (by rfl) w.heap.size _ rows2 _ [1 + xu] (by rfl) (HOu.out.below ((Below.refl wu.heap.size wu).alloc (Nat.le_refl _) _) (Nat.le_refl _)) (hd_lit hszu2 HOu.out.lt) (by refine Eq.trans (b := Value.slice (some ⟨wu.heap.size + 1, 0, none⟩) 1 1) (by rfl) (hx_lit wu _)) (by omega) (le_lit hszu2 _) ?_; intro v8 w8 hown8 hb8 _)
          go_ret
          exact ⟨v8, rows2 ++ [[1 + xu]], rfl, hown8, ⟨by simp <;> omega, short_snoc HSv.out.2 (short_one (by omega))⟩, ⟨_, by omega, (hrdu.alloc _).keep (hb8.mono (by have := hrdu.lt; simp; omega))⟩, grown_below (grown_alloc hgu _) hb8 (Nat.le_refl _)⟩
        by_cases hxb : xt = 1
        · subst hxb
          go_wp2_with (at_builtin; refine wpl_append_row rfl _ _ (by rfl) w.heap.size _ rows2 _ [] (by rfl) (HOt.out.below ((Below.refl wt.heap.size wt).alloc (Nat.le_refl _) _) (Nat.le_refl _)) (hd_lit0 hszt2 HOt.out.lt) (by refine Eq.trans (b := Value.slice (some ⟨wt.heap.size + 1, 0, none⟩) 1 1) (by rfl) (hx_lit wt _)) (by omega) (le_lit hszt2 _) ?_; intro v8 w8 hown8 hb8 _)
          go_ret
          exact ⟨v8, rows2 ++ [[]], rfl, hown8, ⟨by simp <;> omega, short_snoc HSv.out.2 short_nil⟩, ⟨_, by omega, (hrdt.alloc _).keep (hb8.mono (by have := hrdt.lt; simp; omega))⟩, grown_below (grown_alloc hgt _) hb8 (Nat.le_refl _)⟩
        have hxa' : (xt == 0) = false := by simpa using hxa
        have hxb' : (xt == 1) = false := by simpa using hxb
        go_wp2
        go_ret
        exact ⟨_, rows2, rfl, HOt.out, ⟨by omega, HSv.out.2⟩, ⟨_, by omega, hrdt⟩, hgt⟩
end Go.Proofs.Ytiepoadnncnbkaa
