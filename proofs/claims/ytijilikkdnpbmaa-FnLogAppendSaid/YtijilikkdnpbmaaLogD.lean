/- Logs that the call makes; the draws of logs. -/
import Derived.Test.YtijilikkdnpbmaaLog5
import Derived.Test.YtijilikkdnpbmaaOwn
namespace Go.Proofs.Ytijilikkdnpbmaa
open Go.RowKit
set_option maxHeartbeats 2000000
set_option linter.unusedVariables false

/-- The slice v owns n entries, whose numbers are fl, from block B on. -/
def OwnR (w : World) (B : Nat) (v : Value) (n : Nat) (fl : List Int) : Prop := fl.length = n * 2 ∧ w.ownsRow B 33 2 v n (fl.map (Value.int .i64))
theorem wpl_append_rec {W : World} {ops : Array Oper} {rest : List Oper} {o : Oper} {a : Act} {Q : Exit → Act → World → Prop} {tt : TypeId} (hgd : o.guard = none) (s x : Operand)
    (ho : o.op = .call { callee := .builtin .append, args := #[s, x], argTypes := #[25, 25] })
    (B : Nat) (v : Value) (n : Nat) (fl : List Int) (p q : Int) (hs : a.eval s = v) (hown : OwnR W B v n fl) (hx : a.eval x = .slice (some ⟨W.heap.size, 0, none⟩) 1 1)
    (hn : n ≤ 10000000) (hbase : B ≤ W.heap.size)
    (h : ∀ v' w', OwnR w' B v' (n + 1) (fl ++ [p, q]) → Below B W w' → W.grownBy w' v.ownBlock → (v'.ownBlock = v.ownBlock ∨ v'.ownBlock = some (W.heap.size + 1)) → wpList Try.prog ops Q rest (a.put o.dst v') w') :
    wpList Try.prog ops Q (o :: rest) a (W.alloc (.cells #[.int .i64 p, .int .i64 q] tt)) := by
  obtain ⟨i0, hi, hz0, hz1, hz2⟩ := info_parts logentry_info
  refine wpl_append1 hgd s x 25 ho B 33 i0 _ 2 16 Try.underlying25 hi hz0 hz1 hz2 rfl (by omega) v n _ hs hown.2 #[.int .i64 p, .int .i64 q] rfl hx (by simp [Value.oneCell']) hn (by omega) hbase ?_
  intro v' w' hown' h1 h2 h3
  refine h v' w' ⟨by simp [hown.1]; omega, ?_⟩ h1 h2 h3
  simpa using hown'
theorem ownr_empty {B : Nat} (w : World) (hB : B ≤ w.heap.size) : OwnR (w.alloc (.cells #[] 33)) B (.slice (some ⟨w.heap.size, 0, none⟩) 0 0) 0 [] := ⟨rfl, owns_empty w _ hB⟩
theorem ownr_empty' {w : World} {H B : Nat} (hH : w.heap.size = H) (hB : B ≤ H) : OwnR (w.alloc (.cells #[] 33)) B (.slice (some ⟨H, 0, none⟩) 0 0) 0 [] := by
  subst hH
  exact ownr_empty w hB
theorem ownr_grown {w w' : World} {B R n : Nat} {v : Value} {fl : List Int} (h : OwnR w B v n fl) (hg : w.grownBy w' (some R)) (hR : R < B) : OwnR w' B v n fl := by
  refine ⟨h.1, World.ownsRow.kept h.2 hg ?_⟩
  cases hv : v.ownBlock with
  | none => exact .inl rfl
  | some k =>
    right
    intro e
    have := h.2.lt k hv
    cases e
    omega
theorem ownr_less {w : World} {B B' n : Nat} {v : Value} {fl : List Int} (h : OwnR w B v n fl) (hB : B' ≤ B) : OwnR w B' v n fl := ⟨h.1, owns_less h.2 hB⟩
theorem grown_below {a w w' : World} {row : Option Nat} {K : Nat} (h : a.grownBy w row) (hb : Below K w w') (hK : a.heap.size ≤ K) : a.grownBy w' row :=
  ⟨hb.os.trans h.os, hb.tape.trans h.tape, hb.output.trans h.output, Nat.le_trans h.size hb.size, fun i hi hne => (hb.block i (by omega)).trans (h.block i hi hne)⟩
theorem all_two {P : Int → Prop} {zs : List Int} {x y : Int} (h : ∀ z ∈ zs, P z) (hx : P x) (hy : P y) : ∀ z ∈ zs ++ [x, y], P z := by
  intro z hz
  rw [List.mem_append] at hz
  rcases hz with hz | hz
  · exact h z hz
  · simp at hz
    rcases hz with rfl | rfl
    · exact hx
    · exact hy

theorem l92Log_any (R : Nat) {B : Nat} (q : Int) (w : World) (hR : Rdr w R B q) (hq : q ≤ 40000) : Calls Try.prog 34 #[.pointer (some ⟨R, 0, none⟩)] w fun e w' =>
    ∃ v fl, ∃ (n : Nat) (k : Int), e = .returned (.tuple #[v, .int .i64 k]) ∧ OwnR w' w.heap.size v n fl ∧ (n ≤ 8 ∧ 1 ≤ k ∧ k ≤ 4 ∧ ∀ z ∈ fl, 0 ≤ z ∧ z ≤ 99) ∧ (∃ q', q' ≤ q + 40 ∧ Rdr w' R B q') ∧ w.grownBy w' (some R) := by
  have hlt := hR.lt
  have hlo := hR.lo
  go_enter Try.func34, Try.ntmps34
  go_wp2_with fail
  (apply Calls.mono; focus (apply pick_abs; exact hR; omega)); rintro e wa ⟨ka, rfl, hka0, hka1, hrd_wa, hsz_wa, hcp, hfp, hg_wa⟩
  replace hka1 := hka1 (by omega)
  have hge_wa := hg_wa.size
  clear hcp hfp hsz_wa
  go_wp2_with fail
  (apply Calls.mono; focus (apply pick_abs; exact hrd_wa.alloc _; omega)); rintro e wb ⟨kb, rfl, hkb0, hkb1, hrd_wb, hsz_wb, hcp, hfp, hgp⟩
  replace hkb1 := hkb1 (by omega)
  have hown0 := ownr_grown (B := w.heap.size) (ownr_empty wa hge_wa) hgp hlt
  have hg0 := grown_trans (grown_alloc hg_wa _) hgp
  clear hcp hfp hgp hsz_wb
  obtain ⟨kk, rfl⟩ := Int.eq_ofNat_of_zero_le hkb0
  go_wp2_with fail
  go_loopw [5, 6] (fun u i wr => ∃ (fl : List Int) (n k : Nat) (q' : Int), i = .int .i64 (k : Int) ∧ k ≤ 7 ∧ n + k ≤ 7 ∧ (∀ z ∈ fl, 0 ≤ z ∧ z ≤ 99) ∧ OwnR wr w.heap.size u n fl ∧ q' + 2 * k ≤ q + 20 ∧ Rdr wr R B q' ∧ w.grownBy wr (some R)) (fun _ i _ => (intOf i).toNat)
  case atStart => exact ⟨[], 0, kk, q + 1 + 1, rfl, by omega, by omega, by simp, hown0, by omega, hrd_wb, hg0⟩
  case round =>
    obtain ⟨fl, n, k, q', rfl, hk, hnk, hall, hown, hq', hrd, hg⟩ := hrel
    have hszr := hg.size
    have hlo' := hrd.lo
    by_cases hk0 : 0 < k
    · go_wp2_with fail
      (apply Calls.mono; focus (apply pick_abs; exact hrd; omega)); rintro e w1 ⟨x1, rfl, hx10, hx11, hrd_w1, hsz_w1, hcp, hfp, hgp⟩
      replace hx11 := hx11 (by omega)
      have hown_w1 := ownr_grown hown hgp hlt
      have hg_w1 := grown_trans hg hgp
      have hs_w1 := hg_w1.size
      clear hcp hfp hgp hsz_w1 hrd hown hg
      by_cases hx : x1 = 0
      · subst hx
        go_wp2_with fail
        (apply Calls.mono; focus (apply pick_abs; exact hrd_w1; omega)); rintro e w2 ⟨x2, rfl, hx20, hx21, hrd_w2, hsz_w2, hcp, hfp, hgp⟩
        replace hx21 := hx21 (by omega)
        have hown_w2 := ownr_grown hown_w1 hgp hlt
        have hg_w2 := grown_trans hg_w1 hgp
        have hs_w2 := hg_w2.size
        clear hcp hfp hgp hsz_w2 hrd_w1 hown_w1 hg_w1
        go_wp2_with (at_builtin; refine wpl_append_rec rfl _ _ (by rfl) w.heap.size _ _ _ _ _ (by rfl) hown_w2 (by rfl) (by omega) hs_w2 ?_; intro v' w3 hown3 hb3 _ _)
        go_roundw
        case rel => exact ⟨_, n + 1, k - 1, q' + 1 + 1, by go_num, by omega, by omega, all_two hall (by omega) (by omega), hown3, by omega, hrd_w2.keep (hb3.mono (by omega)), grown_below hg_w2 hb3 (Nat.le_refl _)⟩
        case measure => simp [intOf]; omega
      · have hx' : (x1 == 0) = false := by simpa using hx
        go_wp2_with fail
        (apply Calls.mono; focus (apply pick_abs; exact hrd_w1; omega)); rintro e w2 ⟨x2, rfl, hx20, hx21, hrd_w2, hsz_w2, hcp, hfp, hgp⟩
        replace hx21 := hx21 (by omega)
        have hown_w2 := ownr_grown hown_w1 hgp hlt
        have hg_w2 := grown_trans hg_w1 hgp
        have hs_w2 := hg_w2.size
        clear hcp hfp hgp hsz_w2 hrd_w1 hown_w1 hg_w1
        go_wp2_with (at_builtin; refine wpl_append_rec rfl _ _ (by rfl) w.heap.size _ _ _ _ _ (by rfl) hown_w2 (by rfl) (by omega) hs_w2 ?_; intro v' w3 hown3 hb3 _ _)
        go_roundw
        case rel => exact ⟨_, n + 1, k - 1, q' + 1 + 1, by go_num, by omega, by omega, all_two hall (by omega) (by omega), hown3, by omega, hrd_w2.keep (hb3.mono (by omega)), grown_below hg_w2 hb3 (Nat.le_refl _)⟩
        case measure => simp [intOf]; omega
    · go_wp2_with fail
      (apply Calls.mono; focus (apply pick_abs; exact hrd; omega)); rintro e w1 ⟨x1, rfl, hx10, hx11, hrd_w1, hsz_w1, hcp, hfp, hgp⟩
      replace hx11 := hx11 (by omega)
      have hown_w1 := ownr_grown hown hgp hlt
      have hg_w1 := grown_trans hg hgp
      have hs_w1 := hg_w1.size
      clear hcp hfp hgp hsz_w1 hrd hown hg
      by_cases hx : x1 = 0
      · subst hx
        go_wp2_with fail
        (apply Calls.mono; focus (apply pick_abs; exact hrd_w1; omega)); rintro e w2 ⟨x2, rfl, hx20, hx21, hrd_w2, hsz_w2, hcp, hfp, hgp⟩
        replace hx21 := hx21 (by omega)
        have hown_w2 := ownr_grown hown_w1 hgp hlt
        have hg_w2 := grown_trans hg_w1 hgp
        have hs_w2 := hg_w2.size
        clear hcp hfp hgp hsz_w2 hrd_w1 hown_w1 hg_w1
        go_wp2_with fail
        (apply Calls.mono; focus (apply pick_abs; exact hrd_w2; omega)); rintro e w3 ⟨x3, rfl, hx30, hx31, hrd_w3, hsz_w3, hcp, hfp, hgp⟩
        replace hx31 := hx31 (by omega)
        have hown_w3 := ownr_grown hown_w2 hgp hlt
        have hg_w3 := grown_trans hg_w2 hgp
        have hs_w3 := hg_w3.size
        clear hcp hfp hgp hsz_w3 hrd_w2 hown_w2 hg_w2
        go_wp2_with (at_builtin; refine wpl_append_rec rfl _ _ (by rfl) w.heap.size _ _ _ _ _ (by rfl) hown_w3 (by rfl) (by omega) hs_w3 ?_; intro v' w4 hown4 hb4 _ _)
        go_ret2
        exact ⟨_, _, n + 1, 1 + ka, rfl, hown4, ⟨by omega, by omega, by omega, all_two hall (by omega) (by omega)⟩, ⟨q' + 1 + 1 + 1, by omega, hrd_w3.keep (hb4.mono (by omega))⟩, grown_below hg_w3 hb4 (Nat.le_refl _)⟩
      · have hx' : (x1 == 0) = false := by simpa using hx
        have HO := Lib.hid hown_w1
        clear hown_w1
        go_wp2_with fail
        go_ret2
        exact ⟨_, _, n, 1 + ka, rfl, HO.out, ⟨by omega, by omega, by omega, hall⟩, ⟨q' + 1, by omega, hrd_w1⟩, hg_w1⟩
end Go.Proofs.Ytijilikkdnpbmaa
