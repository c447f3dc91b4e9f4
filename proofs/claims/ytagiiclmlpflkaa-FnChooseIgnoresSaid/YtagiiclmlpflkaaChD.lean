/- Replies that the call makes; the draw of replies. -/
import Derived.Test.YtagiiclmlpflkaaCh3
import Derived.Test.YtagiiclmlpflkaaOwn
namespace Go.Proofs.Ytagiiclmlpflkaa
open Go.RowKit
set_option maxHeartbeats 2000000
set_option linter.unusedVariables false

/-- The slice v owns n acceptors, whose numbers are fl, from block B on. -/
def OwnR (w : World) (B : Nat) (v : Value) (n : Nat) (fl : List Int) : Prop := fl.length = n * 3 ∧ w.ownsRow B 29 3 v n (fl.map (Value.int .i64))
theorem wpl_append_rec {W : World} {ops : Array Oper} {rest : List Oper} {o : Oper} {a : Act} {Q : Exit → Act → World → Prop} {tt : TypeId} (hgd : o.guard = none) (s x : Operand)
    (ho : o.op = .call { callee := .builtin .append, args := #[s, x], argTypes := #[23, 23] })
    (B : Nat) (v : Value) (n : Nat) (fl : List Int) (p q r : Int) (hs : a.eval s = v) (hown : OwnR W B v n fl) (hx : a.eval x = .slice (some ⟨W.heap.size, 0, none⟩) 1 1)
    (hn : n ≤ 10000000) (hbase : B ≤ W.heap.size)
    (h : ∀ v' w', OwnR w' B v' (n + 1) (fl ++ [p, q, r]) → Below B W w' → W.grownBy w' v.ownBlock → (v'.ownBlock = v.ownBlock ∨ v'.ownBlock = some (W.heap.size + 1)) → wpList Try.prog ops Q rest (a.put o.dst v') w') :
    wpList Try.prog ops Q (o :: rest) a (W.alloc (.cells #[.int .i64 p, .int .i64 q, .int .i64 r] tt)) := by
  obtain ⟨i0, hi, hz0, hz1, hz2⟩ := info_parts acceptor_info
  refine wpl_append1 hgd s x 23 ho B 29 i0 _ 3 24 Try.underlying23 hi hz0 hz1 hz2 rfl (by omega) v n _ hs hown.2 #[.int .i64 p, .int .i64 q, .int .i64 r] rfl hx (by simp [Value.oneCell']) hn (by omega) hbase ?_
  intro v' w' hown' h1 h2 h3
  refine h v' w' ⟨by simp [hown.1]; omega, ?_⟩ h1 h2 h3
  simpa using hown'
theorem wpl_append_recs {W : World} {ops : Array Oper} {rest : List Oper} {o : Oper} {a : Act} {Q : Exit → Act → World → Prop} (hgd : o.guard = none) (s x : Operand)
    (ho : o.op = .call { callee := .builtin .append, args := #[s, x], argTypes := #[23, 23] })
    (B : Nat) (v : Value) (n : Nat) (fl : List Int) (hs : a.eval s = v) (hown : OwnR W B v n fl) (B2 : Nat) (A : Option Addr) (m c : Nat) (ys : List Int) (hx : a.eval x = .slice A m c)
    (hr : Row W B2 A (ys.map (Value.int .i64))) (hm : ys.length = m * 3) (hA : A = none → m = 0)
    (hn : n ≤ 10000000) (hm2 : m ≤ 10000000) (hbase : B ≤ W.heap.size)
    (h : ∀ v' w', OwnR w' B v' (n + m) (fl ++ ys) → Below B W w' → W.grownBy w' v.ownBlock → (v'.ownBlock = v.ownBlock ∨ v'.ownBlock = some W.heap.size) → wpList Try.prog ops Q rest (a.put o.dst v') w') :
    wpList Try.prog ops Q (o :: rest) a W := by
  obtain ⟨i0, hi, hz0, hz1, hz2⟩ := info_parts acceptor_info
  refine wpl_append_all hgd s x 23 ho B 29 i0 _ 3 24 Try.underlying23 hi hz0 hz1 hz2 rfl (by omega) v n _ hs hown.2 B2 A m c _ hx hr (by simp [hm]) hA (by simp [Value.oneCell']) hn hm2 (by omega) hbase ?_
  intro v' w' hown' h1 h2 h3
  refine h v' w' ⟨by simp [hown.1, hm]; omega, ?_⟩ h1 h2 h3
  simpa using hown'
theorem ownr_empty {B : Nat} (w : World) (hB : B ≤ w.heap.size) : OwnR (w.alloc (.cells #[] 29)) B (.slice (some ⟨w.heap.size, 0, none⟩) 0 0) 0 [] := ⟨rfl, owns_empty w _ hB⟩
theorem ownr_empty' {w : World} {H B : Nat} (hH : w.heap.size = H) (hB : B ≤ H) : OwnR (w.alloc (.cells #[] 29)) B (.slice (some ⟨H, 0, none⟩) 0 0) 0 [] := by
  subst hH
  exact ownr_empty w hB
theorem ownr_grown {w w' : World} {B R n : Nat} {v : Value} {fl : List Int} (h : OwnR w B v n fl) (hg : w.grownBy w' (some R)) (hR : R < B) : OwnR w' B v n fl := by
  refine ⟨h.1, World.ownsRow.kept h.2 hg ?_⟩
  cases hv : v.ownBlock with
  | none => exact .inl rfl
  | some k =>
    right
    intro e
    have := h.2.lt k hv
    cases e
    omega
theorem ownr_less {w : World} {B B' n : Nat} {v : Value} {fl : List Int} (h : OwnR w B v n fl) (hB : B' ≤ B) : OwnR w B' v n fl := ⟨h.1, owns_less h.2 hB⟩
theorem ownr_below {w w' : World} {B K n : Nat} {v : Value} {fl : List Int} (h : OwnR w B v n fl) (hb : Below K w w') (hK : w.heap.size ≤ K) : OwnR w' B v n fl := ⟨h.1, owns_below h.2 hb hK⟩
theorem ownr_alloc {w : World} {B n : Nat} {v : Value} {fl : List Int} (h : OwnR w B v n fl) (o : Obj) : OwnR (w.alloc o) B v n fl := ⟨h.1, h.2.alloc o⟩
theorem grown_below {a w w' : World} {row : Option Nat} {K : Nat} (h : a.grownBy w row) (hb : Below K w w') (hK : a.heap.size ≤ K) : a.grownBy w' row :=
  ⟨hb.os.trans h.os, hb.tape.trans h.tape, hb.output.trans h.output, Nat.le_trans h.size hb.size, fun i hi hne => (hb.block i (by omega)).trans (h.block i hi hne)⟩
/-- Replies that a draw hands over. -/
structure DLog (w : World) (B : Option Addr) (n c : Nat) (fl : List Int) : Prop where
  row : Row w w.heap.size B (fl.map (Value.int .i64))
  len : fl.length = n * 3
  cap : n ≤ c
  max : c ≤ 9223372036854775807
  nil : B = none → n = 0
theorem ownr_form {w : World} {B n : Nat} {v : Value} {fl : List Int} (h : OwnR w B v n fl) : ∃ A c, v = .slice A n c ∧ n ≤ c ∧ c ≤ maxLen ∧ (A = none → n = 0) := by
  rcases h.2.2 with ⟨rfl, h0⟩ | ⟨g, cap, cur, rfl, _, _, h3, h4, _⟩
  · exact ⟨none, 0, by rw [h0], by omega, Nat.zero_le _, fun _ => h0⟩
  · exact ⟨_, cap, rfl, h3, h4, by simp⟩
theorem ownr_dlog {w : World} {B n c : Nat} {A : Option Addr} {fl : List Int} (h : OwnR w B (.slice A n c) n fl) (hA : A = none → n = 0) : DLog w A n c fl := by
  obtain ⟨A', c', e, h1, h2, hr⟩ := owns_row h.2
  injection e with e1 e2 e3
  subst e1 e3
  unfold maxLen at h2
  exact ⟨hr, h.1, h1, h2, hA⟩

theorem drawChoose_any (A : Option Addr) (na ca : Nat) (zs0 : List Int) (w : World) (h : Ints .u8 w A na ca zs0) : Calls Try.prog 5 #[.slice A na ca] w fun e w' =>
    ∃ (B : Option Addr) (n c : Nat) (fl : List Int) (o : Int), e = .returned (.tuple #[.slice B n c, .int .i64 o]) ∧ DLog w' B n c fl ∧ (n ≤ 4 ∧ -8 ≤ o ∧ o ≤ 9) ∧ Below w.heap.size w w' := by
  go_enter Try.func5, Try.ntmps5
  go_wp2_with fail
  refine (l6Open_any A na ca zs0 _ w h (by (repeat (first | (with_reducible exact Below.refl _ _) | (with_reducible assumption) | (with_reducible refine below_drewN ?_ _) | (with_reducible refine Below.drew ?_) | (with_reducible refine Below.alloc ?_ (by (first | omega | (show _ < _; omega) | (simp; omega) | (simp; done))) _) | (with_reducible refine Below.setCell ?_ (by (first | omega | (show _ < _; omega) | (simp; omega) | (simp; done))) _) | (with_reducible refine Below.trans ?_ (Below.mono (by with_reducible assumption) (by (first | omega | (show _ < _; omega) | (simp; omega) | (simp; done))))) | (with_reducible refine below_grown ?_ (by with_reducible assumption) (by (first | omega | (show _ < _; omega) | (simp; omega) | (simp; done))) (by (first | omega | (show _ < _; omega) | (simp; omega) | (simp; done)))))))).mono ?_
  rintro e w1 ⟨rfl, n', c', hw1, hrd⟩
  have hbw1 : Below w.heap.size w w1 := by rw [hw1]; (repeat (first | (with_reducible exact Below.refl _ _) | (with_reducible assumption) | (with_reducible refine below_drewN ?_ _) | (with_reducible refine Below.drew ?_) | (with_reducible refine Below.alloc ?_ (by (first | omega | (show _ < _; omega) | (simp; omega) | (simp; done))) _) | (with_reducible refine Below.setCell ?_ (by (first | omega | (show _ < _; omega) | (simp; omega) | (simp; done))) _) | (with_reducible refine Below.trans ?_ (Below.mono (by with_reducible assumption) (by (first | omega | (show _ < _; omega) | (simp; omega) | (simp; done))))) | (with_reducible refine below_grown ?_ (by with_reducible assumption) (by (first | omega | (show _ < _; omega) | (simp; omega) | (simp; done))) (by (first | omega | (show _ < _; omega) | (simp; omega) | (simp; done))))))
  have hsw1 : w.heap.size + 1 ≤ w1.heap.size := by rw [hw1]; simp
  clear hw1
  go_wp2_with fail
  (apply Calls.mono; focus (apply pick_abs; exact hrd.alloc _; omega)); rintro e w2 ⟨kb, rfl, hkb0, hkb1, hrd2, hsz2, hcp, hfp, hgp⟩
  replace hkb1 := hkb1 (by omega)
  have hown2 := ownr_grown (B := w.heap.size + 1) (ownr_empty w1 hsw1) hgp (by omega)
  have hbw2 := below_grown (hbw1.alloc (by omega) _) hgp (by simp; omega) (Nat.le_refl _)
  have hs2 : w.heap.size + 1 ≤ w2.heap.size := by have := hgp.size; simp at this; omega
  clear hcp hfp hgp hsz2
  obtain ⟨kk, rfl⟩ := Int.eq_ofNat_of_zero_le hkb0
  go_wp2_with fail
  go_loopw [5, 6] (fun u i wr => ∃ (fl : List Int) (n k : Nat) (q' : Int), i = .int .i64 (k : Int) ∧ k ≤ 4 ∧ n + k ≤ 4 ∧ OwnR wr (w.heap.size + 1) u n fl ∧ q' + 10 * k ≤ 60 ∧ Rdr wr w.heap.size w.heap.size q' ∧ Below w.heap.size w wr ∧ w.heap.size + 1 ≤ wr.heap.size) (fun _ i _ => (intOf i).toNat)
  case atStart => exact ⟨[], 0, kk, _, rfl, by omega, by omega, hown2, by omega, hrd2, hbw2, hs2⟩
  case round =>
    clear hown2 hrd2 hbw2 hs2
    obtain ⟨fl, n, k, q', rfl, hk, hnk, hown, hq', hrd, hbw, hs⟩ := hrel
    have hlo' := hrd.lo
    by_cases hk0 : 0 < k
    · go_wp2_with fail
      refine (l92Acceptor_any _ q' _ hrd (by omega)).mono ?_
      rintro e w3 ⟨p, a, v, rfl, _, ⟨q2, hq2, hrd3⟩, hg3⟩
      have hown3 := ownr_grown hown hg3 (by omega)
      have hbw3 := below_grown hbw hg3 (by omega) (Nat.le_refl _)
      have hs3 : w.heap.size + 1 ≤ w3.heap.size := Nat.le_trans hs hg3.size
      clear hg3 hrd hown hbw
      go_wp2_with (at_builtin; refine wpl_append_rec rfl _ _ (by rfl) (w.heap.size + 1) _ _ _ _ _ _ (by rfl) hown3 (by rfl) (by omega) hs3 ?_; intro v' w4 hown4 hb4 _ _)
      go_roundw
      case rel => exact ⟨_, n + 1, k - 1, q2, by go_num, by omega, by omega, hown4, by omega, hrd3.keep hb4, hbw3.trans (hb4.mono (by omega)), Nat.le_trans hs3 hb4.size⟩
      case measure => simp [intOf]; omega
    · go_wp2_with fail
      (apply Calls.mono; focus (apply pick_abs; exact hrd; omega)); rintro e w3 ⟨x, rfl, hx0, hx1, hrd3, hsz3, hcp, hfp, hgp⟩
      replace hx1 := hx1 (by omega)
      have hown3 := ownr_grown hown hgp (by omega)
      have hbw3 := below_grown hbw hgp (by omega) (Nat.le_refl _)
      have hs3 : w.heap.size + 1 ≤ w3.heap.size := Nat.le_trans hs hgp.size
      clear hcp hfp hgp hsz3 hrd hown hbw
      go_wp2_with fail
      (apply Calls.mono; focus (apply pick_abs; exact hrd3; omega)); rintro e w4 ⟨y, rfl, hy0, hy1, hrd4, hsz4, hcp, hfp, hgp⟩
      replace hy1 := hy1 (by omega)
      have hown4 := ownr_grown hown3 hgp (by omega)
      have hbw4 := below_grown hbw3 hgp (by omega) (Nat.le_refl _)
      clear hcp hfp hgp hsz4 hrd3 hown3 hbw3
      obtain ⟨B5, c5, rfl, _, _, hA5⟩ := ownr_form hown4
      have HD := Lib.hid (ownr_dlog hown4 hA5)
      clear hown4 hA5
      go_wp2_with fail
      go_ret2
      exact ⟨_, _, _, _, _, rfl, HD.out, ⟨by omega, by omega, by omega⟩, hbw4⟩
end Go.Proofs.Ytagiiclmlpflkaa
