/- The program's parser: expr, the walk. -/
import Derived.Test.YtbokieephhffnaaDoorEx3
namespace Go.Proofs.YtbokieephhffnaaDoor
open Go.RowKit
set_option maxHeartbeats 4000000

/-- Only the parser's block has turned, and it has r left. -/
structure Stp (w w' : World) (P : Nat) (r : ByteArray) : Prop where
  psr : Psr w' P r
  grw : w.grownBy w' (some P)
  size : w'.heap.size = w.heap.size
  oth : ∀ b, b ≠ P → w'.heap[b]? = w.heap[b]?
theorem Stp.of {w : World} {P : Nat} {r r' : ByteArray} (h : Psr w P r) : Stp w (w.setCell ⟨P, 0, none⟩ (.string r')) P r' :=
  ⟨h.set r', grown_setCell (World.grownBy.refl w _) (.inl rfl) _, by simp, fun b hb => Below.heap_setCell w _ _ b hb⟩
theorem digit_step (s : ByteArray) (i P : Nat) (W : World) (h : Psr W P (s.extract i s.size)) (hd : isD (bt s i) = true) : Calls Tryd.prog 33 #[.pointer (some ⟨P, 0, none⟩)] W fun e w' => e = .returned (.tuple #[.int .i64 ((bt s i - 48 : Nat) : Int), .bool true]) ∧ Stp W w' P (s.extract (i + 1) s.size) := by
  have hi := bt_lt (s := s) (i := i) (by have := isD_iff.1 hd; omega)
  rw [← rest_fst] at hd ⊢
  rw [← rest_next s i hi]
  exact (digit_yes P _ W h hd).mono fun _ _ ⟨a, b⟩ => ⟨a, by rw [b]; exact Stp.of h⟩
theorem take_step (s : ByteArray) (i P c : Nat) (W : World) (h : Psr W P (s.extract i s.size)) (hb : bt s i = c) (hc : 0 < c) : Calls Tryd.prog 34 #[.pointer (some ⟨P, 0, none⟩), .int .u8 (c : Int)] W fun e w' => e = .returned (.bool true) ∧ Stp W w' P (s.extract (i + 1) s.size) := by
  have hi := bt_lt (s := s) (i := i) (by omega)
  rw [← rest_fst] at hb
  rw [← rest_next s i hi]
  exact (take_yes P c _ W h hb hc).mono fun _ _ ⟨a, b⟩ => ⟨a, by rw [b]; exact Stp.of h⟩
theorem take_stay (s : ByteArray) (i P c : Nat) (W : World) (h : Psr W P (s.extract i s.size)) (hb : ¬ bt s i = c) (hc : 0 < c) : Calls Tryd.prog 34 #[.pointer (some ⟨P, 0, none⟩), .int .u8 (c : Int)] W fun e w' => e = .returned (.bool false) ∧ w' = W := by
  rw [← rest_fst] at hb
  exact take_no P c _ W h hb hc

theorem cell_blk {w : World} {G : Nat} {a b : Value} {T : TypeId} (h : w.heap[G]? = some (.cells #[a, b] T (0, 0))) : w.cell? ⟨G, 1, none⟩ = some b := by simp [World.cell?, h]
theorem free_blk {w : World} {G : Nat} {a b : Value} {T : TypeId} (h : w.heap[G]? = some (.cells #[a, b] T (0, 0))) : w.frozen? ⟨G, 1, none⟩ = false := by simp [World.frozen?, h]

section
variable {s : ByteArray} {P G N : Nat} {w0 wr w1 w2 : World} {j j' : Nat} {ts : List Tr} {v : Value} {vs : List Value}
theorem Opd.pG (D : Opd s P G N w0 wr j ts v vs) : P ≠ G := by have := D.low; have := D.lt; omega
theorem Opd.step (D : Opd s P G N w0 wr j ts v vs) (h : Stp wr w1 P (s.extract j' s.size)) : Opd s P G N w0 w1 j' ts v vs := by
  have hp := D.pG
  refine ⟨h.psr, (h.oth G (Ne.symm hp)).trans D.blk, ?_, D.len, fun i x t hx ht => ?_, grown_trans D.grw h.grw, D.low, D.lt, D.few⟩
  · refine D.own.kept h.grw ?_
    cases hv : v.ownBlock with
    | none => exact .inl rfl
    | some k =>
      right
      intro e
      have := (D.own.lt k hv).1
      have := D.low
      have := D.lt
      cases e
      omega
  · refine (D.its i x t hx ht).keep fun b hb _ => ⟨h.oth b ?_, hb⟩
    have := D.low
    have := D.lt
    have := hb.1
    omega
/-- One operand more. -/
theorem Opd.push (D : Opd s P G N w0 wr j ts v vs) {e1 : Nat} {t : Tr} {v1 v2 : Value} {w1 w2 : World} (hg1 : wr.grownBy w1 (some P)) (hr1 : Psr w1 P (s.extract e1 s.size)) (ht1 : IsT w1 (fun b => wr.heap.size ≤ b) v1 t)
    (hown : w2.ownsRow (G + 1) 50 1 v2 (ts.length + 1) (vs ++ [v1])) (hb2 : Below (G + 1) w1 w2) (hg2 : w1.grownBy w2 v.ownBlock) (hat : v2.ownBlock = v.ownBlock ∨ v2.ownBlock = some (w1.heap.size + 1)) (hfew : ts.length + 1 ≤ s.size) :
    Opd s P G N w0 (w2.setCell ⟨G, 1, none⟩ v2) e1 (ts ++ [t]) v2 (vs ++ [v1]) := by
  have hp := D.pG
  have hlow := D.low
  have hlt := D.lt
  have hG := heap_lt D.blk
  have hz1 := hg1.size
  have hz2 := hb2.size
  have hG1 : w1.heap[G]? = some (.cells #[.int .i64 (N : Int), v] 40 (0, 0)) := (hg1.block G hG (by intro e; cases e; exact hp rfl)).trans D.blk
  have hG2 : w2.heap[G]? = some (.cells #[.int .i64 (N : Int), v] 40 (0, 0)) := (hb2.block G (by omega)).trans hG1
  have hset : ∀ b, b ≠ G → (w2.setCell ⟨G, 1, none⟩ v2).heap[b]? = w2.heap[b]? := fun b hb => Below.heap_setCell w2 _ _ b hb
  have hrow : ∀ k, v.ownBlock = some k → G + 1 ≤ k ∧ k < wr.heap.size := fun k hk => D.own.lt k hk
  refine ⟨?_, ?_, ?_, by simp [D.len], fun i x t' hx ht' => ?_, ?_, hlow, hlt, by simpa using hfew⟩
  · exact (hset P hp).trans ((hb2.block P (by omega)).trans hr1)
  · simp [World.setCell, Array.getElem?_modify, hG2]
  · rw [show (ts ++ [t]).length = ts.length + 1 by simp]
    refine hown.kept (grown_setCell (g := G) (World.grownBy.refl w2 _) (.inl rfl) v2) ?_
    cases hv : v2.ownBlock with
    | none => exact .inl rfl
    | some k =>
      right
      intro e
      have := (hown.lt k hv).1
      cases e
      omega
  · have hnew : ∀ b, b < w1.heap.size → v.ownBlock ≠ some b → v2.ownBlock ≠ some b := by
      intro b hb hne e
      rcases hat with h | h
      · exact hne (h ▸ e)
      · rw [h] at e
        cases e
        omega
    by_cases hi : i < vs.length
    · rw [List.getElem?_append_left hi] at hx
      rw [List.getElem?_append_left (by rw [← D.len]; exact hi)] at ht'
      refine (D.its i x t' hx ht').keep fun b hb hlt' => ⟨?_, hb.1, hnew b (by omega) hb.2⟩
      have hb1 := hb.1
      rw [hset b (by omega), hg2.block b (by omega) (Ne.symm hb.2)]
      exact hg1.block b hlt' (by intro e; cases e; omega)
    · rw [List.getElem?_append_right (by omega)] at hx
      rw [List.getElem?_append_right (by rw [← D.len]; omega)] at ht'
      have hi2 : i - vs.length = 0 := by
        rcases Nat.eq_zero_or_pos (i - vs.length) with h | h
        · exact h
        · rw [List.getElem?_eq_none (by simp; omega)] at hx; cases hx
      rw [hi2] at hx
      rw [← D.len, hi2] at ht'
      simp at hx ht'
      subst hx ht'
      refine ht1.keep fun b hb hlt' => ?_
      have hne : v.ownBlock ≠ some b := by
        intro e
        have := (hrow b e).2
        omega
      exact ⟨by rw [hset b (by omega)]; exact hg2.block b hlt' (Ne.symm hne), by omega, hnew b hlt' hne⟩
  · exact grown_below' (grown_below' (grown_trans D.grw hg1) hb2 (by omega)) ((Below.refl G w2).setCell (p := ⟨G, 1, none⟩) (Nat.le_refl _) _) (by omega)
theorem Opd.gate_of {k c : Nat} {A : Option Addr} (D : Opd s P G N w0 wr j ts (.slice A k c) vs) (h0 : 0 < ts.length) : IsT wr (fun b => w0.heap.size ≤ b) (.iface 37 (.pointer (some ⟨G, 0, none⟩))) (.gate N ts) := by
  have hlow := D.low
  have hblk := D.blk
  rcases D.own.2 with ⟨_, hn⟩ | ⟨rb, cap, cur, hv, hb, hcur, hle, hmx, hsz, htk⟩
  · omega
  · have hcs := D.own.cells (g := rb) (by rw [hv]; rfl)
    rw [hv] at hblk
    refine .gate hlow hblk (by omega) hle hmx D.len (fun i x hx => ?_) (fun i x t hx ht => (D.its i x t hx ht).keep fun b hb' _ => ⟨rfl, by have := hb'.1; omega⟩) h0
    have := hcs i x hx
    rwa [addr_add, Nat.zero_add] at this
end
end Go.Proofs.YtbokieephhffnaaDoor
