/- St7 St8 St9 St10 (merge.py). -/
import Derived.Test.YtafhpbghogdipaaStB
/- common's end and the law's end: lone. -/
namespace Go.Proofs.Ytafhpbghogdipaa
open Go.RowKit
set_option maxHeartbeats 4000000
set_option linter.unusedVariables false

theorem plainE10 : plainCode SP E10 = true := by kernel_rfl
theorem plainS3 : plainCode SP (restOf Z3) = true := by kernel_rfl
def QV (v : Value) (w0 : World) (a : Act) (w : World) : Prop := a.defers = [] ∧ a.tmps.getD 4 undef = v ∧ Bel w0.heap.size w0 w
theorem QV.tp {v : Value} {w0 : World} (a : Act) (w : World) (T : Nat → Question → Nat) (d : Nat) (h : QV v w0 a w) : QV v w0 a (tp w T d) := ⟨h.1, h.2.1, h.2.2.tp T d⟩
theorem endE (Br : Nat) (v t0 t1 t2 t3 t4 t6 t7 t8 t9 t10 t11 t12 t13 t14 t15 t16 t17 t18 t19 t20 t21 t22 t23 : Value) (w : World) (h : w.cell? ⟨Br, 0, none⟩ = some v) :
    E10.wp Try.prog (QQ (fun _ _ => False) (QV v w)) ⟨#[t0, t1, t2, t3, t4, .pointer (some ⟨Br, 0, none⟩), t6, t7, t8, t9, t10, t11, t12, t13, t14, t15, t16, t17, t18, t19, t20, t21, t22, t23], []⟩ w := by
  obtain ⟨Q, hQ⟩ : ∃ Q, Q = QQ (fun _ _ => False) (QV v w) := ⟨_, rfl⟩
  rw [← hQ]
  have HQ := Lib.hid hQ
  clear hQ
  simp only [E10, E16, Z16, body16, Try.f16, Option.getD_some]
  go_wp2
  rw [HQ.out]
  exact .inr ⟨rfl, rfl, rfl, Bel.refl _ _⟩
theorem lawS (A : Option Addr) (n c : Nat) (zss : List (List Int)) (A2 : Option Addr) (n2 c2 : Nat) (yss : List (List Int)) (g0 g1 : Nat) (m : Bool) (v5 d10 d11 d12 d13 d14 d15 d16 d17 d18 d19 d20 d21 d22 d23 d24 d25 d26 d27 d28 : Value) (w : World) (hM : ArgM w A n c zss) (hN : ArgM w A2 n2 c2 yss) (hz : SzOk zss n) (hz2 : SzOk yss n2) (C1 : CpM w g0 n zss) (C2 : CpM w g1 n2 yss) :
    (restOf Z3).wp Try.prog (QQ (fun _ _ => False) (QV (.bool true) w)) ⟨#[.slice A n c, .slice A2 n2 c2, undef, undef, .bool false, v5, .bool m, .slice (some ⟨g0, 0, none⟩) n n, .slice (some ⟨g1, 0, none⟩) n2 n2, .bool m, d10, d11, d12, d13, d14, d15, d16, d17, d18, d19, d20, d21, d22, d23, d24, d25, d26, d27, d28, .slice (some ⟨g0, 0, none⟩) n n, .slice (some ⟨g1, 0, none⟩) n2 n2, .bool m, undef, undef, undef, undef, undef, undef, undef, undef, undef, undef, undef, undef, undef], []⟩ w := by
  obtain ⟨Q, hQ⟩ : ∃ Q, Q = QQ (fun _ _ => False) (QV (.bool true) w) := ⟨_, rfl⟩
  rw [← hQ]
  have HQ := Lib.hid hQ
  clear hQ
  simp only [restOf, Z3, bodyOf, tailN, Try.func3, Try.f3, Option.bind_some, Option.getD_some]
  go_wp2_with fail
  refine (copySS hM hz (Below.refl _ _)).mono ?_
  rintro e w1 ⟨rfl, C3, -, hb1⟩
  replace C1 := C1.below hb1
  replace C2 := C2.below hb1
  go_wp2_with fail
  refine (eqSS C1 C3 hb1).mono ?_
  rintro e w2 ⟨rfl, hb21, hb2⟩
  replace C2 := C2.below hb21
  clear C1 C3 hb1 hb21
  go_wp2_with fail
  refine (copySS hN hz2 hb2).mono ?_
  rintro e w3 ⟨rfl, C4, hb32, hb3⟩
  replace C2 := C2.below hb32
  clear hb2 hb32
  go_wp2_with fail
  refine (eqSS C2 C4 hb3).mono ?_
  rintro e w4 ⟨rfl, -, hb4⟩
  have HB := Lib.hid hb4
  clear hb4 hb3 C2 C4
  go_wp2
  rw [HQ.out]
  exact .inr ⟨rfl, rfl, rfl, Bel.of' HB.out⟩
end Go.Proofs.Ytafhpbghogdipaa

/- The law's end in company. -/
namespace Go.Proofs.Ytafhpbghogdipaa
open Go.Conc
open Go.ConcN (sumTo upd sumTo_upd upd_ne upd_same)
set_option maxHeartbeats 4000000
set_option linter.unusedVariables false
set_option linter.unusedSimpArgs false

theorem bel_base {B : Nat} {w w' : World} {T : Nat → Question → Nat} {d : Nat} (h : Bel B (tp w T d) w') : Bel B w w' := ⟨h.to.os, rfl, h.to.output, h.to.size, h.to.block⟩
/-- The law's promise. -/
def PostL (W : World) (v : Value) (w : World) : Prop := v = .bool true ∧ Bel W.heap.size W w
/-- The run ends well. -/
def Ends (W : World) (gs : Array Goroutine) (w : World) (sl : Option (Nat × Nat)) (t : Trace) : Prop :=
  ∃ M last o w'' t'', runNT Try.prog (M + 1) (crowd gs w sl) t = (.ended o w'', t'') ∧ runN Try.prog M (crowd gs w sl) = .next last ∧ step Try.prog last = .ended o w'' ∧ Conc.Good Try.prog (PostL W) last o w'' t''
theorem To.ends {Shun : Loc → Prop} {D : DS} {K : Goroutine → World → Prop} {gs : Array Goroutine} {w : World} {sl : Option (Nat × Nat)} {t : Trace} {W : World} (h : To Try.prog Shun D K gs w sl t)
    (hk : ∀ (gs' : Array Goroutine) (g' : Goroutine) (wp' w' : World) (sl' : Option (Nat × Nat)) (t' : Trace) (q' : Nat → Nat), K g' wp' → Fr Try.prog Shun D g' wp' gs' w' t' q' → Ends W gs' w' sl' t') : Ends W gs w sl t := by
  obtain ⟨N, gs', g', wp', w', sl', t', q', h1, _, h3, h4⟩ := h
  exact good_from h1 (hk _ _ _ _ sl' _ _ h3 h4)
/-- The same heap below: what the twin keeps, the true world keeps. -/
theorem real_keep {D : DS} {u w u' w' : World} {B : Nat} (h : Pz D u w) (h' : Pz D u' w') (hb : ∀ b, b < B → u'.heap[b]? = u.heap[b]?) : ∀ b, b < B → w'.heap[b]? = w.heap[b]? := fun b hb' => pz_same h h' (hb b hb')
section
variable {Shun : Loc → Prop} {D : DS} {W : World}
/-- What is held of the true world against the world of the call. -/
structure Truth (W w wp : World) : Prop where
  os : wp.os = W.os
  output : wp.output = W.output
  size : W.heap.size ≤ wp.heap.size
  heap : ∀ b, b < W.heap.size → w.heap[b]? = W.heap[b]?
theorem Truth.next {w wp w' wp' : World} {B : Nat} (h : Truth W w wp) (hz : Pz D (tp wp w.tape w.drawn) w) (hz' : Pz D (tp wp' w'.tape w'.drawn) w') (hb : Bel B wp wp') (hB : W.heap.size ≤ B) : Truth W w' wp' :=
  ⟨hb.to.os.trans h.os, hb.to.output.trans h.output, Nat.le_trans h.size hb.size, fun b hb' => (pz_same hz hz' (hb.block b (by omega))).trans (h.heap b hb')⟩
theorem end_law {a : Act} {todo : List Item} {gs : Array Goroutine} {w wp : World} {t : Trace} {q : Nat → Nat} (sl : Option (Nat × Nat)) (hd : a.defers = []) (hv : a.tmps.getD 4 undef = .bool true)
    (hF : Fr Try.prog Shun D (G { (base 3).at a todo with mode := .returning } []) wp gs w t q) (hR : Truth W w wp) : Ends W gs w sl t := by
  have hres : ∀ w : World, (results Try.f3 a.tmps).run Try.prog w = .ok (.bool true) w := fun w => by
    rw [results_tmp (t := 4) (by kernel_rfl)]
    rw [hv]
  have hev : ∀ w : World, (results Try.f3 a.tmps).events Try.prog w #[] = #[] := fun w => events_results_tmp (t := 4) (by kernel_rfl) _ _
  have hi : Try.prog.inits.idxOf? 3 = none := by kernel_rfl
  refine end_beside (v := .bool true) (Post := PostL W) (a := G { (base 3).at a todo with mode := .returning } []) rfl (fun w => ?_) _ gs w sl t q (Nat.le_refl _) hF.h0 hF.lv hF.past fun d => ⟨rfl, ⟨?_, rfl, ?_, ?_, fun b hb => hR.heap b hb⟩⟩
  · have es : seen Try.prog 3 #[] = #[] := by simp [seen]
    simp [G, stepG, unwind, Frame.at, base, hd, Try.func3, hres, hev, doReturn, GStep.after, hi, es]
  · exact hF.pz.os.symm.trans hR.os
  · exact hF.pz.output.symm.trans hR.output
  · show W.heap.size ≤ w.heap.size
    rw [← hF.pz.size]
    exact hR.size
theorem suffix_law (hS : ∀ l, Shun l → ∃ a, l = .cell a ∧ D a.block) {A : Option Addr} {n c : Nat} {zss : List (List Int)} {A2 : Option Addr} {n2 c2 : Nat} {yss : List (List Int)} {g0 g1 : Nat} {m : Bool} {v5 d10 d11 d12 d13 d14 d15 d16 d17 d18 d19 d20 d21 d22 d23 d24 d25 d26 d27 d28 : Value} {gs : Array Goroutine} {w wp : World} {t : Trace} {q : Nat → Nat} (sl : Option (Nat × Nat))
    (hM : ArgM wp A n c zss) (hN : ArgM wp A2 n2 c2 yss) (hz : SzOk zss n) (hz2 : SzOk yss n2) (C1 : CpM wp g0 n zss) (C2 : CpM wp g1 n2 yss) (hR : Truth W w wp)
    (hF : Fr Try.prog Shun D (G ((W3 (.slice A n c) (.slice A2 n2 c2) v5 (.bool m) (.slice (some ⟨g0, 0, none⟩) n n) (.slice (some ⟨g1, 0, none⟩) n2 n2) d10 d11 d12 d13 d14 d15 d16 d17 d18 d19 d20 d21 d22 d23 d24 d25 d26 d27 d28).finish (.bool m)) []) wp gs w t q) : Ends W gs w sl t := by
  refine (quiet_to sl hF (quietH _ _ _ _ _ _ _ _ _ _ _ _ _ _ _ _ _ _ _ _ _ _ _ _ _ _ _)).ends ?_
  rintro gs1 gg wq w1 sl1 t1 q1 ⟨rfl, rfl⟩ hF1
  have hR1 : Truth W w1 wq := hR.next hF.pz hF1.pz (Bel.refl wq.heap.size wq) hR.size
  refine (lift_last (b := base 3) (K := []) (Qn := fun _ _ => False) (Qr := QV (.bool true) wq) hSP hS rfl (by kernel_rfl) rfl plainS3 (fun _ _ _ _ h => h.elim) (fun a w T d h => QV.tp a w T d h)
    (fun T => wp_mono (lawS A n c zss A2 n2 c2 yss g0 g1 m v5 d10 d11 d12 d13 d14 d15 d16 d17 d18 d19 d20 d21 d22 d23 d24 d25 d26 d27 d28 (tp wq T 0) (argM_tp hM) (argM_tp hN) hz hz2 (cpM_tp C1) (cpM_tp C2)) (fun e a w h => h.imp (fun h => h) (fun ⟨h1, h2, h3, h4⟩ => ⟨h1, h2, h3, bel_base h4⟩))) sl1 hF1).ends ?_
  rintro gs2 g2 wr w2 sl2 t2 q2 (⟨a, _, h⟩ | ⟨a, todo, rfl, h1, h2, h3⟩) hF2
  · exact h.elim
  · exact end_law sl2 h1 h2 hF2 (hR1.next hF1.pz hF2.pz h3 hR1.size)
end
end Go.Proofs.Ytafhpbghogdipaa

/- The law's run, from its start to its end. -/
namespace Go.Proofs.Ytafhpbghogdipaa
open Go.Conc
open Go.ConcN (sumTo upd sumTo_upd upd_ne upd_same)
set_option maxHeartbeats 8000000
set_option linter.unusedVariables false
set_option linter.unusedSimpArgs false

theorem mv_map (zss : List (List Int)) (n : Nat) : mV (mAt zss) n = (mI zss n).map (Value.int .u64) := by simp [mV, mI]
theorem mi_len (zss : List (List Int)) (n : Nat) : (mI zss n).length = n := by simp [mI]
theorem RowsAt.bel {w w' : World} {C n : Nat} {rows : Nat → List Int} (h : RowsAt w w.heap.size C n rows) (hb : Bel w.heap.size w w') : RowsAt w' w'.heap.size C n rows := by
  have h1 : RowsAt (tp w' w.tape 0) w.heap.size C n rows := h.below hb
  refine ⟨fun i hi => ?_, h.len, Nat.lt_of_lt_of_le h.lt hb.size⟩
  obtain ⟨A, c, e1, e2, e3, e4, e5⟩ := h1.at_ i hi
  exact ⟨A, c, e1, e2, e3, e4, row_of_tp (e5.more hb.size)⟩
theorem rowsAt_tp {w : World} {B C n : Nat} {rows : Nat → List Int} {T : Nat → Question → Nat} {d : Nat} (h : RowsAt w B C n rows) : RowsAt (tp w T d) B C n rows := ⟨h.at_, h.len, h.lt⟩
section
variable {Shun : Loc → Prop} {D : DS} {W : World}
/-- From common's end to the law's end. -/
theorem behind_law (hS : ∀ l, Shun l → ∃ a, l = .cell a ∧ D a.block) {A : Option Addr} {n c : Nat} {zss : List (List Int)} {A2 : Option Addr} {n2 c2 : Nat} {yss : List (List Int)} {g0 g1 : Nat} {v5 d10 d11 d12 d13 d14 d15 d16 d17 d18 d19 d20 d21 d22 d23 d24 d25 d26 d27 d28 : Value} {X A' : Option Addr} {cx cy By Br C : Nat} {rows : Nat → List Int} {x y v1 v2 t8 t9 t10 t11 t12 t13 t14 : Value}
    {gs : Array Goroutine} {w wp : World} {t : Trace} {q : Nat → Nat} {g : Goroutine} (sl : Option (Nat × Nat))
    (hM : ArgM wp A n c zss) (hN : ArgM wp A2 n2 c2 yss) (hz : SzOk zss n) (hz2 : SzOk yss n2) (C1 : CpM wp g0 n zss) (C2 : CpM wp g1 n2 yss) (hR : Truth W w wp) (hn : n ≤ 20)
    (hcell : wp.cell? ⟨Br, 0, none⟩ = some (.slice (some ⟨C, 0, none⟩) n n)) (hrows : RowsAt wp wp.heap.size C n rows) (hans : meetB zss yss n n2 = !(hasZ (catR rows n) (catR rows n).length))
    (hB : BackE X A' n cx n2 cy By Br (W7 x y v1 v2 t8 t9 t10 t11 t12 t13 t14 undef undef [4, 5, 6, 7, 8, 9] :: W3 (.slice A n c) (.slice A2 n2 c2) v5 (.bool (meetB zss yss n n2)) (.slice (some ⟨g0, 0, none⟩) n n) (.slice (some ⟨g1, 0, none⟩) n2 n2) d10 d11 d12 d13 d14 d15 d16 d17 d18 d19 d20 d21 d22 d23 d24 d25 d26 d27 d28 :: []) g)
    (hF : Fr Try.prog Shun D g wp gs w t q) : Ends W gs w sl t := by
  obtain ⟨⟨tmps, defers⟩, rfl, hd, t0, t1, t2, t3, t4, t6, s7, s8, s9, s10, s11, s12, s13, s14, s15, s16, s17, s18, s19, s20, s21, s22, s23, ht⟩ := hB
  have hd' : defers = [] := hd
  have ht' : tmps = _ := ht
  subst hd' ht'
  clear hd ht
  -- common's end
  refine (lift_last (b := b16) (K := []) (Qn := fun _ _ => False) (Qr := QV (.slice (some ⟨C, 0, none⟩) n n) wp) hSP hS rfl (by kernel_rfl) rfl plainE10 (fun _ _ _ _ h => h.elim) (fun a w T d h => QV.tp a w T d h)
    (fun T => wp_mono (endE Br _ _ _ _ _ _ _ _ _ _ _ _ _ _ _ _ _ _ _ _ _ _ _ _ (tp wp T 0) hcell) (fun e a w h => h.imp (fun h => h) (fun ⟨h1, h2, h3, h4⟩ => ⟨h1, h2, h3, bel_base h4⟩))) sl hF).ends ?_
  rintro gs1 g1' wp1 w1 sl1 tt1 q1 (⟨a, _, h⟩ | ⟨a, todo, rfl, h1, h2, hb1⟩) hF1
  · exact h.elim
  have hR1 := hR.next hF.pz hF1.pz hb1 hR.size
  replace hM := hM.bel hb1
  replace hN := hN.bel hb1
  replace C1 := C1.bel hb1
  replace C2 := C2.bel hb1
  replace hrows := hrows.bel hb1
  have hres : ∀ w : World, (results Try.f16 a.tmps).run Try.prog w = .ok (.slice (some ⟨C, 0, none⟩) n n) w := fun w => by
    rw [results_tmp (t := 4) (by kernel_rfl)]
    rw [h2]
  refine (leave_beside hS (b := b16) rfl (by kernel_rfl) h1 sl1 Try.func16 hres hF1).ends ?_
  rintro gs2 g2' wp2 w2 sl2 tt2 q2 ⟨rfl, T2, d2, rfl⟩ hF2'
  have hF2 := hF2'.tp
  clear hF2'
  have hR2 := hR1.next hF1.pz hF2.pz (Bel.refl wp1.heap.size wp1) hR1.size
  -- Concat
  refine (quiet_to sl2 hF2 (quietG1 _ _ _ _ _ _ _ _ _ _ _ _ _)).ends ?_
  rintro gs3 g3' wp3 w3 sl3 tt3 q3 ⟨rfl, rfl⟩ h3
  have hR3 := hR2.next hF2.pz h3.pz (Bel.refl wp3.heap.size wp3) hR2.size
  obtain ⟨cd, hcd, _⟩ := concat_wp C n n rows wp3 hrows hn
  refine (lift_fun (R := fun v w' => OwnC w' wp3.heap.size v (catR rows n) ∧ Bel wp3.heap.size wp3 w') hSP hS Try.func15 hcd (by kernel_rfl) (fun v w T d h => ⟨h.1, h.2.tp T d⟩)
    (fun T => by
      obtain ⟨cd', hcd', hw⟩ := concat_wp C n n rows (tp wp3 T 0) (rowsAt_tp hrows) hn
      obtain rfl : cd' = cd := Option.some.inj (hcd'.symm.trans hcd)
      refine wp_mono hw (fun e a w h => ?_)
      cases e with
      | normal => obtain ⟨p1, v, p2, v', p3, p4, p5⟩ := h; exact ⟨p1, v, p2, v', p3, p4, Bel.of p5⟩
      | ret => obtain ⟨p1, v, p2, v', p3, p4, p5⟩ := h; exact ⟨p1, v, p2, v', p3, p4, Bel.of p5⟩
      | panic ch => obtain ⟨p1, v', p3, _⟩ := h; cases p3
      | outgrown => obtain ⟨v', p3, _⟩ := h; cases p3
      | exit _ => exact h.elim
      | goto _ => exact h.elim) sl3 h3).ends ?_
  rintro gs4 g4' wp4 w4 sl4 tt4 q4 ⟨v, rfl, hown, hb4⟩ hF4
  have hR4 := hR3.next h3.pz hF4.pz hb4 hR3.size
  replace hM := hM.bel hb4
  replace hN := hN.bel hb4
  replace C1 := C1.bel hb4
  replace C2 := C2.bel hb4
  obtain ⟨A5, c5, rfl, _, _, hrow5⟩ := owns_row hown
  -- Contains
  refine (quiet_to sl4 hF4 (quietG2 _ _ _ _ _ _ _ _ _ _ _ _ _ _)).ends ?_
  rintro gs5 g5' wp5 w5 sl5 tt5 q5 ⟨rfl, rfl⟩ hF5
  have hR5 := hR4.next hF4.pz hF5.pz (Bel.refl wp5.heap.size wp5) hR4.size
  have hlen : (catR rows n).length ≤ 1000000 := by
    have := catR_len hrows.len n (Nat.le_refl _)
    omega
  obtain ⟨cd2, hcd2, _⟩ := contains_wp A5 _ c5 (catR rows n) wp5 _ hrow5 rfl hlen
  refine (lift_fun (R := fun v w' => v = .bool (hasZ (catR rows n) (catR rows n).length) ∧ Bel wp5.heap.size wp5 w') hSP hS Try.func14 hcd2 (by kernel_rfl) (fun v w T d h => ⟨h.1, h.2.tp T d⟩)
    (fun T => by
      obtain ⟨cd', hcd', hw⟩ := contains_wp A5 _ c5 (catR rows n) (tp wp5 T 0) _ (row_tp hrow5) rfl hlen
      obtain rfl : cd' = cd2 := Option.some.inj (hcd'.symm.trans hcd2)
      refine wp_mono hw (fun e a w h => ?_)
      cases e with
      | normal => obtain ⟨p1, v, p2, p3, rfl⟩ := h; exact ⟨p1, v, p2, v, rfl, Ending.returned.inj p3, (Bel.refl _ _).tp _ _⟩
      | ret => obtain ⟨p1, v, p2, p3, rfl⟩ := h; exact ⟨p1, v, p2, v, rfl, Ending.returned.inj p3, (Bel.refl _ _).tp _ _⟩
      | panic ch => obtain ⟨p1, p3, _⟩ := h; cases p3
      | outgrown => obtain ⟨p3, _⟩ := h; cases p3
      | exit _ => exact h.elim
      | goto _ => exact h.elim) sl5 hF5).ends ?_
  rintro gs6 g6' wp6 w6 sl6 tt6 q6 ⟨v6, rfl, rfl, hb6⟩ hF6
  have hR6 := hR5.next hF5.pz hF6.pz hb6 hR5.size
  replace hM := hM.bel hb6
  replace hN := hN.bel hb6
  replace C1 := C1.bel hb6
  replace C2 := C2.bel hb6
  refine (quiet_to sl6 hF6 (quietG3 _ _ _ _ _ _ _ _ _ _ _ _ _ _ _ _)).ends ?_
  rintro gs7 g7' wp7 w7 sl7 tt7 q7 ⟨rfl, rfl⟩ h7
  have hR7 := hR6.next hF6.pz h7.pz (Bel.refl wp7.heap.size wp7) hR6.size
  rw [← hans] at h7
  exact suffix_law hS sl7 hM hN hz hz2 C1 C2 hR7 h7
end
end Go.Proofs.Ytafhpbghogdipaa

/- The law's run, from its start. -/
namespace Go.Proofs.Ytafhpbghogdipaa
open Go.Conc
open Go.ConcN (sumTo upd sumTo_upd upd_ne upd_same)
set_option maxHeartbeats 8000000
set_option linter.unusedVariables false
set_option linter.unusedSimpArgs false

theorem cell_psn {W : World} {a : Addr} {v : Value} (h : W.cell? a = some v) : (psn (Dd (fun _ => False) W) W).cell? a = some v := by
  have hb : ¬ (Dd (fun _ => False) W).dead a.block := by
    rintro (h2 | ⟨c, e, h2⟩)
    · exact h2
    · unfold World.cell? at h
      rw [h2] at h
      cases h
  exact cell_of_heap (psn_out hb) h
theorem row_psn {W : World} {B : Nat} {A : Option Addr} {xs : List Value} (h : Row W B A xs) : Row (psn (Dd (fun _ => False) W) W) B A xs := by
  intro hn
  obtain ⟨b, off, e, hb, hc⟩ := h hn
  exact ⟨b, off, e, hb, fun j v hj => cell_psn (hc j v hj)⟩
theorem argM_psn {W : World} {A : Option Addr} {n c : Nat} {zss : List (List Int)} (h : ArgM W A n c zss) : ArgM (psn (Dd (fun _ => False) W) W) A n c zss := by
  refine ⟨⟨h.1.len, h.1.nil, fun k hk => ?_, h.1.fit⟩, h.2⟩
  obtain ⟨b, off, C, c, e, h1, h2, h3, h4, h5, h6⟩ := h.1.at_ k hk
  rw [psn_size]
  exact ⟨b, off, C, c, e, h1, cell_psn h2, h3, h4, row_psn h5, h6⟩
theorem enter3 (A : Option Addr) (n c : Nat) (A2 : Option Addr) (n2 c2 : Nat) : Frame.enter Try.prog 3 #[.slice A n c, .slice A2 n2 c2] .normal = (base 3).at ⟨#[.slice A n c, .slice A2 n2 c2] ++ Array.replicate (45 - 2) undef, []⟩ [.code (graft (headN 8 (bodyOf 3)) Z3)] := by
  have hb : Try.f3.body = some (bodyOf 3) := by kernel_rfl
  have h := enter_base (P := Try.prog) #[.slice A n c, .slice A2 n2 c2] Try.func3 hb
  rw [Try.ntmps3] at h
  have hZ : graft (headN 8 (bodyOf 3)) Z3 = bodyOf 3 := graft3
  rw [h, hZ]
  rfl
theorem start_law (W : World) (A : Option Addr) (n c : Nat) (zss : List (List Int)) (A2 : Option Addr) (n2 c2 : Nat) (yss : List (List Int)) (hM : ArgM W A n c zss) (hN : ArgM W A2 n2 c2 yss) :
    Ends W #[G (Frame.enter Try.prog 3 #[.slice A n c, .slice A2 n2 c2] .normal) []] W none #[] := by
  have hS : ∀ l : Loc, (fun _ : Loc => False) l → ∃ a, l = .cell a ∧ (Dd (fun _ => False) W).dead a.block := fun l h => h.elim
  have hF := fr_first Try.prog (G (Frame.enter Try.prog 3 #[.slice A n c, .slice A2 n2 c2] .normal) []) W
  have hu0 : (psn (Dd (fun _ => False) W) W).heap.size = W.heap.size := psn_size
  have hR : Truth W W (psn (Dd (fun _ => False) W) W) := ⟨rfl, rfl, by rw [hu0]; exact Nat.le_refl _, fun b hb => rfl⟩
  replace hM := argM_psn hM
  replace hN := argM_psn hN
  have hDl : ∀ b, (Dd (fun _ => False) W).dead b → b < W.heap.size := fun b h => (psn_pz (E := fun _ => False) (w := W) (fun b h => h.elim)).lo b h
  generalize psn (Dd (fun _ => False) W) W = u0 at hF hR hM hN hu0
  rw [enter3] at hF ⊢
  -- the law, up to the call
  refine (lift_code (b := base 3) (k := []) (Qn := QA A n c zss A2 n2 c2 yss u0) (Qr := QR 3 4 u0) hSP hS rfl (by kernel_rfl) rfl plain3 (fun a w T d h => QA.tp _ _ _ _ _ _ _ _ a w T d h) (fun a w T d h => QR.tp a w T d h)
    (fun T => wp_mono (lawA A n c zss A2 n2 c2 yss (tp u0 T 0) (argM_tp hM) (argM_tp hN)) (fun e a w h => h.imp (fun ⟨h0, v5, d10, d11, d12, d13, d14, d15, d16, d17, d18, d19, d20, d21, d22, d23, d24, d25, d26, d27, d28, g0, g1, h1, h2, h3, h4, h5, h6⟩ => ⟨h0, v5, d10, d11, d12, d13, d14, d15, d16, d17, d18, d19, d20, d21, d22, d23, d24, d25, d26, d27, d28, g0, g1, h1, h2, h3, h4, h5, bel_base h6⟩) (fun ⟨h1, h2, h3, h4⟩ => ⟨h1, h2, h3, bel_base h4⟩))) none hF).ends ?_
  rintro gs1 g1' wp1 w1 sl1 tt1 q1 (⟨a, rfl, v5, d10, d11, d12, d13, d14, d15, d16, d17, d18, d19, d20, d21, d22, d23, d24, d25, d26, d27, d28, g0, g1, rfl, C1, C2, hz, hz2, hb1⟩ | ⟨a, todo, rfl, h1, h2, hb1⟩) hF1
  rotate_left
  · exact end_law sl1 h1 h2 hF1 (hR.next hF.pz hF1.pz hb1 (by omega))
  have hR1 := hR.next hF.pz hF1.pz hb1 (by omega)
  have hM1 := hM.bel hb1
  have hN1 := hN.bel hb1
  -- into impl.Intersects
  refine (quiet_to sl1 hF1 (quietB _ _ _ _ _ _ _ _ _ _ _ _ _ _ _ _ _ _ _ _ _ _ _ _ _ _)).ends ?_
  rintro gs2 g2' wp2 w2 sl2 tt2 q2 ⟨rfl, rfl⟩ hF2
  have hR2 := hR1.next hF1.pz hF2.pz (Bel.refl wp2.heap.size wp2) hR1.size
  rw [← graft7] at hF2
  refine (lift_code (b := base 7) (Z := Z7) (k := []) (Qn := QC g0 n zss g1 n2 yss wp2) (Qr := fun _ _ => False) hSP hS rfl (by kernel_rfl) rfl plain7 (fun a w T d h => QC.tp _ _ _ _ _ _ a w T d h) (fun _ _ _ _ h => h.elim)
    (fun T => wp_mono (implC g0 n zss g1 n2 yss (tp wp2 T 0) (cpM_tp C1) (cpM_tp C2)) (fun e a w h => h.imp (fun ⟨h0, v1, v2, t8, t9, t10, t11, t12, t13, t14, h1, h2, h3⟩ => ⟨h0, v1, v2, t8, t9, t10, t11, t12, t13, t14, h1, bel_base h2, h3⟩) (fun h => h))) sl2 hF2).ends ?_
  rintro gs3 g3' wp3 w3 sl3 tt3 q3 (⟨a, rfl, v1, v2, t8, t9, t10, t11, t12, t13, t14, rfl, hb3, hrows⟩ | ⟨a, todo, _, h⟩) hF3
  rotate_left
  · exact h.elim
  have hR3 := hR2.next hF2.pz hF3.pz hb3 hR2.size
  have hM3 := hM1.bel hb3
  have hN3 := hN1.bel hb3
  have C13 := C1.bel hb3
  have C23 := C2.bel hb3
  cases hfam : (famB zss && famB yss)
  · -- not two quorum systems
    rw [hfam] at hF3
    refine (quiet_to sl3 hF3 (quietD0 _ _ _ _ _ _ _ _ _ _ _ _ _)).ends ?_
    rintro gs4 g4' wp4 w4 sl4 tt4 q4 ⟨rfl, rfl⟩ hF4
    have hm : meetB zss yss n n2 = false := by unfold meetB; rw [hfam]; rfl
    have hR4 := hR3.next hF3.pz hF4.pz (Bel.refl wp4.heap.size wp4) hR3.size
    rw [hm] at hF4
    exact suffix_law hS sl4 hM3 hN3 hz hz2 C13 C23 hR4 hF4
  · obtain ⟨A1, c1, A3, c3, rfl, rfl, _, _, hx, hy⟩ := hrows hfam
    rw [hfam] at hF3
    simp only [Bool.and_eq_true] at hfam
    have hn : n ≤ 20 := by have := (famB_to hfam.1).1; have := C1.len; omega
    have hn2 : n2 ≤ 20 := by have := (famB_to hfam.2).1; have := C2.len; omega
    refine (quiet_to sl3 hF3 (quietD _ _ _ _ _ _ _ _ _ _ _ _)).ends ?_
    rintro gs4 g4' wp4 w4 sl4 tt4 q4 ⟨rfl, rfl⟩ hF4
    have hR4 := hR3.next hF3.pz hF4.pz (Bel.refl wp4.heap.size wp4) hR3.size
    rw [← graft16] at hF4
    refine (lift_code (b := base 16) (Z := Zc) (k := []) (Qn := QE (.slice A1 n c1) (.slice A3 n2 c3) n wp4) (Qr := fun _ _ => False) hSP hS rfl (by kernel_rfl) rfl plain16 (fun a w T d h => QE.tp a w T d h) (fun _ _ _ _ h => h.elim)
      (fun T => wp_mono (commonE A1 A3 n c1 n2 c3 (tp wp4 T 0) hn) (fun e a w h => h.imp (fun ⟨h0, h1, h2, h3⟩ => ⟨h0, h1, bel_base h2, h3⟩) (fun h => h))) sl4 hF4).ends ?_
    rintro gs5 g5' wp5 w5 sl5 tt5 q5 (⟨a, rfl, hQE⟩ | ⟨a, todo, _, h⟩) hF5
    rotate_left
    · exact h.elim
    have hR5 := hR4.next hF4.pz hF5.pz hQE.2.1 hR4.size
    obtain ⟨N, gs6, w6, sl6, tt6, q6, D6, Sh6, g6', wp6, hrun, hS6, hF6, hback, hb6, hcell, hrw, hheap, _⟩ := phaseE (xs := mI zss n) (ys := mI yss n2) sl5 hF5 hQE (fun b hb => Nat.lt_of_lt_of_le (hDl b hb) hR4.size) hn hn2 (by rw [← mv_map]; exact hx) (mi_len _ _) (by rw [← mv_map]; exact hy) (mi_len _ _)
    refine good_from hrun ?_
    have hR6 : Truth W w6 wp6 := ⟨hb6.to.os.trans hR4.os, hb6.to.output.trans hR4.output, Nat.le_trans hR4.size hb6.size, fun b hb => (hheap b (Nat.lt_of_lt_of_le hb hR4.size)).trans (hR5.heap b hb)⟩
    exact behind_law hS6 sl6 (hM3.bel hb6) (hN3.bel hb6) hz hz2 (C13.bel hb6) (C23.bel hb6) hR6 hn hcell hrw (meet_law C1.len C2.len hfam.1 hfam.2) hback hF6
end Go.Proofs.Ytafhpbghogdipaa
