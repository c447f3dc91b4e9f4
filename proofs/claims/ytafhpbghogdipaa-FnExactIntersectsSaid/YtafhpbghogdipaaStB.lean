/- St4 St5 St6 (merge.py). -/
import Derived.Test.YtafhpbghogdipaaStA
import Derived.Test.YtafhpbghogdipaaLfC
/- The quiet walks between the parts. -/
namespace Go.Proofs.Ytafhpbghogdipaa
open Go.Conc Go.ConcN Go.RowKit Go.Conc.Lib Go.ConcR.Gen Go.ConcN.Gen
open Go.ConcR (DC0)
set_option maxHeartbeats 8000000
set_option linter.unusedVariables false

noncomputable def Z3 : Code := tailN 8 (bodyOf 3)
noncomputable def Z7 : Code := tailN 1 (bodyOf 7)
noncomputable def Zc : Code := tailN 1 (bodyOf 16)
def opsOf : Code → Array Oper
  | .seq (.region _ ops _) _ => ops
  | _ => #[]
def restOf : Code → Code
  | .seq _ r => r
  | _ => .skip
theorem no_rely {w w₁ : World} (_h : True) (_r : AtRel w w₁) : True := trivial
/-- The law waits. -/
noncomputable def W3 (sA sG v5 v6 x y d10 d11 d12 d13 d14 d15 d16 d17 d18 d19 d20 d21 d22 d23 d24 d25 d26 d27 d28 : Value) : Frame := (base 3).at ⟨#[sA, sG, undef, undef, .bool false, v5, v6, x, y, undef, d10, d11, d12, d13, d14, d15, d16, d17, d18, d19, d20, d21, d22, d23, d24, d25, d26, d27, d28, x, y, undef, undef, undef, undef, undef, undef, undef, undef, undef, undef, undef, undef, undef, undef], []⟩ (.inRegion (opsOf Z3) [2, 3] :: .code (restOf Z3) :: [])
set_option maxRecDepth 100000 in
theorem quietB (sA sG v5 v6 x y d10 d11 d12 d13 d14 d15 d16 d17 d18 d19 d20 d21 d22 d23 d24 d25 d26 d27 d28 : Value) (cs : List Frame) : ∀ w, True → Goes Try.prog true AtRel DC0 (fun g1 _ => g1 = G ((base 7).at ⟨#[x, y] ++ Array.replicate (24 - 2) undef, []⟩ [.code (bodyOf 7)]) (W3 sA sG v5 v6 x y d10 d11 d12 d13 d14 d15 d16 d17 d18 d19 d20 d21 d22 d23 d24 d25 d26 d27 d28 :: cs)) 6
    (G ((base 3).at ⟨#[sA, sG, undef, undef, .bool false, v5, v6, x, y, undef, d10, d11, d12, d13, d14, d15, d16, d17, d18, d19, d20, d21, d22, d23, d24, d25, d26, d27, d28, undef, undef, undef, undef, undef, undef, undef, undef, undef, undef, undef, undef, undef, undef, undef, undef], []⟩ (.code Z3 :: [])) cs) w := by
  intro w hF
  unfold W3 Z3
  simp only [bodyOf, tailN, opsOf, restOf, Try.func3, Try.f3, Try.func7, Try.f7, Option.bind_some, Option.getD_some, Array.replicate, List.replicate, List.append_toArray, List.cons_append, List.nil_append, Nat.reduceSub]
  u_c stepG_seq no_rely hF
  u_reg no_rely hF
  u_op no_rely hF
  u_op no_rely hF
  u_call Try.func7 (by decide) Try.f7 no_rely hF
  refine Goes.stop (fun w₁ h₁ => ?_)
  rfl
/-- impl.Intersects waits: for common; for Concat; for Contains. -/
noncomputable def W7 (x y v1 v2 t8 t9 t10 t11 t12 t13 t14 r1 r2 : Value) (l : List Nat) : Frame := (base 7).at ⟨#[x, y, undef, undef, .bool false, v1, v2, .bool true, t8, t9, t10, t11, t12, t13, t14, .bool true, .bool true, v1, v2, r1, r2, undef, undef, undef], []⟩ (.inRegion (opsOf Z7) l :: .code (restOf Z7) :: [])
set_option maxRecDepth 100000 in
theorem quietD (x y v1 v2 t8 t9 t10 t11 t12 t13 t14 : Value) (cs : List Frame) : ∀ w, True → Goes Try.prog true AtRel DC0 (fun g1 _ => g1 = G ((base 16).at ⟨#[v1, v2] ++ Array.replicate (24 - 2) undef, []⟩ [.code (bodyOf 16)]) (W7 x y v1 v2 t8 t9 t10 t11 t12 t13 t14 undef undef [4, 5, 6, 7, 8, 9] :: cs)) 8
    (G ((base 7).at ⟨#[x, y, undef, undef, .bool false, v1, v2, .bool true, t8, t9, t10, t11, t12, t13, t14, undef, undef, undef, undef, undef, undef, undef, undef, undef], []⟩ (.code Z7 :: [])) cs) w := by
  intro w hF
  unfold W7 Z7
  simp only [bodyOf, tailN, opsOf, restOf, Try.func7, Try.f7, Try.func16, Try.f16, Option.bind_some, Option.getD_some, Array.replicate, List.replicate, List.append_toArray, List.cons_append, List.nil_append, Nat.reduceSub]
  u_c stepG_seq no_rely hF
  u_reg no_rely hF
  u_op no_rely hF
  u_op no_rely hF
  u_op no_rely hF
  u_op no_rely hF
  u_call Try.func16 (by decide) Try.f16 no_rely hF
  refine Goes.stop (fun w₁ h₁ => ?_)
  rfl
set_option maxRecDepth 100000 in
theorem quietD0 (x y v1 v2 t8 t9 t10 t11 t12 t13 t14 : Value) (c : Frame) (cs : List Frame) : ∀ w, True → Goes Try.prog true AtRel DC0 (fun g1 _ => g1 = G (c.finish (.bool false)) cs) 16
    (G ((base 7).at ⟨#[x, y, undef, undef, .bool false, v1, v2, .bool false, t8, t9, t10, t11, t12, t13, t14, undef, undef, undef, undef, undef, undef, undef, undef, undef], []⟩ (.code Z7 :: [])) (c :: cs)) w := by
  intro w hF
  unfold Z7
  simp only [bodyOf, tailN, Try.func7, Try.f7, Option.bind_some, Option.getD_some]
  u_c stepG_seq no_rely hF
  u_reg no_rely hF
  u_op no_rely hF
  u_op no_rely hF
  u_skip no_rely hF
  u_skip no_rely hF
  u_skip no_rely hF
  u_skip no_rely hF
  u_skip no_rely hF
  u_skip no_rely hF
  u_op no_rely hF
  u_op no_rely hF
  u_c stepG_region_end no_rely hF
  u_c stepG_ret' no_rely hF
  u_in no_rely hF
  rw [stepG_leave rfl rfl Try.func7 (results_tmp rfl _ _ _) (events_results_tmp rfl _ _)]
  simp only [goes_go]
  refine ⟨by u_nil, ?_⟩
  refine Goes.stop (fun w₁ h₁ => ?_)
  rfl
set_option maxRecDepth 100000 in
theorem quietG1 (x y v1 v2 t8 t9 t10 t11 t12 t13 t14 r : Value) (cs : List Frame) : ∀ w, True → Goes Try.prog true AtRel DC0 (fun g1 _ => g1 = G (Frame.enter Try.prog 15 #[r] .normal) (W7 x y v1 v2 t8 t9 t10 t11 t12 t13 t14 r undef [5, 6, 7, 8, 9] :: cs)) 3
    (G ((W7 x y v1 v2 t8 t9 t10 t11 t12 t13 t14 undef undef [4, 5, 6, 7, 8, 9]).finish r) cs) w := by
  intro w hF
  rw [enter_base (P := Try.prog) #[r] Try.func15 rfl]
  unfold W7 Z7
  simp only [bodyOf, tailN, opsOf, restOf, Try.func7, Try.f7, Option.bind_some, Option.getD_some]
  show Goes _ _ _ _ _ _ (G ((base 7).at ⟨#[x, y, undef, undef, .bool false, v1, v2, .bool true, t8, t9, t10, t11, t12, t13, t14, .bool true, .bool true, v1, v2, r, undef, undef, undef, undef], []⟩ (.inRegion _ [5, 6, 7, 8, 9] :: _)) cs) w
  u_call Try.func15 (by decide) Try.f15 no_rely hF
  refine Goes.stop (fun w₁ h₁ => ?_)
  rfl
set_option maxRecDepth 100000 in
theorem quietG2 (x y v1 v2 t8 t9 t10 t11 t12 t13 t14 r r2 : Value) (cs : List Frame) : ∀ w, True → Goes Try.prog true AtRel DC0 (fun g1 _ => g1 = G (Frame.enter Try.prog 14 #[r2, .int .u64 0] .normal) (W7 x y v1 v2 t8 t9 t10 t11 t12 t13 t14 r r2 [6, 7, 8, 9] :: cs)) 3
    (G ((W7 x y v1 v2 t8 t9 t10 t11 t12 t13 t14 r undef [5, 6, 7, 8, 9]).finish r2) cs) w := by
  intro w hF
  rw [enter_base (P := Try.prog) #[r2, .int .u64 0] Try.func14 rfl]
  unfold W7 Z7
  simp only [bodyOf, tailN, opsOf, restOf, Try.func7, Try.f7, Option.bind_some, Option.getD_some]
  show Goes _ _ _ _ _ _ (G ((base 7).at ⟨#[x, y, undef, undef, .bool false, v1, v2, .bool true, t8, t9, t10, t11, t12, t13, t14, .bool true, .bool true, v1, v2, r, r2, undef, undef, undef], []⟩ (.inRegion _ [6, 7, 8, 9] :: _)) cs) w
  u_call Try.func14 (by decide) Try.f14 no_rely hF
  refine Goes.stop (fun w₁ h₁ => ?_)
  rfl
set_option maxRecDepth 100000 in
theorem quietG3 (x y v1 v2 t8 t9 t10 t11 t12 t13 t14 r r2 : Value) (z : Bool) (c : Frame) (cs : List Frame) : ∀ w, True → Goes Try.prog true AtRel DC0 (fun g1 _ => g1 = G (c.finish (.bool !z)) cs) 8
    (G ((W7 x y v1 v2 t8 t9 t10 t11 t12 t13 t14 r r2 [6, 7, 8, 9]).finish (.bool z)) (c :: cs)) w := by
  intro w hF
  unfold W7 Z7
  simp only [bodyOf, tailN, opsOf, restOf, Try.func7, Try.f7, Option.bind_some, Option.getD_some]
  show Goes _ _ _ _ _ _ (G ((base 7).at ⟨#[x, y, undef, undef, .bool false, v1, v2, .bool true, t8, t9, t10, t11, t12, t13, t14, .bool true, .bool true, v1, v2, r, r2, .bool z, undef, undef], []⟩ (.inRegion _ [7, 8, 9] :: _)) (c :: cs)) w
  u_op no_rely hF
  u_op no_rely hF
  u_op no_rely hF
  u_c stepG_region_end no_rely hF
  u_c stepG_ret' no_rely hF
  u_in no_rely hF
  rw [stepG_leave rfl rfl Try.func7 (results_tmp rfl _ _ _) (events_results_tmp rfl _ _)]
  simp only [goes_go]
  refine ⟨by u_nil, ?_⟩
  refine Goes.stop (fun w₁ h₁ => ?_)
  rfl
set_option maxRecDepth 100000 in
theorem quietH (sA sG v5 v6 x y d10 d11 d12 d13 d14 d15 d16 d17 d18 d19 d20 d21 d22 d23 d24 d25 d26 d27 d28 r : Value) (cs : List Frame) : ∀ w, True → Goes Try.prog true AtRel DC0 (fun g1 _ => g1 = G ((base 3).at ⟨#[sA, sG, undef, undef, .bool false, v5, v6, x, y, r, d10, d11, d12, d13, d14, d15, d16, d17, d18, d19, d20, d21, d22, d23, d24, d25, d26, d27, d28, x, y, r, undef, undef, undef, undef, undef, undef, undef, undef, undef, undef, undef, undef, undef], []⟩ (.code (restOf Z3) :: [])) cs) 4
    (G ((W3 sA sG v5 v6 x y d10 d11 d12 d13 d14 d15 d16 d17 d18 d19 d20 d21 d22 d23 d24 d25 d26 d27 d28).finish r) cs) w := by
  intro w hF
  unfold W3 Z3
  simp only [bodyOf, tailN, opsOf, restOf, Try.func3, Try.f3, Option.bind_some, Option.getD_some]
  show Goes _ _ _ _ _ _ (G ((base 3).at ⟨#[sA, sG, undef, undef, .bool false, v5, v6, x, y, undef, d10, d11, d12, d13, d14, d15, d16, d17, d18, d19, d20, d21, d22, d23, d24, d25, d26, d27, d28, x, y, r, undef, undef, undef, undef, undef, undef, undef, undef, undef, undef, undef, undef, undef], []⟩ (.inRegion _ [3] :: _)) cs) w
  u_op no_rely hF
  u_c stepG_region_end no_rely hF
  refine Goes.stop (fun w₁ h₁ => ?_)
  rfl
end Go.Proofs.Ytafhpbghogdipaa

/- common's phase in company. -/
namespace Go.Proofs.Ytafhpbghogdipaa
open Go.Conc Go.ConcN Go.RowKit Go.Conc.Lib Go.ConcR.Gen Go.ConcN.Gen
open Go.ConcR (KK wgBlock WgAt stA smA rd wr mk Payload DC0 Bk)
set_option maxHeartbeats 8000000
set_option linter.unusedVariables false

section
variable {X A : Option Addr} {n cx ny cy By Br : Nat} {cs : List Frame}
set_option maxRecDepth 100000 in
theorem quietE1 (t2 t7 t8 t9 t10 t11 t12 t13 t14 t15 t16 t17 t18 t19 t20 t21 t22 t23 : Value) : ∀ w, True → Goes Try.prog true AtRel DC0 (fun g1 _ => g1 = G (b16.at ⟨#[.slice X n cx, .slice A ny cy, t2, .pointer (some ⟨By, 0, none⟩), .slice none 0 0, .pointer (some ⟨Br, 0, none⟩), undef, t7, t8, t9, t10, t11, t12, t13, t14, t15, t16, t17, t18, t19, t20, t21, t22, t23], []⟩ (.inRegion ops2 [0] :: .code Z16 :: [])) cs) 3
    (G (b16.at ⟨#[.slice X n cx, .slice A ny cy, t2, .pointer (some ⟨By, 0, none⟩), .slice none 0 0, .pointer (some ⟨Br, 0, none⟩), undef, t7, t8, t9, t10, t11, t12, t13, t14, t15, t16, t17, t18, t19, t20, t21, t22, t23], []⟩ (.code Zc :: [])) cs) w := by
  intro w hF
  unfold Zc
  simp only [bodyOf, tailN, ops2, Z16, body16, Try.func16, Try.f16, Option.bind_some, Option.getD_some]
  u_c stepG_seq no_rely hF
  u_reg no_rely hF
  refine Goes.stop (fun w₁ h₁ => ?_)
  rfl
set_option maxRecDepth 100000 in
theorem hushE (t2 t7 t8 t9 t10 t11 t12 t13 t14 t15 t16 t17 t18 t19 t20 t21 t22 t23 : Value) (w : World) : Goes Try.prog true AtRel DH (fun g1 w1 => ∃ d, w1 = (w.at d).alloc (wgBlock Try.link.tWg 0 0) ∧ g1 = begS X A n cx ny cy By Br w.heap.size t2 t7 t8 t9 t10 t11 t12 t13 t14 t15 t16 t17 t18 t19 t20 t21 t22 t23 cs) 1
    (G (b16.at ⟨#[.slice X n cx, .slice A ny cy, t2, .pointer (some ⟨By, 0, none⟩), .slice none 0 0, .pointer (some ⟨Br, 0, none⟩), undef, t7, t8, t9, t10, t11, t12, t13, t14, t15, t16, t17, t18, t19, t20, t21, t22, t23], []⟩ (.inRegion ops2 [0] :: .code Z16 :: [])) cs) w := by
  unfold begS
  simp only [ops2, Z16, body16, Try.f16, Option.getD_some]
  refine Goes.step rfl (fun w₁ h₁ => ?_)
  obtain ⟨d, rfl⟩ := h₁
  refine goes_oper_k rfl rfl (by decide) (fun K hK => ?_)
  generalize hLx : Go.Conc.listed _ _ _ _ _ = Lx at hK
  have hev : Lx = #[] := by
    refine Array.eq_empty_iff_forall_not_mem.2 fun e he => ?_
    rw [← hLx] at he
    have hm' := mem_listed he
    clear hLx
    simp [go_sem, *] at hm'
  clear hLx
  subst hev
  go_simp
  refine hK _ _ ⟨rfl, Goes.stop (fun w₂ h₂ => ?_)⟩
  obtain ⟨d2, rfl⟩ := h₂
  exact ⟨d2, rfl, rfl⟩
end
end Go.Proofs.Ytafhpbghogdipaa

/- common's phase, from frame to frame. -/
namespace Go.Proofs.Ytafhpbghogdipaa
open Go.Conc Go.ConcN Go.RowKit Go.Conc.Lib Go.ConcR.Gen Go.ConcN.Gen
open Go.ConcR (KK wgBlock WgAt stA smA rd wr mk Payload DC0 Bk)
set_option maxHeartbeats 8000000
set_option linter.unusedVariables false

/-- Behind common's join. -/
def BackE (X A : Option Addr) (n cx ny cy By Br : Nat) (cs : List Frame) (g : Goroutine) : Prop :=
  ∃ (a : Act), g = G (b16.at a (.code E10 :: [])) cs ∧ a.defers = [] ∧ ∃ (t0 t1 t2 t3 t4 t6 t7 t8 t9 t10 t11 t12 t13 t14 t15 t16 t17 t18 t19 t20 t21 t22 t23 : Value), a.tmps = #[t0, t1, t2, t3, t4, .pointer (some ⟨Br, 0, none⟩), t6, t7, t8, t9, t10, t11, t12, t13, t14, t15, t16, t17, t18, t19, t20, t21, t22, t23]
theorem msk_at {w : World} {B : Nat} {A : Option Addr} {zs : List Int} {n j : Nat} (h : Row w B A (zs.map (Value.int .u64))) (hl : zs.length = n) (hj : j < n) : ∃ b off, A = some ⟨b, off, none⟩ ∧ b < B ∧ w.cell? ⟨b, off + j, none⟩ = some (.int .u64 (zs.getD j 0)) :=
  h.at_ (by
    have hjl : j < zs.length := by omega
    simp [hjl])
theorem pz_same {D : DS} {u w u' w' : World} {b : Nat} (h : Pz D u w) (h' : Pz D u' w') (e : u'.heap[b]? = u.heap[b]?) : w'.heap[b]? = w.heap[b]? := by
  by_cases hd : D b
  · exact ((h'.real b hd).1).trans (h.real b hd).1.symm
  · exact (h'.same b hd).symm.trans (e.trans (h.same b hd))
theorem cell_of_heap {w w' : World} {a : Addr} {v : Value} (h : w'.heap[a.block]? = w.heap[a.block]?) (hv : w.cell? a = some v) : w'.cell? a = some v := (World.cell?_of_block h).trans hv
theorem runNT_trans {P : Program} {N M : Nat} {m m' : Machine} {t t' : Trace} {r : Stepped × Trace} (h : runNT P N m t = (.next m', t')) (h2 : runNT P M m' t' = r) : runNT P (N + M) m t = r := by
  rw [runNT_add, h]
  exact h2
set_option maxRecDepth 100000 in
theorem quietF {X A : Option Addr} {n cx ny cy By Br Wg k : Nat} {cs : List Frame} (t2 t7 t8 t9 t10 t11 t15 t16 t17 t18 t19 t20 t21 t22 t23 : Value) : ∀ w, True → Goes Try.prog true AtRel DC0 (fun g1 _ => g1 = G (b16.at ⟨#[.slice X n cx, .slice A ny cy, t2, .pointer (some ⟨By, 0, none⟩), .slice none 0 0, .pointer (some ⟨Br, 0, none⟩), .pointer (some ⟨Wg, 0, none⟩), t7, t8, t9, t10, t11, .slice X n cx, .int .i64 n, .int .i64 k, t15, t16, t17, t18, t19, t20, t21, t22, t23], []⟩ (.code E10 :: [])) cs) 2
    (G (waitF X A n cx ny cy By Br Wg k t2 t7 t8 t9 t10 t11 t15 t16 t17 t18 t19 t20 t21 t22 t23 []) cs) w := by
  intro w hF
  unfold waitF
  u_c stepG_region_end no_rely hF
  refine Goes.stop (fun w₁ h₁ => ?_)
  rfl
theorem phaseE {D : DS} {X A : Option Addr} {n cx ny cy : Nat} {xs ys : List Int} {cs : List Frame} {w0 wp w : World} {gs : Array Goroutine} {t : Trace} {q : Nat → Nat} {a : Act} (sl : Option (Nat × Nat))
    (hF : Fr Try.prog (fun _ => False) D (G (b16.at a (.code Zc :: [])) cs) wp gs w t q) (hQ : QE (.slice X n cx) (.slice A ny cy) n w0 a wp) (hD : ∀ b, D b → b < w0.heap.size) (hn : n ≤ 20) (hny : ny ≤ 20)
    (hx : Row w0 w0.heap.size X (xs.map (Value.int .u64))) (hxl : xs.length = n) (hy : Row w0 w0.heap.size A (ys.map (Value.int .u64))) (hyl : ys.length = ny) :
    ∃ (N : Nat) (gs' : Array Goroutine) (w' : World) (sl' : Option (Nat × Nat)) (t' : Trace) (q' : Nat → Nat) (D' : DS) (Shun' : Loc → Prop) (g' : Goroutine) (wp' : World),
      runNT Try.prog N (crowd gs w sl) t = (.next (crowd gs' w' sl'), t') ∧ (∀ l, Shun' l → ∃ a, l = .cell a ∧ D' a.block) ∧ Fr Try.prog Shun' D' g' wp' gs' w' t' q' ∧
      BackE X A n cx ny cy w0.heap.size (w0.heap.size + 2) cs g' ∧ Bel w0.heap.size w0 wp' ∧ wp'.cell? ⟨w0.heap.size + 2, 0, none⟩ = some (.slice (some ⟨w0.heap.size + 1, 0, none⟩) n n) ∧
      RowsAt wp' wp'.heap.size (w0.heap.size + 1) n (rowsF xs ys ny) ∧ (∀ b, b < w0.heap.size → w'.heap[b]? = w.heap[b]?) ∧ ∀ b, D'.keep b = w'.heap[b]? := by
  obtain ⟨ha, hbel, hsz, hcy, hcr, hpay⟩ := hQ
  obtain ⟨N0, gs0, g0, wp0, w0', sl0, t0, q0, h1, h2, ⟨hg, hwp⟩, hF0⟩ := quiet_to (D := D) sl (by rw [ha] at hF; exact hF) (quietE1 (X := X) (A := A) (n := n) (cx := cx) (ny := ny) (cy := cy) (By := w0.heap.size) (Br := w0.heap.size + 2) (cs := cs) _ _ _ _ _ _ _ _ _ _ _ _ _ _ _ _ _ _)
  subst hg hwp
  obtain ⟨N1, gs1, a1, w1, sl1, t1, q1, k1, k2, k3, ⟨d, hw1, rfl⟩, k5, k6⟩ := hush_beside (B := w0'.heap.size) _ 1 gs0 _ w0' sl0 t0 q0 (Nat.le_refl _) hF0.h0 hF0.lv hF0.past (hushE (X := X) (A := A) (n := n) (cx := cx) (ny := ny) (cy := cy) (By := w0.heap.size) (Br := w0.heap.size + 2) (cs := cs) _ _ _ _ _ _ _ _ _ _ _ _ _ _ _ _ _ _ w0')
  have hsz0 : w0'.heap.size = w0.heap.size + 3 := hF0.pz.size.symm.trans hsz
  rw [hsz0] at k3 k6
  have old : ∀ b, b < w0.heap.size + 3 → w1.heap[b]? = w0'.heap[b]? := fun b hb => by
    rw [hw1]
    exact Below.heap_alloc _ _ _ (by rw [← hsz0] at hb; exact hb)
  have hwsz : w1.heap.size = w0.heap.size + 4 := by
    rw [hw1]
    simp [World.at, hsz0]
  have hwg : WgAt Try.link.tWg (w0.heap.size + 3) w1 0 0 := by
    rw [hw1, ← hsz0]
    exact heap_alloc_new (w0'.at d) _
  have cell1 : ∀ {ad : Addr} {v : Value}, ad.block < w0.heap.size + 3 → wp0.cell? ad = some v → w1.cell? ad = some v := fun hb hv => cell_of_heap (old _ hb) (hF0.pz.cell hv)
  have lowc : ∀ {ad : Addr} {v : Value}, ad.block < w0.heap.size → w0.cell? ad = some v → w1.cell? ad = some v := fun hb hv => cell1 (by omega) (cell_of_heap (hbel.block _ hb) hv)
  have hpay1 : w1.heap[w0.heap.size + 1]? = some (.cells (Array.replicate n (.slice none 0 0)) 30) := (old _ (by omega)).trans (hF0.pz.block hpay).2
  have Gs : GeoS (fun _ => False) (w0.heap.size + 3) (w0.heap.size + 1) n (w0.heap.size + 4) w0.heap.size (w0.heap.size + 2) :=
    ⟨by omega, by omega, by omega, ⟨by omega, by omega, by omega, fun h => h⟩, ⟨by omega, by omega, by omega, fun h => h⟩, by omega⟩
  have hgs1 : 1 ≤ gs1.size := (Array.getElem?_eq_some_iff.1 k3).1
  have Gx : GeoX gs1.size (w0.heap.size + 3) (w0.heap.size + 1) (w0.heap.size + 4) w1 := ⟨hgs1, by omega, by omega, by omega, by omega⟩
  have hSK : SK (fun _ => False) (w0.heap.size + 3) (w0.heap.size + 1) n (w0.heap.size + 4) w0.heap.size (w0.heap.size + 2) X A ny cy xs ys 0 w1 := by
    refine ⟨by omega, cell1 (by simp) hcy, cell1 (by simp) hcr, fun j hj => ?_, fun j hj => ?_, ⟨0, 0, hwg⟩, ⟨_, hpay1, by simp⟩, fun j _ hj => ?_⟩
    · obtain ⟨b, off, e, hb, hc⟩ := msk_at hx hxl hj
      exact ⟨b, off, e, ⟨_, rfl, by simp; omega, by simp; omega, by simp; omega, fun h => h⟩, lowc hb hc⟩
    · obtain ⟨b, off, e, hb, hc⟩ := msk_at hy hyl hj
      exact ⟨b, off, e, ⟨_, rfl, by simp; omega, by simp; omega, by simp; omega, fun h => h⟩, lowc hb hc⟩
    · simp [World.cell?, hpay1, hj]
  obtain ⟨N2, m', t2', hr2, gs2, w2, sl2, q2, a2, γ, rfl, hgs2, h02, hrun2, hL2, hP2, ⟨TA, TB, TC, TD, TE, TF, TG, TH, TI, TJ, TK, TL, TM, TN, TO, hSK2, m, hGo⟩, hfin, hpay2, hsame⟩ := phase16 (sl := sl1) rfl Gs (by omega) Gx _ _ _ _ _ _ _ _ _ _ _ _ _ _ _ _ _ _ k3 k5 k6 (fun a h => h.elim) hwg hSK
  obtain ⟨N3, gs3, a3, sl3, t3, q3, d3, hr3, hgs3, h03, rfl, hL3, hP3⟩ := quiet_beside _ m gs2 a2 w2 sl2 t2' q2 (Nat.le_refl _) h02 hL2 hP2 hGo
  obtain ⟨st, sm, hwg2⟩ := hSK2.live
  have hwg3 : (w2.at d3).heap[w0.heap.size + 3]? = some (.cells #[.int .u64 st, .int .u32 sm] Try.link.tWg (0, 0)) := hwg2
  obtain ⟨hF3, hlow3⟩ := fr_crowd (Shun := fun _ => False) (Wg := w0.heap.size + 3) (C := w0.heap.size + 1) (Low := w0.heap.size + 3) hF0.pz hF0.np (fun b hb => ⟨by have := hD b hb; omega, by have := hD b hb; omega, by have := hD b hb; omega⟩) hwg3 (fun b hb hb2 hb3 => (hsame.low b (by omega) hb2 hb3).trans (old b hb)) h03 hL3 hP3
  obtain ⟨N4, gs4, g4, wp4, w4, sl4, t4, q4, hr4, hgs4, ⟨rfl, hwp4⟩, hF4⟩ := quiet_to sl3 hF3 (quietF TA TB TC TD TE TF TG TH TI TJ TK TL TM TN TO)
  have hheap4 : ∀ b : Nat, w4.heap[b]? = w2.heap[b]? := fun b => (show w4.heap[b]? = (w2.at d3).heap[b]? from pz_same hF3.pz hF4.pz (by rw [hwp4]; rfl))
  have hDC : ∀ g, w0.heap.size + 4 ≤ g ∨ g = w0.heap.size + 1 → (∃ c e k, w2.heap[g]? = some (.cells c e k)) → (psn (Dd (fun b => D b ∨ b = w0.heap.size + 3) (w2.at d3)) (w2.at d3)).heap[g]? = w2.heap[g]? := by
    rintro g hg ⟨c, e, k, hc⟩
    refine psn_out ?_
    rintro ((h | h) | ⟨c', e', h⟩)
    · have := hD g h
      omega
    · omega
    · have h2 : w2.heap[g]? = some (.pending c' e') := h
      rw [hc] at h2
      cases h2
  have hsz4 : wp4.heap.size = w2.heap.size := by rw [hwp4]; exact psn_size
  have hlen : ∀ i, (rowsF xs ys ny i).length = ny := fun i => rowK_len _ _ _
  refine ⟨N0 + (N1 + (N2 + (N3 + N4))), gs4, w4, sl4, t4, q4, _, _, _, wp4, runNT_trans h1 (runNT_trans k1 (runNT_trans hr2 (runNT_trans hr3 hr4))), ?_, hF4, ?_, ?_, ?_, ?_, ?_, ?_⟩
  · rintro l (h | ⟨ad, rfl, had⟩)
    · exact h.elim
    · exact ⟨ad, rfl, .inl (.inr had)⟩
  · exact ⟨_, rfl, rfl, _, _, _, _, _, _, _, _, _, _, _, _, _, _, _, _, _, _, _, _, _, _, _, rfl⟩
  · rw [hwp4]
    refine ⟨?_, rfl, ?_, ?_, fun b hb => ?_⟩
    · show w2.os = w0.os
      have e1 : w1.os = w0'.os := by rw [hw1]; rfl
      have e2 : wp0.os = w0'.os := hF0.pz.os
      exact hsame.os.trans (e1.trans (e2.symm.trans hbel.to.os))
    · show w2.output = w0.output
      have e1 : w1.output = w0'.output := by rw [hw1]; rfl
      have e2 : wp0.output = w0'.output := hF0.pz.output
      exact hsame.output.trans (e1.trans (e2.symm.trans hbel.to.output))
    · show w0.heap.size ≤ (psn _ (w2.at d3)).heap.size
      rw [psn_size]
      have : w1.heap.size ≤ w2.heap.size := hsame.size
      show w0.heap.size ≤ w2.heap.size
      omega
    · exact (hlow3 b (by omega) (by omega) (by omega)).trans (hbel.block b hb)
  · rw [hwp4]
    exact cell_of_heap (w := wp0) (hlow3 (w0.heap.size + 2) (by omega) (by omega) (by omega)) hcr
  · refine ⟨fun i hi => ?_, fun i hi => by rw [hlen]; exact hny, ?_⟩
    · obtain ⟨γi, u, hu, ⟨hul, hurow⟩, _⟩ := hfin i hi
      obtain ⟨pc, hpc, _⟩ := hpay2
      have hcellC : wp4.cell? ⟨w0.heap.size + 1, i, none⟩ = some u := by
        rw [hwp4]
        exact cell_of_heap (w := w2) (hDC _ (.inr rfl) ⟨_, _, _, hpc⟩) hu
      have hrow4 : wp4.ownsRow (w0.heap.size + 4) 36 1 u (rowsF xs ys ny i).length ((rowsF xs ys ny i).map (Value.int .u64)) := by
        refine ownsRow_of ⟨hul, hurow⟩ fun g hg => ?_
        rcases hurow with ⟨rfl, _⟩ | ⟨g', cap, cur, rfl, hg1, hg2, _⟩
        · cases hg
        · obtain rfl : g' = g := by simpa [Value.ownBlock] using hg
          rw [hwp4]
          exact hDC _ (.inl hg1) ⟨_, _, _, hg2⟩
      obtain ⟨A4, c4, rfl, e1, e2, hr⟩ := owns_row hrow4
      refine ⟨A4, c4, hcellC, e1, e2, fun hA => ?_, hr⟩
      subst hA
      rcases hrow4.2 with ⟨_, h0⟩ | ⟨g', cap, cur, h0, _⟩
      · exact h0
      · cases h0
    · rw [hsz4]
      have : w1.heap.size ≤ w2.heap.size := hsame.size
      omega
  · intro b hb
    rw [hheap4]
    exact (hsame.low b (by omega) (by omega) (by omega)).trans ((old b (by omega)).trans (pz_same hF.pz hF0.pz rfl))
  · intro b
    exact (hheap4 b).symm
end Go.Proofs.Ytafhpbghogdipaa
