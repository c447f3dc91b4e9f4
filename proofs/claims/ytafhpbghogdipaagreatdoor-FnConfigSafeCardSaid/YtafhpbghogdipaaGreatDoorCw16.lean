/- impl.common: from behind the group's making to behind the join. -/
import Derived.Test.YtafhpbghogdipaaGreatDoorCw15
namespace Go.Proofs.YtafhpbghogdipaaGreatDoor
open Go.Conc Go.ConcN Go.RowKit Go.Conc.Lib Go.ConcR.Gen Go.ConcN.Gen
open Go.ConcR (KK wgBlock WgAt stA smA rd wr mk Payload DC0 Bk)
set_option maxHeartbeats 8000000
set_option maxRecDepth 100000
set_option linter.unusedVariables false

section
variable {Shun : Loc → Prop} {Wg C n Low By Br : Nat} {X A : Option Addr} {cx ny cy : Nat} {xs ys : List Int} {cs : List Frame}
noncomputable def ops2 : Array Oper := match body16 with | .seq _ (.seq _ (.seq (.region _ ops _) _)) => ops | _ => #[]
/-- Behind the group's making. -/
noncomputable def begS (X A : Option Addr) (n cx ny cy By Br Wg : Nat) (t2 t7 t8 t9 t10 t11 t12 t13 t14 t15 t16 t17 t18 t19 t20 t21 t22 t23 : Value) (cs : List Frame) : Goroutine := G (b16.at ⟨#[.slice X n cx, .slice A ny cy, t2, .pointer (some ⟨By, 0, none⟩), .slice none 0 0, .pointer (some ⟨Br, 0, none⟩), .pointer (some ⟨Wg, 0, none⟩), t7, t8, t9, t10, t11, t12, t13, t14, t15, t16, t17, t18, t19, t20, t21, t22, t23], []⟩ (.inRegion ops2 [] :: .code Z16 :: [])) cs
set_option maxRecDepth 100000 in
theorem script (Gs : GeoS Shun Wg C n Low By Br) (hny : ny ≤ 1048576) : ∃ m, ∀ (w : World) (t2 t7 t8 t9 t10 t11 t12 t13 t14 t15 t16 t17 t18 t19 t20 t21 t22 t23 : Value), SK Shun Wg C n Low By Br X A ny cy xs ys 0 w → GX Tryz.prog true (RX Tryz.link.tWg Wg C n Low) (DX Shun Tryz.link.tWg Wg C n Low true) (SpStop Tryz.prog Shun Tryz.link.tWg Wg C n Low (FinR C Low (rowsF xs ys ny)) (AnchS Shun Wg C n Low By Br X A cx ny cy xs ys cs) n) m (sgam 0) (begS X A n cx ny cy By Br Wg t2 t7 t8 t9 t10 t11 t12 t13 t14 t15 t16 t17 t18 t19 t20 t21 t22 t23 cs) w := by
  obtain ⟨m, hm⟩ := rounds (Shun := Shun) (X := X) (A := A) (cx := cx) (cy := cy) (xs := xs) (ys := ys) (cs := cs) Gs hny n 0 (by omega)
  refine ⟨20 + m, fun w t2 t7 t8 t9 t10 t11 t12 t13 t14 t15 t16 t17 t18 t19 t20 t21 t22 t23 hF => ?_⟩
  unfold begS
  unfold headS at hm
  simp only [ops2, E16, L16, Z16, body16, Tryz.f17, Option.getD_some] at hm ⊢
  refine GX.le (GX.silent (k := 16) (m := m) ?_) (by omega)
  u_c stepG_region_end (sk_rely Gs) hF
  u_c stepG_seq (sk_rely Gs) hF
  u_c stepG_seq (sk_rely Gs) hF
  u_reg (sk_rely Gs) hF
  u_op (sk_rely Gs) hF
  u_op (sk_rely Gs) hF
  u_op (sk_rely Gs) hF
  u_c stepG_region_end (sk_rely Gs) hF
  u_c stepG_block (sk_rely Gs) hF
  u_c stepG_loop (sk_rely Gs) hF
  refine Goes.stop (fun w₁ h₁ => ?_)
  replace hF := (sk_rely Gs) hF h₁
  exact hm w₁ _ _ _ _ _ _ _ _ _ _ _ _ _ _ _ hF
/-- Behind Wait. -/
def PostS (Shun : Loc → Prop) (Wg C n Low By Br : Nat) (X A : Option Addr) (cx ny cy : Nat) (xs ys : List Int) (cs : List Frame) (γ : Gh) (g : Goroutine) (w : World) : Prop :=
  ∃ (t2 t7 t8 t9 t10 t11 t15 t16 t17 t18 t19 t20 t21 t22 t23 : Value), PostW (SK Shun Wg C n Low By Br X A ny cy xs ys n) Tryz.prog (G (waitF X A n cx ny cy By Br Wg n t2 t7 t8 t9 t10 t11 t15 t16 t17 t18 t19 t20 t21 t22 t23 []) cs) γ g w
theorem anchS_run {γ : Gh} {g : Goroutine} {w : World} (h : AnchS Shun Wg C n Low By Br X A cx ny cy xs ys cs γ g w) : g.status = .running := by
  obtain ⟨_, _, _, _, _, _, _, _, _, _, _, _, _, _, _, _, T, e, _⟩ := h
  rw [e]
  rfl
set_option maxRecDepth 100000 in
theorem anchS_round (Gs : GeoS Shun Wg C n Low By Br) (γ : Gh) (g : Goroutine) (w : World) (h : AnchS Shun Wg C n Low By Br X A cx ny cy xs ys cs γ g w) :
    ∃ m, GX Tryz.prog true (RX Tryz.link.tWg Wg C n Low) (DX Shun Tryz.link.tWg Wg C n Low true) (StW1 Tryz.prog Shun Tryz.link.tWg Wg C n Low (AnchS Shun Wg C n Low By Br X A cx ny cy xs ys cs) (PostS Shun Wg C n Low By Br X A cx ny cy xs ys cs)) m γ g w := by
  obtain ⟨t2, t7, t8, t9, t10, t11, t15, t16, t17, t18, t19, t20, t21, t22, t23, h⟩ := h
  have hput : (({ tmps := #[.slice X n cx, .slice A ny cy, t2, .pointer (some ⟨By, 0, none⟩), .slice none 0 0, .pointer (some ⟨Br, 0, none⟩), .pointer (some ⟨Wg, 0, none⟩), t7, t8, t9, t10, t11, .slice X n cx, .int .i64 n, .int .i64 n, t15, t16, t17, t18, t19, t20, t21, t22, t23], defers := [] } : Act).put ((ops9[0]?).bind (·.dst)) (.tuple #[])) = { tmps := #[.slice X n cx, .slice A ny cy, t2, .pointer (some ⟨By, 0, none⟩), .slice none 0 0, .pointer (some ⟨Br, 0, none⟩), .pointer (some ⟨Wg, 0, none⟩), t7, t8, t9, t10, t11, .slice X n cx, .int .i64 n, .int .i64 n, t15, t16, t17, t18, t19, t20, t21, (.tuple #[]), t23], defers := [] } := by
    simp only [ops9, E16, Z16, body16, Tryz.f17, Option.getD_some]
    rfl
  have := waitRoundX (Shun := Shun) (C := C) (n := n) (Low := Low) (Wg := Wg) (o := fun _ => False) (mc := fun i => n ≤ i) (F := SK Shun Wg C n Low By Br X A ny cy xs ys n) (b₀ := b16) (a₀ := ⟨#[.slice X n cx, .slice A ny cy, t2, .pointer (some ⟨By, 0, none⟩), .slice none 0 0, .pointer (some ⟨Br, 0, none⟩), .pointer (some ⟨Wg, 0, none⟩), t7, t8, t9, t10, t11, .slice X n cx, .int .i64 n, .int .i64 n, t15, t16, t17, t18, t19, t20, t21, t22, t23], []⟩) (ops₀ := ops9) (i₀ := 0) (rest₀ := []) (k₀ := .code E10 :: []) (cs := cs) Tryz.wgLib Gs.hCW (fun b h => h.elim) (fun d w w₁ r h => h.rely Gs (fun _ h => h) r) γ g w h
  obtain ⟨m, hm⟩ := this
  rw [hput] at hm
  exact ⟨m, hm.mono fun γ g w h => h.mono (fun γ g w h => ⟨t2, t7, t8, t9, t10, t11, t15, t16, t17, t18, t19, t20, t21, t22, t23, h⟩) (fun γ g w h => ⟨t2, t7, t8, t9, t10, t11, t15, t16, t17, t18, t19, t20, t21, (.tuple #[]), t23, h⟩)⟩
/-- ████ From behind the group's making to behind the join. ████ -/
theorem phase16 {gs : Array Goroutine} {w : World} {sl : Option (Nat × Nat)} {t : Trace} {q : Nat → Nat} {m₀ : Nat} (hm : gs.size = m₀) (Gs : GeoS Shun Wg C n Low By Br) (hny : ny ≤ 1048576) (Gx : GeoX m₀ Wg C Low w) (t2 t7 t8 t9 t10 t11 t12 t13 t14 t15 t16 t17 t18 t19 t20 t21 t22 t23 : Value) (h0 : gs[0]? = some (begS X A n cx ny cy By Br Wg t2 t7 t8 t9 t10 t11 t12 t13 t14 t15 t16 t17 t18 t19 t20 t21 t22 t23 cs)) (hL : Leavers Tryz.prog t gs q) (hP : PastX Shun Wg t)
    (hshC : ∀ a, Shun (.cell a) → a.block ≠ C) (hwg : WgAt Tryz.link.tWg Wg w 0 0) (hF : SK Shun Wg C n Low By Br X A ny cy xs ys 0 w) :
    ∃ N m' t', runNT Tryz.prog N (crowd gs w sl) t = (.next m', t') ∧ EndX Tryz.prog Shun m₀ Wg C n Low (FinR C Low (rowsF xs ys ny)) (PostS Shun Wg C n Low By Br X A cx ny cy xs ys cs) w m' t' := by
  obtain ⟨m, hs⟩ := script (Shun := Shun) (X := X) (A := A) (cx := cx) (cy := cy) (xs := xs) (ys := ys) (cs := cs) Gs hny
  exact crowd_phase (ty := Tryz.link.tWg) (AnchW := AnchS Shun Wg C n Low By Br X A cx ny cy xs ys cs) hm Gx (fun i γ w w₁ r hmc h => h.rely r hmc) (fun i γ d w ⟨u, h1, h2⟩ => ⟨u, h1, h2⟩) (fun γ g w h => anchS_run h) (by have := Gs.hn; omega) (fun γ g w h => anchS_round Gs γ g w h) h0 hL hP hshC hwg hF.pay
    (spx_of (hs w t2 t7 t8 t9 t10 t11 t12 t13 t14 t15 t16 t17 t18 t19 t20 t21 t22 t23 hF))
end
end Go.Proofs.YtafhpbghogdipaaGreatDoor
