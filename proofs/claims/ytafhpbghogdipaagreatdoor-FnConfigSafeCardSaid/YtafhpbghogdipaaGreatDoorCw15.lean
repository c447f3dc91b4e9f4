/- The starter's script: n rounds, then Wait. -/
import Derived.Test.YtafhpbghogdipaaGreatDoorCw14
namespace Go.Proofs.YtafhpbghogdipaaGreatDoor
open Go.Conc Go.ConcN Go.RowKit Go.Conc.Lib Go.ConcR.Gen Go.ConcN.Gen
open Go.ConcR (KK wgBlock WgAt stA smA rd wr mk Payload DC0 Bk)
set_option maxHeartbeats 8000000
set_option maxRecDepth 100000
set_option linter.unusedVariables false

section
variable {Shun : Loc → Prop} {Wg C n Low By Br : Nat} {X A : Option Addr} {cx ny cy : Nat} {xs ys : List Int} {cs : List Frame}
set_option maxRecDepth 100000 in
/-- The loop's end, and the way into Wait. -/
theorem to_wait (Gs : GeoS Shun Wg C n Low By Br) (w : World) (t2 t7 t8 t9 t10 t11 t15 t16 t17 t18 t19 t20 t21 t22 t23 : Value) (hF : SK Shun Wg C n Low By Br X A ny cy xs ys n w) :
    GX Tryz.prog true (RX Tryz.link.tWg Wg C n Low) (DX Shun Tryz.link.tWg Wg C n Low true) (AnchS Shun Wg C n Low By Br X A cx ny cy xs ys cs) 60 (sgam n) (headS X A n cx ny cy By Br Wg n t2 t7 t8 t9 t10 t11 t15 t16 t17 t18 t19 t20 t21 t22 t23 cs) w := by
  have hnl : ¬ ((n : Int) < (n : Int)) := by omega
  have hW := fun (w : World) (t2 t7 t8 t9 t10 t11 t15 t16 t17 t18 t19 t20 t21 t22 t23 : Value) (h : SK Shun Wg C n Low By Br X A ny cy xs ys n w) => (waitStartX (Shun := Shun) (C := C) (n := n) (Low := Low) (Wg := Wg) (o := fun _ => False) (mc := fun i => n ≤ i) (F := SK Shun Wg C n Low By Br X A ny cy xs ys n) (b₀ := b16) (a₀ := ⟨#[.slice X n cx, .slice A ny cy, t2, .pointer (some ⟨By, 0, none⟩), .slice none 0 0, .pointer (some ⟨Br, 0, none⟩), .pointer (some ⟨Wg, 0, none⟩), t7, t8, t9, t10, t11, .slice X n cx, .int .i64 n, .int .i64 n, t15, t16, t17, t18, t19, t20, t21, t22, t23], []⟩) (ops₀ := ops9) (i₀ := 0) (rest₀ := []) (k₀ := .code E10 :: []) (cs := cs) Tryz.wgLib (fun d w w₁ r h => h.rely Gs (fun _ h => h) r) w ⟨h, h.live⟩).mono
    (Stop' := AnchS Shun Wg C n Low By Br X A cx ny cy xs ys cs) fun γ g w h => ⟨t2, t7, t8, t9, t10, t11, t15, t16, t17, t18, t19, t20, t21, t22, t23, h⟩
  unfold headS
  simp only [ops9, E10, L16, E16, Z16, body16, body_wait, waitFn, Tryz.f17, Option.getD_some] at hW ⊢
  refine GX.le (GX.silent (k := 20) (m := 30) ?_) (by omega)
  u_c stepG_seq (sk_rely Gs) hF
  u_reg (sk_rely Gs) hF
  u_op (sk_rely Gs) hF
  u_c stepG_region_end (sk_rely Gs) hF
  u_c stepG_seq (sk_rely Gs) hF
  u_cond false (sk_rely Gs) hF
  u_exit (sk_rely Gs) hF
  u_c stepG_seq (sk_rely Gs) hF
  u_reg (sk_rely Gs) hF
  u_in (sk_rely Gs) hF
  refine goes_call rfl rfl (by decide) rfl Tryz.func31 (nm_wait Tryz.link) rfl ⟨by u_nil, ?_⟩
  walk_nrmf Tryz.f31
  refine Goes.stop (fun w₁ h₁ => ?_)
  replace hF := (sk_rely Gs) hF h₁
  exact hW w₁ _ _ _ _ _ _ _ _ _ _ _ _ _ _ _ hF
set_option maxRecDepth 100000 in
/-- Add's call in a round. -/
theorem add_part (Gs : GeoS Shun Wg C n Low By Br) {k r : Nat} (hk : k < n) (hkr : k + (r + 1) = n) (hny : ny ≤ 1048576)
    {m0 : Nat} (ih : ∀ (w : World) (t2 t7 t8 t9 t10 t11 t15 t16 t17 t18 t19 t20 t21 t22 t23 : Value), SK Shun Wg C n Low By Br X A ny cy xs ys (k + 1) w → GX Tryz.prog true (RX Tryz.link.tWg Wg C n Low) (DX Shun Tryz.link.tWg Wg C n Low true) (SpStop Tryz.prog Shun Tryz.link.tWg Wg C n Low (FinR C Low (rowsF xs ys ny)) (AnchS Shun Wg C n Low By Br X A cx ny cy xs ys cs) r) m0 (sgam (k + 1)) (headS X A n cx ny cy By Br Wg (k + 1) t2 t7 t8 t9 t10 t11 t15 t16 t17 t18 t19 t20 t21 t22 t23 cs) w)
    {Bi Ba : Nat} (hBi : Low ≤ Bi) (hBa : Low ≤ Ba) (hne : Bi ≠ Ba) (w : World) (t2 t9 t10 t11 t15 t16 t17 t18 t19 t20 t21 t22 t23 : Value) (hF : SK Shun Wg C n Low By Br X A ny cy xs ys k w ∧ w.cell? ⟨Bi, 0, none⟩ = some (.int .i64 k) ∧ w.cell? ⟨Ba, 0, none⟩ = some (.int .u64 (xs.getD k 0)) ∧ Bi < w.heap.size ∧ Ba < w.heap.size) :
    GX Tryz.prog true (RX Tryz.link.tWg Wg C n Low) (DX Shun Tryz.link.tWg Wg C n Low true) (SpStop Tryz.prog Shun Tryz.link.tWg Wg C n Low (FinR C Low (rowsF xs ys ny)) (AnchS Shun Wg C n Low By Br X A cx ny cy xs ys cs) (r + 1)) 120 ⟨fun b => (False ∨ b = Bi) ∨ b = Ba, fun i => k ≤ i, 0⟩ (G (b16.at ⟨#[.slice X n cx, .slice A ny cy, t2, .pointer (some ⟨By, 0, none⟩), .slice none 0 0, .pointer (some ⟨Br, 0, none⟩), .pointer (some ⟨Wg, 0, none⟩), .pointer (some ⟨Bi, 0, none⟩), .pointer (some ⟨Ba, 0, none⟩), t9, t10, t11, .slice X n cx, .int .i64 n, .int .i64 k, t15, t16, t17, t18, t19, t20, t21, t22, t23], []⟩ (.code R6 :: .inBlock 1 :: .code I16 :: .inLoop L16 :: .inBlock 0 :: .code E16 :: [])) cs) w := by
  have hW := Gs.hW
  have e : n - (r + 1) = k := by omega
  have r2 : ∀ (d : Nat) (w w1 : World), RX Tryz.link.tWg Wg C n Low ⟨fun b => (False ∨ b = Bi) ∨ b = Ba, fun i => k ≤ i, d⟩ w w1 → SK Shun Wg C n Low By Br X A ny cy xs ys k w ∧ w.cell? ⟨Bi, 0, none⟩ = some (.int .i64 k) ∧ w.cell? ⟨Ba, 0, none⟩ = some (.int .u64 (xs.getD k 0)) ∧ Bi < w.heap.size ∧ Ba < w.heap.size →
      SK Shun Wg C n Low By Br X A ny cy xs ys k w1 ∧ w1.cell? ⟨Bi, 0, none⟩ = some (.int .i64 k) ∧ w1.cell? ⟨Ba, 0, none⟩ = some (.int .u64 (xs.getD k 0)) ∧ Bi < w1.heap.size ∧ Ba < w1.heap.size :=
    fun d w w1 r h => ⟨h.1.rely Gs (fun _ h => h) r, (cell_of_block (r.own Bi (.inl (.inr rfl))) 0).trans h.2.1, (cell_of_block (r.own Ba (.inr rfl)) 0).trans h.2.2.1, Nat.lt_of_lt_of_le h.2.2.2.1 r.size, Nat.lt_of_lt_of_le h.2.2.2.2 r.size⟩
  have hA := fun (w : World) h => addX (Shun := Shun) (C := C) (n := n) (Low := Low) (Wg := Wg) (o := fun b => (False ∨ b = Bi) ∨ b = Ba) (mc := fun i => k ≤ i) (F := fun w => SK Shun Wg C n Low By Br X A ny cy xs ys k w ∧ w.cell? ⟨Bi, 0, none⟩ = some (.int .i64 k) ∧ w.cell? ⟨Ba, 0, none⟩ = some (.int .u64 (xs.getD k 0)) ∧ Bi < w.heap.size ∧ Ba < w.heap.size)
    (Fin := FinR C Low (rowsF xs ys ny)) (j := k) (Next := SpX Tryz.prog Shun Tryz.link.tWg Wg C n Low (FinR C Low (rowsF xs ys ny)) (AnchS Shun Wg C n Low By Br X A cx ny cy xs ys cs) r)
    (b₀ := b16) (a₀ := ⟨#[.slice X n cx, .slice A ny cy, t2, .pointer (some ⟨By, 0, none⟩), .slice none 0 0, .pointer (some ⟨Br, 0, none⟩), .pointer (some ⟨Wg, 0, none⟩), .pointer (some ⟨Bi, 0, none⟩), .pointer (some ⟨Ba, 0, none⟩), t9, t10, t11, .slice X n cx, .int .i64 n, .int .i64 k, t15, t16, t17, t18, t19, t20, t21, t22, t23], []⟩) (ops₀ := ops6) (i₀ := 0) (rest₀ := []) (k₀ := .code R7 :: .inBlock 1 :: .code I16 :: .inLoop L16 :: .inBlock 0 :: .code E16 :: []) (cs := cs) (mT := 20)
    Tryz.wgLib Gs.hCW (by rintro b ((h | h) | h); exact h.elim; omega; omega) r2 (fun w hF hl => go_part Gs hk hkr hny ih hBi hBa hne w t2 t9 t10 t11 t15 t16 t17 t18 (.tuple #[]) t20 t21 t22 t23 hF) w h
  clear ih
  simp only [SpStop, e]
  simp only [ops6, R7, R6, I16, L16, E16, Z16, body16, body_add, addFn, Tryz.f17, Option.getD_some] at hA ⊢
  refine GX.le (GX.silent (k := 10) (m := 100) ?_) (by omega)
  have rr : ∀ {w w1 : World}, (SK Shun Wg C n Low By Br X A ny cy xs ys k w ∧ w.cell? ⟨Bi, 0, none⟩ = some (.int .i64 k) ∧ w.cell? ⟨Ba, 0, none⟩ = some (.int .u64 (xs.getD k 0)) ∧ Bi < w.heap.size ∧ Ba < w.heap.size) → RX Tryz.link.tWg Wg C n Low ⟨fun b => (False ∨ b = Bi) ∨ b = Ba, fun i => k ≤ i, 0⟩ w w1 → _ := fun h r => r2 _ _ _ r h
  u_c stepG_seq rr hF
  u_reg rr hF
  u_in rr hF
  refine goes_call rfl rfl (by decide) rfl Tryz.func28 (nm_add Tryz.link) rfl ⟨by u_nil, ?_⟩
  walk_nrmf Tryz.f28
  refine Goes.stop (fun w₁ h₁ => ?_)
  replace hF := rr hF h₁
  exact hA w₁ ⟨hF, hF.1.live⟩
/-- All rounds. -/
theorem rounds (Gs : GeoS Shun Wg C n Low By Br) (hny : ny ≤ 1048576) : ∀ r k, k + r = n → ∃ m, ∀ (w : World) (t2 t7 t8 t9 t10 t11 t15 t16 t17 t18 t19 t20 t21 t22 t23 : Value), SK Shun Wg C n Low By Br X A ny cy xs ys k w → GX Tryz.prog true (RX Tryz.link.tWg Wg C n Low) (DX Shun Tryz.link.tWg Wg C n Low true) (SpStop Tryz.prog Shun Tryz.link.tWg Wg C n Low (FinR C Low (rowsF xs ys ny)) (AnchS Shun Wg C n Low By Br X A cx ny cy xs ys cs) r) m (sgam k) (headS X A n cx ny cy By Br Wg k t2 t7 t8 t9 t10 t11 t15 t16 t17 t18 t19 t20 t21 t22 t23 cs) w
  | 0, k, hk => by
    obtain rfl : k = n := by omega
    exact ⟨60, fun w t2 t7 t8 t9 t10 t11 t15 t16 t17 t18 t19 t20 t21 t22 t23 h => to_wait Gs w t2 t7 t8 t9 t10 t11 t15 t16 t17 t18 t19 t20 t21 t22 t23 h⟩
  | r + 1, k, hk => by
    obtain ⟨m0, ih⟩ := rounds Gs hny r (k + 1) (by omega)
    exact ⟨120 + 60, fun w t2 t7 t8 t9 t10 t11 t15 t16 t17 t18 t19 t20 t21 t22 t23 h => round_ahead Gs (by omega) (fun Bi Ba w t2 t9 t10 t11 t15 t16 t17 t18 t19 t20 t21 t22 t23 h1 h2 h3 h4 => add_part Gs (by omega) hk hny ih h1 h2 h3 w t2 t9 t10 t11 t15 t16 t17 t18 t19 t20 t21 t22 t23 h4) w t2 t7 t8 t9 t10 t11 t15 t16 t17 t18 t19 t20 t21 t22 t23 h⟩
end
end Go.Proofs.YtafhpbghogdipaaGreatDoor
