/- The starter's rounds: i and a are boxed, the group counts one more, the worker is started. -/
import Derived.Test.YtafhpbghogdipaaGreatDoorCw12
namespace Go.Proofs.YtafhpbghogdipaaGreatDoor
open Go.Conc Go.ConcN Go.RowKit Go.Conc.Lib Go.ConcR.Gen Go.ConcN.Gen
open Go.ConcR (KK wgBlock WgAt stA smA rd wr mk Payload DC0 Bk)
set_option maxHeartbeats 8000000
set_option maxRecDepth 100000
set_option linter.unusedVariables false

structure GeoS (Shun : Loc → Prop) (Wg C n Low By Br : Nat) : Prop where
  hW : Wg < Low
  hC : C < Low
  hCW : C ≠ Wg
  y1 : By < Low ∧ By ≠ Wg ∧ By ≠ C ∧ ¬ Shun (.cell ⟨By, 0, none⟩)
  r1 : Br < Low ∧ Br ≠ Wg ∧ Br ≠ C ∧ ¬ Shun (.cell ⟨Br, 0, none⟩)
  hn : n ≤ 1048576
/-- What the starter knows, k workers being started. -/
structure SK (Shun : Loc → Prop) (Wg C n Low By Br : Nat) (X A : Option Addr) (ny cy : Nat) (xs ys : List Int) (k : Nat) (w : World) : Prop where
  size : Low ≤ w.heap.size
  yb : w.cell? ⟨By, 0, none⟩ = some (.slice A ny cy)
  rb : w.cell? ⟨Br, 0, none⟩ = some (.slice (some ⟨C, 0, none⟩) n n)
  ex : ∀ j, j < n → ∃ b off, X = some ⟨b, off, none⟩ ∧ RoX Shun Wg C Low (.cell ⟨b, off + j, none⟩) ∧ w.cell? ⟨b, off + j, none⟩ = some (.int .u64 (xs.getD j 0))
  el : ∀ j, j < ny → ∃ b off, A = some ⟨b, off, none⟩ ∧ RoX Shun Wg C Low (.cell ⟨b, off + j, none⟩) ∧ w.cell? ⟨b, off + j, none⟩ = some (.int .u64 (ys.getD j 0))
  live : WgLive Tryz.link.tWg Wg w
  pay : PayAt C n w
  nil : ∀ j, k ≤ j → j < n → w.cell? ⟨C, j, none⟩ = some (.slice none 0 0)
section
variable {Shun : Loc → Prop} {Wg C n Low By Br : Nat} {X A : Option Addr} {ny cy : Nat} {xs ys : List Int} {k : Nat} {w w₁ : World} {o mc : Nat → Prop} {d : Nat}
theorem SK.keep (Gs : GeoS Shun Wg C n Low By Br) (h : SK Shun Wg C n Low By Br X A ny cy xs ys k w) (hs : w.heap.size ≤ w₁.heap.size) (hb : ∀ b, b < Low → b ≠ Wg → b ≠ C → w₁.heap[b]? = w.heap[b]?) (hl : WgLive Tryz.link.tWg Wg w₁) (hp : PayAt C n w₁) (hc : ∀ j, k ≤ j → j < n → w₁.cell? ⟨C, j, none⟩ = w.cell? ⟨C, j, none⟩) : SK Shun Wg C n Low By Br X A ny cy xs ys k w₁ := by
  have two : ∀ {Z : Option Addr} {zs : List Int} {j : Nat}, (∃ b off, Z = some ⟨b, off, none⟩ ∧ RoX Shun Wg C Low (.cell ⟨b, off + j, none⟩) ∧ w.cell? ⟨b, off + j, none⟩ = some (.int .u64 (zs.getD j 0))) →
      ∃ b off, Z = some ⟨b, off, none⟩ ∧ RoX Shun Wg C Low (.cell ⟨b, off + j, none⟩) ∧ w₁.cell? ⟨b, off + j, none⟩ = some (.int .u64 (zs.getD j 0)) := by
    rintro Z zs j ⟨b, off, e, hr, hcell⟩
    refine ⟨b, off, e, hr, ?_⟩
    obtain ⟨a, ea, r1, r2, r3, _⟩ := hr
    injection ea with ea
    subst ea
    exact (cell_of_block (hb b r1 r2 r3) _).trans hcell
  exact ⟨Nat.le_trans h.size hs, (cell_of_block (hb By Gs.y1.1 Gs.y1.2.1 Gs.y1.2.2.1) 0).trans h.yb, (cell_of_block (hb Br Gs.r1.1 Gs.r1.2.1 Gs.r1.2.2.1) 0).trans h.rb, fun j hj => two (h.ex j hj), fun j hj => two (h.el j hj), hl, hp, fun j h1 h2 => (hc j h1 h2).trans (h.nil j h1 h2)⟩
theorem SK.rely (Gs : GeoS Shun Wg C n Low By Br) (hmc : ∀ j, k ≤ j → mc j) (h : SK Shun Wg C n Low By Br X A ny cy xs ys k w) (r : RX Tryz.link.tWg Wg C n Low ⟨o, mc, d⟩ w w₁) : SK Shun Wg C n Low By Br X A ny cy xs ys k w₁ :=
  h.keep Gs r.size r.low (r.live h.live) (r.pay h.pay) fun j h1 _ => r.cell j (hmc j h1)
theorem SK.alloc (Gs : GeoS Shun Wg C n Low By Br) (h : SK Shun Wg C n Low By Br X A ny cy xs ys k w) (x : Obj) : SK Shun Wg C n Low By Br X A ny cy xs ys k (w.alloc x) := by
  have hs := h.size
  have hW := Gs.hW
  have hC := Gs.hC
  exact h.keep Gs (by simp) (fun b hb _ _ => Below.heap_alloc _ _ _ (by omega)) (let ⟨st, sm, hl⟩ := h.live; ⟨st, sm, hl.of_block (Below.heap_alloc _ _ _ (by omega))⟩) (let ⟨cs, h1, h2⟩ := h.pay; ⟨cs, (Below.heap_alloc _ _ _ (by omega)).trans h1, h2⟩)
    fun j _ _ => cell_of_block (Below.heap_alloc _ _ _ (by omega)) j
theorem SK.set (Gs : GeoS Shun Wg C n Low By Br) (h : SK Shun Wg C n Low By Br X A ny cy xs ys k w) {b : Nat} (hb : Low ≤ b) (v : Value) : SK Shun Wg C n Low By Br X A ny cy xs ys k (w.setCell ⟨b, 0, none⟩ v) := by
  have hA := aside_setCell w ⟨b, 0, none⟩ v
  have hW := Gs.hW
  have hC := Gs.hC
  have hk : ∀ b', b' < Low → (w.setCell ⟨b, 0, none⟩ v).heap[b']? = w.heap[b']? := fun b' hb' => hA.block b' (by show b' ≠ b; omega)
  exact h.keep Gs (Nat.le_of_eq hA.size.symm) (fun b' hb' _ _ => hk b' hb') (let ⟨st, sm, hl⟩ := h.live; ⟨st, sm, hl.of_block (hk Wg hW)⟩) (let ⟨cs, h1, h2⟩ := h.pay; ⟨cs, (hk C hC).trans h1, h2⟩) fun j _ _ => cell_of_block (hk C hC) j
/-- A store into a block of one's own. -/
theorem DX.own_store {γ : Gh} (Gs : GeoS Shun Wg C n Low By Br) {b : Nat} (hb : Low ≤ b) (ho : γ.own b) (hl : WgLive Tryz.link.tWg Wg w) (hp : PayAt C n w) (v : Value) {es : Array Event} (he : ∀ e ∈ es, e = ⟨.cell ⟨b, 0, none⟩, true, false⟩) : DX Shun Tryz.link.tWg Wg C n Low true γ w (w.setCell ⟨b, 0, none⟩ v) es γ := by
  have hA := aside_setCell w ⟨b, 0, none⟩ v
  have hW := Gs.hW
  have hC := Gs.hC
  have hk : ∀ b', b' < Low → (w.setCell ⟨b, 0, none⟩ v).heap[b']? = w.heap[b']? := fun b' hb' => hA.block b' (by show b' ≠ b; omega)
  have hev : ∀ e ∈ es, EvX Shun Wg C Low true γ e ∧ e.loc ≠ .mark .disable ∧ e.loc ≠ .mark .enable := fun e h => by rw [he e h]; exact evX_cell _ _ (.inl ⟨_, rfl, .inl ho⟩)
  exact ⟨⟨hA.tape, hA.os, hA.output, Nat.le_of_eq hA.size.symm, fun b' _ _ _ hno => hA.block b' fun e => hno (e ▸ ho), fun ⟨st, sm, h⟩ => ⟨st, sm, h.of_block (hk Wg hW)⟩, fun ⟨cs, h1, h2⟩ => ⟨cs, (hk C hC).trans h1, h2⟩, fun i _ => cell_of_block (hk C hC) i⟩,
    hk Wg hW, fun b h => .inl h, rfl, (deafBehind_still (fun e h => (hev e h).2) _).symm, fun e h => (hev e h).1⟩
end

def HB (w : World) (b : Nat) (v : Value) (ty : TypeId) : Prop := w.heap[b]? = some (.cells #[v] ty)
theorem HB.cell {w : World} {b : Nat} {v : Value} {ty : TypeId} (h : HB w b v ty) : w.cell? ⟨b, 0, none⟩ = some v := by
  have h' : w.heap[b]? = some (.cells #[v] ty) := h
  simp [World.cell?, h']
theorem HB.thaw {w : World} {b : Nat} {v : Value} {ty : TypeId} (h : HB w b v ty) : w.frozen? ⟨b, 0, none⟩ = false := by
  have h' : w.heap[b]? = some (.cells #[v] ty) := h
  simp [World.frozen?, h']
theorem HB.lt {w : World} {b : Nat} {v : Value} {ty : TypeId} (h : HB w b v ty) : b < w.heap.size := (Array.getElem?_eq_some_iff.1 h).1
theorem HB.set {w : World} {b : Nat} {v : Value} {ty : TypeId} (h : HB w b v ty) (x : Value) : HB (w.setCell ⟨b, 0, none⟩ x) b x ty := by
  have h' : w.heap[b]? = some (.cells #[v] ty) := h
  show (w.heap.modify b _)[b]? = _
  rw [Array.getElem?_modify, if_pos rfl, h']
  rfl
theorem HB.set_ne {w : World} {b b' : Nat} {v : Value} {ty : TypeId} (h : HB w b v ty) (hne : b ≠ b') (x : Value) : HB (w.setCell ⟨b', 0, none⟩ x) b v ty := ((aside_setCell w ⟨b', 0, none⟩ x).block b hne).trans h
theorem HB.alloc {w : World} {b : Nat} {v : Value} {ty : TypeId} (h : HB w b v ty) (x : Obj) : HB (w.alloc x) b v ty := (Below.heap_alloc _ _ _ h.lt).trans h
theorem HB.new (w : World) (v : Value) (ty : TypeId) : HB (w.alloc (.cells #[v] ty)) w.heap.size v ty := by
  show (w.heap.push _)[w.heap.size]? = _
  exact Array.getElem?_push_size

noncomputable def body16 : Code := Tryz.f17.body.getD .skip
/-- What stands behind the group's making: the loop, the wait, the return. -/
noncomputable def Z16 : Code := match body16 with | .seq _ (.seq _ (.seq _ z)) => z | _ => .skip
noncomputable def L16 : Code := match Z16 with | .seq (.seq _ (.block _ (.loop c))) _ => c | _ => .skip
noncomputable def E16 : Code := match Z16 with | .seq _ e => e | _ => .skip
def b16 : Frame := base 17

section
variable {Shun : Loc → Prop} {Wg C n Low By Br : Nat} {X A : Option Addr} {cx ny cy : Nat} {xs ys : List Int} {cs : List Frame}
/-- The starter's rows. -/
def rowsF (xs ys : List Int) (ny : Nat) (i : Nat) : List Int := rowK (xs.getD i 0) ys ny
noncomputable def headS (X A : Option Addr) (n cx ny cy By Br Wg k : Nat) (t2 t7 t8 t9 t10 t11 t15 t16 t17 t18 t19 t20 t21 t22 t23 : Value) (cs : List Frame) : Goroutine :=
  G (b16.at ⟨#[.slice X n cx, .slice A ny cy, t2, .pointer (some ⟨By, 0, none⟩), .slice none 0 0, .pointer (some ⟨Br, 0, none⟩), .pointer (some ⟨Wg, 0, none⟩), t7, t8, t9, t10, t11, .slice X n cx, .int .i64 n, .int .i64 k, t15, t16, t17, t18, t19, t20, t21, t22, t23], []⟩ (.code L16 :: .inLoop L16 :: .inBlock 0 :: .code E16 :: [])) cs
def sgam (k : Nat) : Gh := ⟨fun _ => False, fun i => k ≤ i, 0⟩
theorem sk_rely (Gs : GeoS Shun Wg C n Low By Br) {k : Nat} {w w₁ : World} (h : SK Shun Wg C n Low By Br X A ny cy xs ys k w) (r : RX Tryz.link.tWg Wg C n Low (sgam k) w w₁) : SK Shun Wg C n Low By Br X A ny cy xs ys k w₁ := h.rely Gs (fun _ h => h) r

/-- Add's call and the go statement; the index' step. -/
noncomputable def R6 : Code := match L16 with | .seq _ (.seq _ (.seq (.block _ (.seq _ r)) _)) => r | _ => .skip
noncomputable def I16 : Code := match L16 with | .seq _ (.seq _ (.seq _ r)) => r | _ => .skip

set_option maxRecDepth 100000 in
/-- A round, up to the call of Add. -/
theorem round_ahead (Gs : GeoS Shun Wg C n Low By Br) {k : Nat} (hk : k < n) {Stop : Gh → Goroutine → World → Prop} {m : Nat}
    (hAdd : ∀ (Bi Ba : Nat) (w : World) (t2 t9 t10 t11 t15 t16 t17 t18 t19 t20 t21 t22 t23 : Value), Low ≤ Bi → Low ≤ Ba → Bi ≠ Ba → SK Shun Wg C n Low By Br X A ny cy xs ys k w ∧ w.cell? ⟨Bi, 0, none⟩ = some (.int .i64 k) ∧ w.cell? ⟨Ba, 0, none⟩ = some (.int .u64 (xs.getD k 0)) ∧ Bi < w.heap.size ∧ Ba < w.heap.size →
      GX Tryz.prog true (RX Tryz.link.tWg Wg C n Low) (DX Shun Tryz.link.tWg Wg C n Low true) Stop m ⟨fun b => (False ∨ b = Bi) ∨ b = Ba, fun i => k ≤ i, 0⟩ (G (b16.at ⟨#[.slice X n cx, .slice A ny cy, t2, .pointer (some ⟨By, 0, none⟩), .slice none 0 0, .pointer (some ⟨Br, 0, none⟩), .pointer (some ⟨Wg, 0, none⟩), .pointer (some ⟨Bi, 0, none⟩), .pointer (some ⟨Ba, 0, none⟩), t9, t10, t11, .slice X n cx, .int .i64 n, .int .i64 k, t15, t16, t17, t18, t19, t20, t21, t22, t23], []⟩ (.code R6 :: .inBlock 1 :: .code I16 :: .inLoop L16 :: .inBlock 0 :: .code E16 :: [])) cs) w)
    (w : World) (t2 t7 t8 t9 t10 t11 t15 t16 t17 t18 t19 t20 t21 t22 t23 : Value) (hF : SK Shun Wg C n Low By Br X A ny cy xs ys k w) :
    GX Tryz.prog true (RX Tryz.link.tWg Wg C n Low) (DX Shun Tryz.link.tWg Wg C n Low true) Stop (m + 60) (sgam k) (headS X A n cx ny cy By Br Wg k t2 t7 t8 t9 t10 t11 t15 t16 t17 t18 t19 t20 t21 t22 t23 cs) w := by
  have hlt : (k : Int) < (n : Int) := by omega
  have hk0 : (0 : Int) ≤ (k : Int) := by omega
  obtain ⟨bx, ox, rfl, _⟩ : ∃ b off, X = some ⟨b, off, none⟩ ∧ True := by
    obtain ⟨b, off, e, _⟩ := hF.ex k hk
    exact ⟨b, off, e, trivial⟩
  unfold headS
  simp only [R6, I16, L16, E16, Z16, body16, Tryz.f17, Option.getD_some] at hAdd ⊢
  refine GX.le (GX.silent (k := 20) (m := m + 40) ?_) (by omega)
  u_c stepG_seq (sk_rely Gs) hF
  u_reg (sk_rely Gs) hF
  u_op (sk_rely Gs) hF
  u_c stepG_region_end (sk_rely Gs) hF
  u_c stepG_seq (sk_rely Gs) hF
  u_cond true (sk_rely Gs) hF
  u_c stepG_skip (sk_rely Gs) hF
  u_c stepG_seq (sk_rely Gs) hF
  u_c stepG_block (sk_rely Gs) hF
  u_c stepG_seq (sk_rely Gs) hF
  u_reg (sk_rely Gs) hF
  u_op (sk_rely Gs) hF
  u_op (sk_rely Gs) hF
  refine Goes.stop (fun w₁ h₁ => ?_)
  replace hF := (sk_rely Gs) hF h₁
  clear h₁
  -- the element is read
  refine GX.step rfl (fun w₁ h₁ => ?_)
  replace hF := (sk_rely Gs) hF h₁
  clear h₁
  obtain ⟨bx', ox', e1, hro, hce⟩ := hF.ex k hk
  cases e1
  obtain ⟨av, hav⟩ : ∃ av, xs.getD k 0 = av := ⟨_, rfl⟩
  rw [hav] at hce
  refine goes_oper_k rfl rfl (by decide) (fun K hK => ?_)
  go_simp
  refine hK _ _ ⟨sgam k, DX.reads fun e he => ?_, ?_⟩
  · have hm' := mem_listed he
    simp [go_sem, *] at hm'
    subst hm'
    exact evX_cell _ _ (.inr ⟨hro, rfl⟩)
  clear hK K hro hce
  -- i is boxed
  refine GX.le (n := m + 38) ?_ (by omega)
  refine GX.step rfl (fun w₁ h₁ => ?_)
  replace hF := (sk_rely Gs) hF h₁
  clear h₁
  refine goes_oper_k rfl rfl (by decide) (fun K hK => ?_)
  generalize hLx : Go.Conc.listed _ _ _ _ _ = Lx at hK
  have hev : Lx = #[] := by
    refine Array.eq_empty_iff_forall_not_mem.2 fun e he => ?_
    rw [← hLx] at he
    have hm' := mem_listed he
    clear hLx
    simp [go_sem, *] at hm'
  clear hLx
  subst hev
  go_simp
  refine hK _ _ ⟨_, DX.new (γ := sgam k) (by have := hF.size; have := Gs.hC; omega) (by have := hF.size; have := Gs.hW; omega) _, ?_⟩
  clear hK K
  have hG : SK Shun Wg C n Low By Br (some ⟨bx, ox, none⟩) A ny cy xs ys k (w₁.alloc (.cells #[.int .i64 0] 3)) ∧ HB (w₁.alloc (.cells #[.int .i64 0] 3)) w₁.heap.size (.int .i64 0) 3 ∧ Low ≤ w₁.heap.size := ⟨hF.alloc Gs _, .new _ _ _, hF.size⟩
  clear hF
  have r1 : ∀ {Bi : Nat} {v : Value} {w w1 : World}, SK Shun Wg C n Low By Br (some ⟨bx, ox, none⟩) A ny cy xs ys k w ∧ HB w Bi v 3 ∧ Low ≤ Bi → RX Tryz.link.tWg Wg C n Low ⟨fun b => False ∨ b = Bi, fun i => k ≤ i, 0⟩ w w1 → SK Shun Wg C n Low By Br (some ⟨bx, ox, none⟩) A ny cy xs ys k w1 ∧ HB w1 Bi v 3 ∧ Low ≤ Bi :=
    fun h r => ⟨h.1.rely Gs (fun _ h => h) r, (r.own _ (.inr rfl)).trans h.2.1, h.2.2⟩
  have r2 : ∀ {Bi Ba : Nat} {v x : Value} {w w1 : World}, SK Shun Wg C n Low By Br (some ⟨bx, ox, none⟩) A ny cy xs ys k w ∧ (HB w Bi v 3 ∧ Low ≤ Bi) ∧ HB w Ba x 46 ∧ Bi ≠ Ba ∧ Low ≤ Ba → RX Tryz.link.tWg Wg C n Low ⟨fun b => (False ∨ b = Bi) ∨ b = Ba, fun i => k ≤ i, 0⟩ w w1 → SK Shun Wg C n Low By Br (some ⟨bx, ox, none⟩) A ny cy xs ys k w1 ∧ (HB w1 Bi v 3 ∧ Low ≤ Bi) ∧ HB w1 Ba x 46 ∧ Bi ≠ Ba ∧ Low ≤ Ba :=
    fun h r => ⟨h.1.rely Gs (fun _ h => h) r, ⟨(r.own _ (.inl (.inr rfl))).trans h.2.1.1, h.2.1.2⟩, (r.own _ (.inr rfl)).trans h.2.2.1, h.2.2.2⟩
  show GX _ _ _ _ _ _ ⟨fun b => False ∨ b = w₁.heap.size, fun i => k ≤ i, 0⟩ _ _
  generalize w₁.alloc (.cells #[.int .i64 0] 3) = w2 at hG ⊢
  generalize w₁.heap.size = Bi at hG ⊢
  -- a is boxed
  refine GX.le (n := m + 37) ?_ (by omega)
  refine GX.step rfl (fun w₁ h₁ => ?_)
  replace hG := r1 hG h₁
  clear h₁
  refine goes_oper_k rfl rfl (by decide) (fun K hK => ?_)
  generalize hLx : Go.Conc.listed _ _ _ _ _ = Lx at hK
  have hev : Lx = #[] := by
    refine Array.eq_empty_iff_forall_not_mem.2 fun e he => ?_
    rw [← hLx] at he
    have hm' := mem_listed he
    clear hLx
    simp [go_sem, *] at hm'
  clear hLx
  subst hev
  go_simp
  refine hK _ _ ⟨_, DX.new (γ := ⟨fun b => False ∨ b = Bi, fun i => k ≤ i, 0⟩) (by have := hG.1.size; have := Gs.hC; omega) (by have := hG.1.size; have := Gs.hW; omega) _, ?_⟩
  clear hK K
  have hH : SK Shun Wg C n Low By Br (some ⟨bx, ox, none⟩) A ny cy xs ys k (w₁.alloc (.cells #[.int .u64 0] 46)) ∧ (HB (w₁.alloc (.cells #[.int .u64 0] 46)) Bi (.int .i64 0) 3 ∧ Low ≤ Bi) ∧ HB (w₁.alloc (.cells #[.int .u64 0] 46)) w₁.heap.size (.int .u64 0) 46 ∧ Bi ≠ w₁.heap.size ∧ Low ≤ w₁.heap.size :=
    ⟨hG.1.alloc Gs _, ⟨hG.2.1.alloc _, hG.2.2⟩, .new _ _ _, by have := hG.2.1.lt; omega, hG.1.size⟩
  clear hG r1
  show GX _ _ _ _ _ _ ⟨fun b => (False ∨ b = Bi) ∨ b = w₁.heap.size, fun i => k ≤ i, 0⟩ _ _
  generalize w₁.alloc (.cells #[.int .u64 0] 46) = w3 at hH ⊢
  generalize w₁.heap.size = Ba at hH ⊢
  -- i is stored
  refine GX.le (n := m + 36) ?_ (by omega)
  refine GX.step rfl (fun w₁ h₁ => ?_)
  replace hH := r2 hH h₁
  clear h₁
  have hc := hH.2.1.1.cell
  have hfz := hH.2.1.1.thaw
  refine goes_oper_k rfl rfl (by decide) (fun K hK => ?_)
  generalize hLx : Go.Conc.listed _ _ _ _ _ = Lx at hK
  have hev : ∀ e ∈ Lx, e = ⟨.cell ⟨Bi, 0, none⟩, true, false⟩ := by
    intro e he
    rw [← hLx] at he
    have hm' := mem_listed he
    clear hLx
    simp [go_sem, *] at hm'
    exact hm'
  clear hLx
  go_simp
  refine hK _ _ ⟨_, DX.own_store (γ := ⟨fun b => (False ∨ b = Bi) ∨ b = Ba, fun i => k ≤ i, 0⟩) Gs hH.2.1.2 (.inl (.inr rfl)) hH.1.live hH.1.pay _ hev, ?_⟩
  clear hK K hev hc hfz
  have hI : SK Shun Wg C n Low By Br (some ⟨bx, ox, none⟩) A ny cy xs ys k (w₁.setCell ⟨Bi, 0, none⟩ (.int .i64 k)) ∧ (HB (w₁.setCell ⟨Bi, 0, none⟩ (.int .i64 k)) Bi (.int .i64 k) 3 ∧ Low ≤ Bi) ∧ HB (w₁.setCell ⟨Bi, 0, none⟩ (.int .i64 k)) Ba (.int .u64 0) 46 ∧ Bi ≠ Ba ∧ Low ≤ Ba :=
    ⟨hH.1.set Gs hH.2.1.2 _, ⟨hH.2.1.1.set _, hH.2.1.2⟩, hH.2.2.1.set_ne (Ne.symm hH.2.2.2.1) _, hH.2.2.2⟩
  clear hH
  generalize w₁.setCell ⟨Bi, 0, none⟩ (.int .i64 k) = w4 at hI ⊢
  -- a is stored
  refine GX.le (n := m + 35) ?_ (by omega)
  refine GX.step rfl (fun w₁ h₁ => ?_)
  replace hI := r2 hI h₁
  clear h₁
  have hc := hI.2.2.1.cell
  have hfz := hI.2.2.1.thaw
  refine goes_oper_k rfl rfl (by decide) (fun K hK => ?_)
  generalize hLx : Go.Conc.listed _ _ _ _ _ = Lx at hK
  have hev : ∀ e ∈ Lx, e = ⟨.cell ⟨Ba, 0, none⟩, true, false⟩ := by
    intro e he
    rw [← hLx] at he
    have hm' := mem_listed he
    clear hLx
    simp [go_sem, *] at hm'
    exact hm'
  clear hLx
  go_simp
  refine hK _ _ ⟨_, DX.own_store (γ := ⟨fun b => (False ∨ b = Bi) ∨ b = Ba, fun i => k ≤ i, 0⟩) Gs hI.2.2.2.2 (.inr rfl) hI.1.live hI.1.pay _ hev, ?_⟩
  clear hK K hev hc hfz
  have hF : SK Shun Wg C n Low By Br (some ⟨bx, ox, none⟩) A ny cy xs ys k (w₁.setCell ⟨Ba, 0, none⟩ (.int .u64 av)) ∧ (HB (w₁.setCell ⟨Ba, 0, none⟩ (.int .u64 av)) Bi (.int .i64 k) 3 ∧ Low ≤ Bi) ∧ HB (w₁.setCell ⟨Ba, 0, none⟩ (.int .u64 av)) Ba (.int .u64 av) 46 ∧ Bi ≠ Ba ∧ Low ≤ Ba :=
    ⟨hI.1.set Gs hI.2.2.2.2 _, ⟨hI.2.1.1.set_ne hI.2.2.2.1 _, hI.2.1.2⟩, hI.2.2.1.set _, hI.2.2.2⟩
  clear hI
  generalize w₁.setCell ⟨Ba, 0, none⟩ (.int .u64 av) = w5 at hF ⊢
  refine GX.le (GX.silent (k := 4) (m := m) ?_) (by omega)
  u_c stepG_region_end r2 hF
  refine Goes.stop (fun w₁ h₁ => ?_)
  replace hF := r2 hF h₁
  rw [hav] at hAdd
  exact hAdd Bi Ba w₁ _ _ _ _ _ _ _ _ _ _ _ _ _ hF.2.1.2 hF.2.2.2.2 hF.2.2.2.1 ⟨hF.1, hF.2.1.1.cell, hF.2.2.1.cell, hF.2.1.1.lt, hF.2.2.1.lt⟩
end
end Go.Proofs.YtafhpbghogdipaaGreatDoor
