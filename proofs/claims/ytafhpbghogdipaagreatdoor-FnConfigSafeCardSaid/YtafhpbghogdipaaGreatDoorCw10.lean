/- The worker's region: 'rows[i] = append(rows[i], a&b)': thirteen operations, in whatever order, beside the others. -/
import Derived.Test.YtafhpbghogdipaaGreatDoorCw9
import Derived.Test.YtafhpbghogdipaaGreatDoorOwn
import Derived.Test.YtafhpbghogdipaaGreatDoorWgL
import Derived.Conc.AppendWalk
namespace Go.Proofs.YtafhpbghogdipaaGreatDoor
open Go.Conc Go.ConcN Go.RowKit Go.Conc.Lib Go.ConcR.Gen Go.ConcN.Gen
open Go.ConcR (KK wgBlock WgAt stA smA rd wr mk Payload DC0 Bk)
set_option maxHeartbeats 8000000
set_option maxRecDepth 100000
set_option linter.unusedVariables false

@[go_sem] theorem events_store_slice (P : Program) (w : World) (es : Array Event) (a : Addr) (m : Mode) (b : Option Addr) (l c : Nat) : (store a (.slice b l c) m).events P w es = storedEv P w es a (.slice b l c) m := events_store P w es a _ m rfl
theorem crew_inf : (Tryz.prog.info? 46).map (fun i => (i.zero, i.size, i.bytes)) = some (some (.int .u64 0), 1, 8) := by kernel_rfl
/-- Where the worker's blocks lie. -/
structure GeoW (Shun : Loc → Prop) (Wg C n Low Sz By Br Bi Ba i : Nat) : Prop where
  hW : Wg < Low
  hC : C < Low
  hCW : C ≠ Wg
  hS : Low ≤ Sz
  y1 : By < Low ∧ By ≠ Wg ∧ By ≠ C ∧ ¬ Shun (.cell ⟨By, 0, none⟩)
  r1 : Br < Low ∧ Br ≠ Wg ∧ Br ≠ C ∧ ¬ Shun (.cell ⟨Br, 0, none⟩)
  i1 : Low ≤ Bi ∧ Bi < Sz
  a1 : Low ≤ Ba ∧ Ba < Sz
  hi : i < n
  hn : n ≤ 1048576
/-- What the worker knows. -/
structure WK (Shun : Loc → Prop) (Wg C n Low Sz By Br Bi Ba : Nat) (A : Option Addr) (ny cy : Nat) (ys : List Int) (i : Nat) (av : Int) (γ : Gh) (w : World) : Prop where
  size : Sz ≤ w.heap.size
  yb : w.cell? ⟨By, 0, none⟩ = some (.slice A ny cy)
  rb : w.cell? ⟨Br, 0, none⟩ = some (.slice (some ⟨C, 0, none⟩) n n)
  ib : w.cell? ⟨Bi, 0, none⟩ = some (.int .i64 i)
  ab : w.cell? ⟨Ba, 0, none⟩ = some (.int .u64 av)
  oi : γ.own Bi
  oa : γ.own Ba
  mi : γ.mc i
  el : ∀ k, k < ny → ∃ b off, A = some ⟨b, off, none⟩ ∧ RoX Shun Wg C Low (.cell ⟨b, off + k, none⟩) ∧ w.cell? ⟨b, off + k, none⟩ = some (.int .u64 (ys.getD k 0))
  live : WgLive Tryz.link.tWg Wg w
  pay : PayAt C n w
def RowO (Sz : Nat) (γ : Gh) (w : World) (u : Value) (xs : List Int) : Prop := w.ownsRow Sz 46 1 u xs.length (xs.map (Value.int .u64)) ∧ ∀ b, u.ownBlock = some b → γ.own b
theorem ownsRow_of {w w₁ : World} {B e size n : Nat} {u : Value} {xs : List Value} (h : w.ownsRow B e size u n xs) (hb : ∀ g, u.ownBlock = some g → w₁.heap[g]? = w.heap[g]?) : w₁.ownsRow B e size u n xs := by
  refine ⟨h.1, h.2.imp id fun ⟨g, cap, cur, e1, e2, e3, e4⟩ => ⟨g, cap, cur, e1, e2, ?_, e4⟩⟩
  rw [hb g (by rw [e1]; rfl)]
  exact e3

section
variable {Shun : Loc → Prop} {Wg C n Low Sz By Br Bi Ba : Nat} {A : Option Addr} {ny cy : Nat} {ys : List Int} {i : Nat} {av : Int} {γ γ' : Gh} {w w₁ : World} {u : Value} {xs : List Int}
theorem RowO.rely (h : RowO Sz γ w u xs) (r : RX Tryz.link.tWg Wg C n Low γ w w₁) : RowO Sz γ w₁ u xs := ⟨ownsRow_of h.1 fun g hg => r.own g (h.2 g hg), h.2⟩
theorem RowO.keep (h : RowO Sz γ w u xs) (hg : ∀ b, γ.own b → γ'.own b) (hb : ∀ g, u.ownBlock = some g → w₁.heap[g]? = w.heap[g]?) : RowO Sz γ' w₁ u xs := ⟨ownsRow_of h.1 hb, fun b hb => hg b (h.2 b hb)⟩
theorem RowO.lt (h : RowO Sz γ w u xs) : ∀ g, u.ownBlock = some g → Sz ≤ g ∧ g < w.heap.size := fun g hg => h.1.lt g hg
theorem WK.keep (G : GeoW Shun Wg C n Low Sz By Br Bi Ba i) (h : WK Shun Wg C n Low Sz By Br Bi Ba A ny cy ys i av γ w) (hs : Sz ≤ w₁.heap.size) (hg : ∀ b, γ.own b → γ'.own b) (hm : γ'.mc i) (hb : ∀ b, b < Sz → b ≠ Wg → b ≠ C → γ.own b ∨ b < Low → w₁.heap[b]? = w.heap[b]?)
    (hl : WgLive Tryz.link.tWg Wg w₁) (hp : PayAt C n w₁) : WK Shun Wg C n Low Sz By Br Bi Ba A ny cy ys i av γ' w₁ := by
  have hW := G.hW
  have hC := G.hC
  have hS := G.hS
  refine ⟨hs, (cell_of_block (hb By (by have := G.y1.1; omega) G.y1.2.1 G.y1.2.2.1 (.inr G.y1.1)) 0).trans h.yb, (cell_of_block (hb Br (by have := G.r1.1; omega) G.r1.2.1 G.r1.2.2.1 (.inr G.r1.1)) 0).trans h.rb, ?_, ?_, hg _ h.oi, hg _ h.oa, hm, fun k hk => ?_, hl, hp⟩
  · exact (cell_of_block (hb Bi G.i1.2 (by have := G.i1.1; omega) (by have := G.i1.1; omega) (.inl h.oi)) 0).trans h.ib
  · exact (cell_of_block (hb Ba G.a1.2 (by have := G.a1.1; omega) (by have := G.a1.1; omega) (.inl h.oa)) 0).trans h.ab
  · obtain ⟨b, off, e, hr, hc⟩ := h.el k hk
    refine ⟨b, off, e, hr, ?_⟩
    obtain ⟨a, ea, r1, r2, r3, _⟩ := hr
    injection ea with ea
    subst ea
    exact (cell_of_block (hb b (by have : b < Low := r1; omega) r2 r3 (.inr r1)) _).trans hc
theorem WK.rely (G : GeoW Shun Wg C n Low Sz By Br Bi Ba i) (h : WK Shun Wg C n Low Sz By Br Bi Ba A ny cy ys i av γ w) (r : RX Tryz.link.tWg Wg C n Low γ w w₁) : WK Shun Wg C n Low Sz By Br Bi Ba A ny cy ys i av γ w₁ :=
  h.keep G (Nat.le_trans h.size r.size) (fun _ x => x) h.mi (fun b _ h1 h2 h3 => h3.elim (r.own b) fun h4 => r.low b h4 h1 h2) (r.live h.live) (r.pay h.pay)
theorem WK.rowCell (G : GeoW Shun Wg C n Low Sz By Br Bi Ba i) (h : WK Shun Wg C n Low Sz By Br Bi Ba A ny cy ys i av γ w) : ∃ v, w.cell? ⟨C, i, none⟩ = some v ∧ w.frozen? ⟨C, i, none⟩ = false := by
  obtain ⟨arr, h1, h2⟩ := h.pay
  have := G.hi
  exact ⟨arr[i]'(by omega), by simp [World.cell?, h1, h2, this], by simp [World.frozen?, h1]⟩
/-- The write of the row's cell. -/
theorem FX.of_cell (hCW : C ≠ Wg) (hp : PayAt C n w) (hm : γ.mc i) (v : Value) : FX Tryz.link.tWg Wg C n γ w (w.setCell ⟨C, i, none⟩ v) := by
  have hA := aside_setCell w ⟨C, i, none⟩ v
  obtain ⟨arr, h1, h2⟩ := hp
  have hb : (w.setCell ⟨C, i, none⟩ v).heap[C]? = some (.cells (arr.setIfInBounds i v) Payload.ety) := by
    rw [setCell_eq_setRow w C i arr _ (0, 0) _ h1, setRow_heap w C _ _ _ _ h1]
  refine ⟨hA.tape, hA.os, hA.output, Nat.le_of_eq hA.size.symm, fun b _ hb' _ _ => hA.block b hb', fun ⟨st, sm, h⟩ => ⟨st, sm, h.of_block (hA.block Wg (Ne.symm hCW))⟩, fun _ => ⟨_, hb, by simpa using h2⟩, fun i' hi' => ?_⟩
  have hne : i ≠ i' := fun e => hi' (e ▸ hm)
  simp [World.cell?, hb, h1, Array.getElem?_setIfInBounds_ne hne]
theorem cell_set_row (hp : PayAt C n w) (hi : i < n) (v : Value) : (w.setCell ⟨C, i, none⟩ v).cell? ⟨C, i, none⟩ = some v := by
  obtain ⟨arr, h1, h2⟩ := hp
  have hb : (w.setCell ⟨C, i, none⟩ v).heap[C]? = some (.cells (arr.setIfInBounds i v) Payload.ety) := by
    rw [setCell_eq_setRow w C i arr _ (0, 0) _ h1, setRow_heap w C _ _ _ _ h1]
  simp [World.cell?, hb, h2, hi]
end

noncomputable def body26 : Code := Tryz.f29.body.getD .skip
noncomputable def L26 : Code := match body26 with | .seq _ (.seq _ (.block _ (.loop c))) => c | _ => .skip
noncomputable def R4 : Code := match L26 with | .seq _ (.seq _ (.seq (.block _ (.seq _ r)) _)) => r | _ => .skip
noncomputable def ops4 : Array Oper := match R4 with | .region _ ops _ => ops | _ => #[]

/-- What holds of the region once 'listed' has come up. -/
def I4 (Shun : Loc → Prop) (Wg C n Low Sz By Br Bi Ba : Nat) (A : Option Addr) (ny cy : Nat) (ys : List Int) (i : Nat) (av bv : Int) (k : Nat) (t5 t10 t11 t12 t25 : Value) (ds : List Deferred) (u : Value) (xs : List Int) (listed : Array Bool) (γ : Gh) (a : Act) (w : World) : Prop :=
  listed.size = 13 ∧ WK Shun Wg C n Low Sz By Br Bi Ba A ny cy ys i av γ w ∧ (listed.getD 12 false = true → ∀ j, j < 12 → listed.getD j false = true) ∧
  (listed.getD 12 false = false → w.cell? ⟨C, i, none⟩ = some u) ∧ (listed.getD 10 false = false → RowO Sz γ w u xs) ∧
  (listed.getD 12 false = true → ∃ u', w.cell? ⟨C, i, none⟩ = some u' ∧ RowO Sz γ w u' (xs ++ [bits .and .u64 av bv])) ∧ (listed.getD 10 false = true → listed.getD 5 false = true ∧ listed.getD 9 false = true) ∧
  ∃ v13 v14 v15 v16 v17 v18 v19 v20 v21 v22 v23 v24 : Value, a = ⟨#[.pointer (some ⟨Wg, 0, none⟩), .pointer (some ⟨By, 0, none⟩), .pointer (some ⟨Br, 0, none⟩), .pointer (some ⟨Bi, 0, none⟩), .pointer (some ⟨Ba, 0, none⟩), t5, .int .u64 bv, .slice A ny cy, .int .i64 ny, .int .i64 k, t10, t11, t12, v13, v14, v15, v16, v17, v18, v19, v20, v21, v22, v23, v24, t25], ds⟩ ∧
    (listed.getD 0 false = true → v13 = .slice (some ⟨C, 0, none⟩) n n) ∧
    (listed.getD 1 false = true → v14 = .int .i64 i) ∧
    (listed.getD 2 false = true → v15 = .slice (some ⟨C, 0, none⟩) n n) ∧
    (listed.getD 3 false = true → v16 = .int .i64 i) ∧
    (listed.getD 4 false = true → v17 = .pointer (some ⟨C, i, none⟩)) ∧
    (listed.getD 5 false = true → v18 = u) ∧
    (listed.getD 6 false = true → v19 = .int .u64 av) ∧
    (listed.getD 7 false = true → v20 = .int .u64 bv) ∧
    (listed.getD 8 false = true → v21 = .int .u64 (bits .and .u64 av bv)) ∧
    (listed.getD 11 false = true → v24 = .pointer (some ⟨C, i, none⟩)) ∧
    (listed.getD 9 false = true → ∃ b1, v22 = .slice (some ⟨b1, 0, none⟩) 1 1 ∧ γ.own b1 ∧ Sz ≤ b1 ∧ (∀ g, u.ownBlock = some g → g ≠ b1) ∧ w.heap[b1]? = some (.cells #[.int .u64 (bits .and .u64 av bv)] 46)) ∧
    (listed.getD 10 false = true → RowO Sz γ w v23 (xs ++ [bits .and .u64 av bv]))

theorem getD_set {l : Array Bool} {j k : Nat} (hj : j < l.size) : (l.setIfInBounds j true).getD k false = if k = j then true else l.getD k false := by
  by_cases e : k = j
  · subst e; simp [hj]
  · simp [Array.getElem?_setIfInBounds_ne (Ne.symm e), e]

section
variable {Shun : Loc → Prop} {Wg C n Low Sz By Br Bi Ba : Nat} {A : Option Addr} {ny cy : Nat} {ys : List Int} {i : Nat} {av bv : Int} {k : Nat} {t5 t10 t11 t12 t25 : Value} {ds : List Deferred} {u : Value} {xs : List Int}
  {md : Region.Mode} {listed : Array Bool} {γ : Gh} {a : Act} {w : World}
def Step4 (Shun : Loc → Prop) (Wg C n Low Sz By Br Bi Ba : Nat) (A : Option Addr) (ny cy : Nat) (ys : List Int) (i : Nat) (av bv : Int) (k : Nat) (t5 t10 t11 t12 t25 : Value) (ds : List Deferred) (u : Value) (xs : List Int) (listed : Array Bool) (γ : Gh) (a : Act) (w : World) (j : Nat) : Prop :=
  ∃ o, ops4[j]? = some o ∧ Region.wanted o (yielded ops4 a.tmps) = true ∧ ∀ w₁, RX Tryz.link.tWg Wg C n Low γ w w₁ →
    uponK o a (fun a' w' => ∃ γ', (γ'.deaf = γ.deaf ∧ γ'.mc = γ.mc) ∧ DX Shun Tryz.link.tWg Wg C n Low false γ w₁ w' (Go.Conc.listed Tryz.prog 29 a o w₁) γ' ∧ I4 Shun Wg C n Low Sz By Br Bi Ba A ny cy ys i av bv k t5 t10 t11 t12 t25 ds u xs (listed.setIfInBounds j true) γ' a' w') ((execOp a.eval o).run Tryz.prog w₁)

theorem r4_0 (G : GeoW Shun Wg C n Low Sz By Br Bi Ba i) (hx : xs.length ≤ 1048576) (h : I4 Shun Wg C n Low Sz By Br Bi Ba A ny cy ys i av bv k t5 t10 t11 t12 t25 ds u xs listed γ a w) (hm : 0 ∈ Region.ready md ops4 listed) : Step4 Shun Wg C n Low Sz By Br Bi Ba A ny cy ys i av bv k t5 t10 t11 t12 t25 ds u xs listed γ a w 0 := by
  obtain ⟨hsz, hW, hdone, hrow, hrowo, hfin, h10, v13, v14, v15, v16, v17, v18, v19, v20, v21, v22, v23, v24, rfl, f0, f1, f2, f3, f4, f5, f6, f7, f8, f11, f9, f10⟩ := h
  obtain ⟨hun, o, ho, hdep⟩ := mem_ready.1 hm
  simp only [ops4, R4, L26, body26, Tryz.f29, Option.getD_some, List.getElem?_toArray, List.getElem?_cons_zero, Option.some.injEq] at ho
  subst ho
  have hun' : listed.getD 0 false = false := by simpa [hsz] using hun
  have h12 : listed.getD 12 false = false := by
    cases hh : listed.getD 12 false with
    | false => rfl
    | true => have := hdone hh 0 (by omega); rw [hun'] at this; cases this
  refine ⟨_, by simp only [ops4, R4, L26, body26, Tryz.f29, Option.getD_some]; rfl, rfl, fun w₁ r => ?_⟩
  have hK := hW.rely G r
  have hc := hK.rb
  generalize hLx : Go.Conc.listed _ _ _ _ _ = Lx
  have hev : ∀ e ∈ Lx, EvX Shun Wg C Low false γ e ∧ e.loc ≠ .mark .disable ∧ e.loc ≠ .mark .enable := by
    intro e he
    rw [← hLx] at he
    have hm' := mem_listed he
    clear hLx
    simp [go_sem, *] at hm'
    subst hm'
    exact evX_cell _ _ (.inr ⟨⟨_, rfl, G.r1⟩, rfl⟩)
  clear hLx
  go_simp
  refine ⟨γ, ⟨rfl, rfl⟩, DX.reads hev, by simp [hsz], hK, ?_⟩
  have hset : ∀ q, (listed.setIfInBounds 0 true).getD q false = if q = 0 then true else listed.getD q false := fun q => getD_set (by omega)
  have hmono : ∀ q, q ≠ 0 → (listed.setIfInBounds 0 true).getD q false = listed.getD q false := fun q hq => by rw [hset q, if_neg hq]
  refine ⟨fun e => (by rw [hmono 12 (by omega), h12] at e; cases e), fun _ => (r.cell i hW.mi).trans (hrow h12), fun e => (hrowo (by rw [hmono 10 (by omega)] at e; exact e)).rely r, fun e => (by rw [hmono 12 (by omega), h12] at e; cases e), fun e => (by
      have h := h10 (by rw [hmono 10 (by omega)] at e; exact e)
      exact ⟨(by rw [hset]; split; rfl; exact h.1), (by rw [hset]; split; rfl; exact h.2)⟩), .slice (some ⟨C, 0, none⟩) n n, v14, v15, v16, v17, v18, v19, v20, v21, v22, v23, v24, by rfl, ?_⟩
  exact ⟨fun _ => rfl, fun e => f1 (by rw [hmono 1 (by omega)] at e; exact e), fun e => f2 (by rw [hmono 2 (by omega)] at e; exact e), fun e => f3 (by rw [hmono 3 (by omega)] at e; exact e), fun e => f4 (by rw [hmono 4 (by omega)] at e; exact e), fun e => f5 (by rw [hmono 5 (by omega)] at e; exact e), fun e => f6 (by rw [hmono 6 (by omega)] at e; exact e), fun e => f7 (by rw [hmono 7 (by omega)] at e; exact e), fun e => f8 (by rw [hmono 8 (by omega)] at e; exact e), fun e => f11 (by rw [hmono 11 (by omega)] at e; exact e), fun e => by
      obtain ⟨b1, e1, e2, e3, e4, e5⟩ := f9 (by rw [hmono 9 (by omega)] at e; exact e)
      exact ⟨b1, e1, e2, e3, e4, (r.own b1 e2).trans e5⟩, fun e => (f10 (by rw [hmono 10 (by omega)] at e; exact e)).rely r⟩
theorem r4_1 (G : GeoW Shun Wg C n Low Sz By Br Bi Ba i) (hx : xs.length ≤ 1048576) (h : I4 Shun Wg C n Low Sz By Br Bi Ba A ny cy ys i av bv k t5 t10 t11 t12 t25 ds u xs listed γ a w) (hm : 1 ∈ Region.ready md ops4 listed) : Step4 Shun Wg C n Low Sz By Br Bi Ba A ny cy ys i av bv k t5 t10 t11 t12 t25 ds u xs listed γ a w 1 := by
  obtain ⟨hsz, hW, hdone, hrow, hrowo, hfin, h10, v13, v14, v15, v16, v17, v18, v19, v20, v21, v22, v23, v24, rfl, f0, f1, f2, f3, f4, f5, f6, f7, f8, f11, f9, f10⟩ := h
  obtain ⟨hun, o, ho, hdep⟩ := mem_ready.1 hm
  simp only [ops4, R4, L26, body26, Tryz.f29, Option.getD_some, List.getElem?_toArray, List.getElem?_cons_succ, List.getElem?_cons_zero, Option.some.injEq] at ho
  subst ho
  have hun' : listed.getD 1 false = false := by simpa [hsz] using hun
  have h12 : listed.getD 12 false = false := by
    cases hh : listed.getD 12 false with
    | false => rfl
    | true => have := hdone hh 1 (by omega); rw [hun'] at this; cases this
  refine ⟨_, by simp only [ops4, R4, L26, body26, Tryz.f29, Option.getD_some]; rfl, rfl, fun w₁ r => ?_⟩
  have hK := hW.rely G r
  have hc := hK.ib
  generalize hLx : Go.Conc.listed _ _ _ _ _ = Lx
  have hev : ∀ e ∈ Lx, EvX Shun Wg C Low false γ e ∧ e.loc ≠ .mark .disable ∧ e.loc ≠ .mark .enable := by
    intro e he
    rw [← hLx] at he
    have hm' := mem_listed he
    clear hLx
    simp [go_sem, *] at hm'
    subst hm'
    exact evX_cell _ _ (.inl ⟨_, rfl, .inl hK.oi⟩)
  clear hLx
  go_simp
  refine ⟨γ, ⟨rfl, rfl⟩, DX.reads hev, by simp [hsz], hK, ?_⟩
  have hset : ∀ q, (listed.setIfInBounds 1 true).getD q false = if q = 1 then true else listed.getD q false := fun q => getD_set (by omega)
  have hmono : ∀ q, q ≠ 1 → (listed.setIfInBounds 1 true).getD q false = listed.getD q false := fun q hq => by rw [hset q, if_neg hq]
  refine ⟨fun e => (by rw [hmono 12 (by omega), h12] at e; cases e), fun _ => (r.cell i hW.mi).trans (hrow h12), fun e => (hrowo (by rw [hmono 10 (by omega)] at e; exact e)).rely r, fun e => (by rw [hmono 12 (by omega), h12] at e; cases e), fun e => (by
      have h := h10 (by rw [hmono 10 (by omega)] at e; exact e)
      exact ⟨(by rw [hset]; split; rfl; exact h.1), (by rw [hset]; split; rfl; exact h.2)⟩), v13, .int .i64 i, v15, v16, v17, v18, v19, v20, v21, v22, v23, v24, by rfl, ?_⟩
  exact ⟨fun e => f0 (by rw [hmono 0 (by omega)] at e; exact e), fun _ => rfl, fun e => f2 (by rw [hmono 2 (by omega)] at e; exact e), fun e => f3 (by rw [hmono 3 (by omega)] at e; exact e), fun e => f4 (by rw [hmono 4 (by omega)] at e; exact e), fun e => f5 (by rw [hmono 5 (by omega)] at e; exact e), fun e => f6 (by rw [hmono 6 (by omega)] at e; exact e), fun e => f7 (by rw [hmono 7 (by omega)] at e; exact e), fun e => f8 (by rw [hmono 8 (by omega)] at e; exact e), fun e => f11 (by rw [hmono 11 (by omega)] at e; exact e), fun e => by
      obtain ⟨b1, e1, e2, e3, e4, e5⟩ := f9 (by rw [hmono 9 (by omega)] at e; exact e)
      exact ⟨b1, e1, e2, e3, e4, (r.own b1 e2).trans e5⟩, fun e => (f10 (by rw [hmono 10 (by omega)] at e; exact e)).rely r⟩
theorem r4_2 (G : GeoW Shun Wg C n Low Sz By Br Bi Ba i) (hx : xs.length ≤ 1048576) (h : I4 Shun Wg C n Low Sz By Br Bi Ba A ny cy ys i av bv k t5 t10 t11 t12 t25 ds u xs listed γ a w) (hm : 2 ∈ Region.ready md ops4 listed) : Step4 Shun Wg C n Low Sz By Br Bi Ba A ny cy ys i av bv k t5 t10 t11 t12 t25 ds u xs listed γ a w 2 := by
  obtain ⟨hsz, hW, hdone, hrow, hrowo, hfin, h10, v13, v14, v15, v16, v17, v18, v19, v20, v21, v22, v23, v24, rfl, f0, f1, f2, f3, f4, f5, f6, f7, f8, f11, f9, f10⟩ := h
  obtain ⟨hun, o, ho, hdep⟩ := mem_ready.1 hm
  simp only [ops4, R4, L26, body26, Tryz.f29, Option.getD_some, List.getElem?_toArray, List.getElem?_cons_succ, List.getElem?_cons_zero, Option.some.injEq] at ho
  subst ho
  have hun' : listed.getD 2 false = false := by simpa [hsz] using hun
  have h12 : listed.getD 12 false = false := by
    cases hh : listed.getD 12 false with
    | false => rfl
    | true => have := hdone hh 2 (by omega); rw [hun'] at this; cases this
  refine ⟨_, by simp only [ops4, R4, L26, body26, Tryz.f29, Option.getD_some]; rfl, rfl, fun w₁ r => ?_⟩
  have hK := hW.rely G r
  have hc := hK.rb
  generalize hLx : Go.Conc.listed _ _ _ _ _ = Lx
  have hev : ∀ e ∈ Lx, EvX Shun Wg C Low false γ e ∧ e.loc ≠ .mark .disable ∧ e.loc ≠ .mark .enable := by
    intro e he
    rw [← hLx] at he
    have hm' := mem_listed he
    clear hLx
    simp [go_sem, *] at hm'
    subst hm'
    exact evX_cell _ _ (.inr ⟨⟨_, rfl, G.r1⟩, rfl⟩)
  clear hLx
  go_simp
  refine ⟨γ, ⟨rfl, rfl⟩, DX.reads hev, by simp [hsz], hK, ?_⟩
  have hset : ∀ q, (listed.setIfInBounds 2 true).getD q false = if q = 2 then true else listed.getD q false := fun q => getD_set (by omega)
  have hmono : ∀ q, q ≠ 2 → (listed.setIfInBounds 2 true).getD q false = listed.getD q false := fun q hq => by rw [hset q, if_neg hq]
  refine ⟨fun e => (by rw [hmono 12 (by omega), h12] at e; cases e), fun _ => (r.cell i hW.mi).trans (hrow h12), fun e => (hrowo (by rw [hmono 10 (by omega)] at e; exact e)).rely r, fun e => (by rw [hmono 12 (by omega), h12] at e; cases e), fun e => (by
      have h := h10 (by rw [hmono 10 (by omega)] at e; exact e)
      exact ⟨(by rw [hset]; split; rfl; exact h.1), (by rw [hset]; split; rfl; exact h.2)⟩), v13, v14, .slice (some ⟨C, 0, none⟩) n n, v16, v17, v18, v19, v20, v21, v22, v23, v24, by rfl, ?_⟩
  exact ⟨fun e => f0 (by rw [hmono 0 (by omega)] at e; exact e), fun e => f1 (by rw [hmono 1 (by omega)] at e; exact e), fun _ => rfl, fun e => f3 (by rw [hmono 3 (by omega)] at e; exact e), fun e => f4 (by rw [hmono 4 (by omega)] at e; exact e), fun e => f5 (by rw [hmono 5 (by omega)] at e; exact e), fun e => f6 (by rw [hmono 6 (by omega)] at e; exact e), fun e => f7 (by rw [hmono 7 (by omega)] at e; exact e), fun e => f8 (by rw [hmono 8 (by omega)] at e; exact e), fun e => f11 (by rw [hmono 11 (by omega)] at e; exact e), fun e => by
      obtain ⟨b1, e1, e2, e3, e4, e5⟩ := f9 (by rw [hmono 9 (by omega)] at e; exact e)
      exact ⟨b1, e1, e2, e3, e4, (r.own b1 e2).trans e5⟩, fun e => (f10 (by rw [hmono 10 (by omega)] at e; exact e)).rely r⟩
theorem r4_3 (G : GeoW Shun Wg C n Low Sz By Br Bi Ba i) (hx : xs.length ≤ 1048576) (h : I4 Shun Wg C n Low Sz By Br Bi Ba A ny cy ys i av bv k t5 t10 t11 t12 t25 ds u xs listed γ a w) (hm : 3 ∈ Region.ready md ops4 listed) : Step4 Shun Wg C n Low Sz By Br Bi Ba A ny cy ys i av bv k t5 t10 t11 t12 t25 ds u xs listed γ a w 3 := by
  obtain ⟨hsz, hW, hdone, hrow, hrowo, hfin, h10, v13, v14, v15, v16, v17, v18, v19, v20, v21, v22, v23, v24, rfl, f0, f1, f2, f3, f4, f5, f6, f7, f8, f11, f9, f10⟩ := h
  obtain ⟨hun, o, ho, hdep⟩ := mem_ready.1 hm
  simp only [ops4, R4, L26, body26, Tryz.f29, Option.getD_some, List.getElem?_toArray, List.getElem?_cons_succ, List.getElem?_cons_zero, Option.some.injEq] at ho
  subst ho
  have hun' : listed.getD 3 false = false := by simpa [hsz] using hun
  have h12 : listed.getD 12 false = false := by
    cases hh : listed.getD 12 false with
    | false => rfl
    | true => have := hdone hh 3 (by omega); rw [hun'] at this; cases this
  refine ⟨_, by simp only [ops4, R4, L26, body26, Tryz.f29, Option.getD_some]; rfl, rfl, fun w₁ r => ?_⟩
  have hK := hW.rely G r
  have hc := hK.ib
  generalize hLx : Go.Conc.listed _ _ _ _ _ = Lx
  have hev : ∀ e ∈ Lx, EvX Shun Wg C Low false γ e ∧ e.loc ≠ .mark .disable ∧ e.loc ≠ .mark .enable := by
    intro e he
    rw [← hLx] at he
    have hm' := mem_listed he
    clear hLx
    simp [go_sem, *] at hm'
    subst hm'
    exact evX_cell _ _ (.inl ⟨_, rfl, .inl hK.oi⟩)
  clear hLx
  go_simp
  refine ⟨γ, ⟨rfl, rfl⟩, DX.reads hev, by simp [hsz], hK, ?_⟩
  have hset : ∀ q, (listed.setIfInBounds 3 true).getD q false = if q = 3 then true else listed.getD q false := fun q => getD_set (by omega)
  have hmono : ∀ q, q ≠ 3 → (listed.setIfInBounds 3 true).getD q false = listed.getD q false := fun q hq => by rw [hset q, if_neg hq]
  refine ⟨fun e => (by rw [hmono 12 (by omega), h12] at e; cases e), fun _ => (r.cell i hW.mi).trans (hrow h12), fun e => (hrowo (by rw [hmono 10 (by omega)] at e; exact e)).rely r, fun e => (by rw [hmono 12 (by omega), h12] at e; cases e), fun e => (by
      have h := h10 (by rw [hmono 10 (by omega)] at e; exact e)
      exact ⟨(by rw [hset]; split; rfl; exact h.1), (by rw [hset]; split; rfl; exact h.2)⟩), v13, v14, v15, .int .i64 i, v17, v18, v19, v20, v21, v22, v23, v24, by rfl, ?_⟩
  exact ⟨fun e => f0 (by rw [hmono 0 (by omega)] at e; exact e), fun e => f1 (by rw [hmono 1 (by omega)] at e; exact e), fun e => f2 (by rw [hmono 2 (by omega)] at e; exact e), fun _ => rfl, fun e => f4 (by rw [hmono 4 (by omega)] at e; exact e), fun e => f5 (by rw [hmono 5 (by omega)] at e; exact e), fun e => f6 (by rw [hmono 6 (by omega)] at e; exact e), fun e => f7 (by rw [hmono 7 (by omega)] at e; exact e), fun e => f8 (by rw [hmono 8 (by omega)] at e; exact e), fun e => f11 (by rw [hmono 11 (by omega)] at e; exact e), fun e => by
      obtain ⟨b1, e1, e2, e3, e4, e5⟩ := f9 (by rw [hmono 9 (by omega)] at e; exact e)
      exact ⟨b1, e1, e2, e3, e4, (r.own b1 e2).trans e5⟩, fun e => (f10 (by rw [hmono 10 (by omega)] at e; exact e)).rely r⟩
theorem r4_4 (G : GeoW Shun Wg C n Low Sz By Br Bi Ba i) (hx : xs.length ≤ 1048576) (h : I4 Shun Wg C n Low Sz By Br Bi Ba A ny cy ys i av bv k t5 t10 t11 t12 t25 ds u xs listed γ a w) (hm : 4 ∈ Region.ready md ops4 listed) : Step4 Shun Wg C n Low Sz By Br Bi Ba A ny cy ys i av bv k t5 t10 t11 t12 t25 ds u xs listed γ a w 4 := by
  obtain ⟨hsz, hW, hdone, hrow, hrowo, hfin, h10, v13, v14, v15, v16, v17, v18, v19, v20, v21, v22, v23, v24, rfl, f0, f1, f2, f3, f4, f5, f6, f7, f8, f11, f9, f10⟩ := h
  obtain ⟨hun, o, ho, hdep⟩ := mem_ready.1 hm
  simp only [ops4, R4, L26, body26, Tryz.f29, Option.getD_some, List.getElem?_toArray, List.getElem?_cons_succ, List.getElem?_cons_zero, Option.some.injEq] at ho
  subst ho
  have d2 : listed.getD 2 false = true := hdep ⟨2, .data⟩ (by simp) rfl
  have d3 : listed.getD 3 false = true := hdep ⟨3, .data⟩ (by simp) rfl
  have g2 := f2 d2
  subst g2
  have g3 := f3 d3
  subst g3
  have hun' : listed.getD 4 false = false := by simpa [hsz] using hun
  have h12 : listed.getD 12 false = false := by
    cases hh : listed.getD 12 false with
    | false => rfl
    | true => have := hdone hh 4 (by omega); rw [hun'] at this; cases this
  refine ⟨_, by simp only [ops4, R4, L26, body26, Tryz.f29, Option.getD_some]; rfl, rfl, fun w₁ r => ?_⟩
  have hK := hW.rely G r
  have hlt : (i : Int) < (n : Int) := by have := G.hi; omega
  have hi0 : (0 : Int) ≤ (i : Int) := by omega
  generalize hLx : Go.Conc.listed _ _ _ _ _ = Lx
  have hev : ∀ e ∈ Lx, EvX Shun Wg C Low false γ e ∧ e.loc ≠ .mark .disable ∧ e.loc ≠ .mark .enable := by
    intro e he
    rw [← hLx] at he
    have hm' := mem_listed he
    clear hLx
    simp [go_sem, *] at hm'
  clear hLx
  go_simp
  refine ⟨γ, ⟨rfl, rfl⟩, DX.reads hev, by simp [hsz], hK, ?_⟩
  have hset : ∀ q, (listed.setIfInBounds 4 true).getD q false = if q = 4 then true else listed.getD q false := fun q => getD_set (by omega)
  have hmono : ∀ q, q ≠ 4 → (listed.setIfInBounds 4 true).getD q false = listed.getD q false := fun q hq => by rw [hset q, if_neg hq]
  refine ⟨fun e => (by rw [hmono 12 (by omega), h12] at e; cases e), fun _ => (r.cell i hW.mi).trans (hrow h12), fun e => (hrowo (by rw [hmono 10 (by omega)] at e; exact e)).rely r, fun e => (by rw [hmono 12 (by omega), h12] at e; cases e), fun e => (by
      have h := h10 (by rw [hmono 10 (by omega)] at e; exact e)
      exact ⟨(by rw [hset]; split; rfl; exact h.1), (by rw [hset]; split; rfl; exact h.2)⟩), v13, v14, .slice (some ⟨C, 0, none⟩) n n, .int .i64 i, .pointer (some ⟨C, i, none⟩), v18, v19, v20, v21, v22, v23, v24, by rfl, ?_⟩
  exact ⟨fun e => f0 (by rw [hmono 0 (by omega)] at e; exact e), fun e => f1 (by rw [hmono 1 (by omega)] at e; exact e), fun _ => rfl, fun _ => rfl, fun _ => rfl, fun e => f5 (by rw [hmono 5 (by omega)] at e; exact e), fun e => f6 (by rw [hmono 6 (by omega)] at e; exact e), fun e => f7 (by rw [hmono 7 (by omega)] at e; exact e), fun e => f8 (by rw [hmono 8 (by omega)] at e; exact e), fun e => f11 (by rw [hmono 11 (by omega)] at e; exact e), fun e => by
      obtain ⟨b1, e1, e2, e3, e4, e5⟩ := f9 (by rw [hmono 9 (by omega)] at e; exact e)
      exact ⟨b1, e1, e2, e3, e4, (r.own b1 e2).trans e5⟩, fun e => (f10 (by rw [hmono 10 (by omega)] at e; exact e)).rely r⟩
theorem r4_5 (G : GeoW Shun Wg C n Low Sz By Br Bi Ba i) (hx : xs.length ≤ 1048576) (h : I4 Shun Wg C n Low Sz By Br Bi Ba A ny cy ys i av bv k t5 t10 t11 t12 t25 ds u xs listed γ a w) (hm : 5 ∈ Region.ready md ops4 listed) : Step4 Shun Wg C n Low Sz By Br Bi Ba A ny cy ys i av bv k t5 t10 t11 t12 t25 ds u xs listed γ a w 5 := by
  obtain ⟨hsz, hW, hdone, hrow, hrowo, hfin, h10, v13, v14, v15, v16, v17, v18, v19, v20, v21, v22, v23, v24, rfl, f0, f1, f2, f3, f4, f5, f6, f7, f8, f11, f9, f10⟩ := h
  obtain ⟨hun, o, ho, hdep⟩ := mem_ready.1 hm
  simp only [ops4, R4, L26, body26, Tryz.f29, Option.getD_some, List.getElem?_toArray, List.getElem?_cons_succ, List.getElem?_cons_zero, Option.some.injEq] at ho
  subst ho
  have d4 : listed.getD 4 false = true := hdep ⟨4, .data⟩ (by simp) rfl
  have g4 := f4 d4
  subst g4
  have hun' : listed.getD 5 false = false := by simpa [hsz] using hun
  have h12 : listed.getD 12 false = false := by
    cases hh : listed.getD 12 false with
    | false => rfl
    | true => have := hdone hh 5 (by omega); rw [hun'] at this; cases this
  refine ⟨_, by simp only [ops4, R4, L26, body26, Tryz.f29, Option.getD_some]; rfl, rfl, fun w₁ r => ?_⟩
  have hK := hW.rely G r
  have hc : w₁.cell? ⟨C, i, none⟩ = some u := (r.cell i hW.mi).trans (hrow h12)
  generalize hLx : Go.Conc.listed _ _ _ _ _ = Lx
  have hev : ∀ e ∈ Lx, EvX Shun Wg C Low false γ e ∧ e.loc ≠ .mark .disable ∧ e.loc ≠ .mark .enable := by
    intro e he
    rw [← hLx] at he
    have hm' := mem_listed he
    clear hLx
    simp [go_sem, *] at hm'
    subst hm'
    exact evX_cell _ _ (.inl ⟨_, rfl, .inr ⟨rfl, hK.mi⟩⟩)
  clear hLx
  go_simp
  refine ⟨γ, ⟨rfl, rfl⟩, DX.reads hev, by simp [hsz], hK, ?_⟩
  have hset : ∀ q, (listed.setIfInBounds 5 true).getD q false = if q = 5 then true else listed.getD q false := fun q => getD_set (by omega)
  have hmono : ∀ q, q ≠ 5 → (listed.setIfInBounds 5 true).getD q false = listed.getD q false := fun q hq => by rw [hset q, if_neg hq]
  refine ⟨fun e => (by rw [hmono 12 (by omega), h12] at e; cases e), fun _ => (r.cell i hW.mi).trans (hrow h12), fun e => (hrowo (by rw [hmono 10 (by omega)] at e; exact e)).rely r, fun e => (by rw [hmono 12 (by omega), h12] at e; cases e), fun e => (by
      have h := h10 (by rw [hmono 10 (by omega)] at e; exact e)
      exact ⟨(by rw [hset]; split; rfl; exact h.1), (by rw [hset]; split; rfl; exact h.2)⟩), v13, v14, v15, v16, .pointer (some ⟨C, i, none⟩), u, v19, v20, v21, v22, v23, v24, by rfl, ?_⟩
  exact ⟨fun e => f0 (by rw [hmono 0 (by omega)] at e; exact e), fun e => f1 (by rw [hmono 1 (by omega)] at e; exact e), fun e => f2 (by rw [hmono 2 (by omega)] at e; exact e), fun e => f3 (by rw [hmono 3 (by omega)] at e; exact e), fun _ => rfl, fun _ => rfl, fun e => f6 (by rw [hmono 6 (by omega)] at e; exact e), fun e => f7 (by rw [hmono 7 (by omega)] at e; exact e), fun e => f8 (by rw [hmono 8 (by omega)] at e; exact e), fun e => f11 (by rw [hmono 11 (by omega)] at e; exact e), fun e => by
      obtain ⟨b1, e1, e2, e3, e4, e5⟩ := f9 (by rw [hmono 9 (by omega)] at e; exact e)
      exact ⟨b1, e1, e2, e3, e4, (r.own b1 e2).trans e5⟩, fun e => (f10 (by rw [hmono 10 (by omega)] at e; exact e)).rely r⟩
theorem r4_6 (G : GeoW Shun Wg C n Low Sz By Br Bi Ba i) (hx : xs.length ≤ 1048576) (h : I4 Shun Wg C n Low Sz By Br Bi Ba A ny cy ys i av bv k t5 t10 t11 t12 t25 ds u xs listed γ a w) (hm : 6 ∈ Region.ready md ops4 listed) : Step4 Shun Wg C n Low Sz By Br Bi Ba A ny cy ys i av bv k t5 t10 t11 t12 t25 ds u xs listed γ a w 6 := by
  obtain ⟨hsz, hW, hdone, hrow, hrowo, hfin, h10, v13, v14, v15, v16, v17, v18, v19, v20, v21, v22, v23, v24, rfl, f0, f1, f2, f3, f4, f5, f6, f7, f8, f11, f9, f10⟩ := h
  obtain ⟨hun, o, ho, hdep⟩ := mem_ready.1 hm
  simp only [ops4, R4, L26, body26, Tryz.f29, Option.getD_some, List.getElem?_toArray, List.getElem?_cons_succ, List.getElem?_cons_zero, Option.some.injEq] at ho
  subst ho
  have hun' : listed.getD 6 false = false := by simpa [hsz] using hun
  have h12 : listed.getD 12 false = false := by
    cases hh : listed.getD 12 false with
    | false => rfl
    | true => have := hdone hh 6 (by omega); rw [hun'] at this; cases this
  refine ⟨_, by simp only [ops4, R4, L26, body26, Tryz.f29, Option.getD_some]; rfl, rfl, fun w₁ r => ?_⟩
  have hK := hW.rely G r
  have hc := hK.ab
  generalize hLx : Go.Conc.listed _ _ _ _ _ = Lx
  have hev : ∀ e ∈ Lx, EvX Shun Wg C Low false γ e ∧ e.loc ≠ .mark .disable ∧ e.loc ≠ .mark .enable := by
    intro e he
    rw [← hLx] at he
    have hm' := mem_listed he
    clear hLx
    simp [go_sem, *] at hm'
    subst hm'
    exact evX_cell _ _ (.inl ⟨_, rfl, .inl hK.oa⟩)
  clear hLx
  go_simp
  refine ⟨γ, ⟨rfl, rfl⟩, DX.reads hev, by simp [hsz], hK, ?_⟩
  have hset : ∀ q, (listed.setIfInBounds 6 true).getD q false = if q = 6 then true else listed.getD q false := fun q => getD_set (by omega)
  have hmono : ∀ q, q ≠ 6 → (listed.setIfInBounds 6 true).getD q false = listed.getD q false := fun q hq => by rw [hset q, if_neg hq]
  refine ⟨fun e => (by rw [hmono 12 (by omega), h12] at e; cases e), fun _ => (r.cell i hW.mi).trans (hrow h12), fun e => (hrowo (by rw [hmono 10 (by omega)] at e; exact e)).rely r, fun e => (by rw [hmono 12 (by omega), h12] at e; cases e), fun e => (by
      have h := h10 (by rw [hmono 10 (by omega)] at e; exact e)
      exact ⟨(by rw [hset]; split; rfl; exact h.1), (by rw [hset]; split; rfl; exact h.2)⟩), v13, v14, v15, v16, v17, v18, .int .u64 av, v20, v21, v22, v23, v24, by rfl, ?_⟩
  exact ⟨fun e => f0 (by rw [hmono 0 (by omega)] at e; exact e), fun e => f1 (by rw [hmono 1 (by omega)] at e; exact e), fun e => f2 (by rw [hmono 2 (by omega)] at e; exact e), fun e => f3 (by rw [hmono 3 (by omega)] at e; exact e), fun e => f4 (by rw [hmono 4 (by omega)] at e; exact e), fun e => f5 (by rw [hmono 5 (by omega)] at e; exact e), fun _ => rfl, fun e => f7 (by rw [hmono 7 (by omega)] at e; exact e), fun e => f8 (by rw [hmono 8 (by omega)] at e; exact e), fun e => f11 (by rw [hmono 11 (by omega)] at e; exact e), fun e => by
      obtain ⟨b1, e1, e2, e3, e4, e5⟩ := f9 (by rw [hmono 9 (by omega)] at e; exact e)
      exact ⟨b1, e1, e2, e3, e4, (r.own b1 e2).trans e5⟩, fun e => (f10 (by rw [hmono 10 (by omega)] at e; exact e)).rely r⟩
theorem r4_7 (G : GeoW Shun Wg C n Low Sz By Br Bi Ba i) (hx : xs.length ≤ 1048576) (h : I4 Shun Wg C n Low Sz By Br Bi Ba A ny cy ys i av bv k t5 t10 t11 t12 t25 ds u xs listed γ a w) (hm : 7 ∈ Region.ready md ops4 listed) : Step4 Shun Wg C n Low Sz By Br Bi Ba A ny cy ys i av bv k t5 t10 t11 t12 t25 ds u xs listed γ a w 7 := by
  obtain ⟨hsz, hW, hdone, hrow, hrowo, hfin, h10, v13, v14, v15, v16, v17, v18, v19, v20, v21, v22, v23, v24, rfl, f0, f1, f2, f3, f4, f5, f6, f7, f8, f11, f9, f10⟩ := h
  obtain ⟨hun, o, ho, hdep⟩ := mem_ready.1 hm
  simp only [ops4, R4, L26, body26, Tryz.f29, Option.getD_some, List.getElem?_toArray, List.getElem?_cons_succ, List.getElem?_cons_zero, Option.some.injEq] at ho
  subst ho
  have hun' : listed.getD 7 false = false := by simpa [hsz] using hun
  have h12 : listed.getD 12 false = false := by
    cases hh : listed.getD 12 false with
    | false => rfl
    | true => have := hdone hh 7 (by omega); rw [hun'] at this; cases this
  refine ⟨_, by simp only [ops4, R4, L26, body26, Tryz.f29, Option.getD_some]; rfl, rfl, fun w₁ r => ?_⟩
  have hK := hW.rely G r
  generalize hLx : Go.Conc.listed _ _ _ _ _ = Lx
  have hev : ∀ e ∈ Lx, EvX Shun Wg C Low false γ e ∧ e.loc ≠ .mark .disable ∧ e.loc ≠ .mark .enable := by
    intro e he
    rw [← hLx] at he
    have hm' := mem_listed he
    clear hLx
    simp [go_sem, *] at hm'
  clear hLx
  go_simp
  refine ⟨γ, ⟨rfl, rfl⟩, DX.reads hev, by simp [hsz], hK, ?_⟩
  have hset : ∀ q, (listed.setIfInBounds 7 true).getD q false = if q = 7 then true else listed.getD q false := fun q => getD_set (by omega)
  have hmono : ∀ q, q ≠ 7 → (listed.setIfInBounds 7 true).getD q false = listed.getD q false := fun q hq => by rw [hset q, if_neg hq]
  refine ⟨fun e => (by rw [hmono 12 (by omega), h12] at e; cases e), fun _ => (r.cell i hW.mi).trans (hrow h12), fun e => (hrowo (by rw [hmono 10 (by omega)] at e; exact e)).rely r, fun e => (by rw [hmono 12 (by omega), h12] at e; cases e), fun e => (by
      have h := h10 (by rw [hmono 10 (by omega)] at e; exact e)
      exact ⟨(by rw [hset]; split; rfl; exact h.1), (by rw [hset]; split; rfl; exact h.2)⟩), v13, v14, v15, v16, v17, v18, v19, .int .u64 bv, v21, v22, v23, v24, by rfl, ?_⟩
  exact ⟨fun e => f0 (by rw [hmono 0 (by omega)] at e; exact e), fun e => f1 (by rw [hmono 1 (by omega)] at e; exact e), fun e => f2 (by rw [hmono 2 (by omega)] at e; exact e), fun e => f3 (by rw [hmono 3 (by omega)] at e; exact e), fun e => f4 (by rw [hmono 4 (by omega)] at e; exact e), fun e => f5 (by rw [hmono 5 (by omega)] at e; exact e), fun e => f6 (by rw [hmono 6 (by omega)] at e; exact e), fun _ => rfl, fun e => f8 (by rw [hmono 8 (by omega)] at e; exact e), fun e => f11 (by rw [hmono 11 (by omega)] at e; exact e), fun e => by
      obtain ⟨b1, e1, e2, e3, e4, e5⟩ := f9 (by rw [hmono 9 (by omega)] at e; exact e)
      exact ⟨b1, e1, e2, e3, e4, (r.own b1 e2).trans e5⟩, fun e => (f10 (by rw [hmono 10 (by omega)] at e; exact e)).rely r⟩
theorem r4_8 (G : GeoW Shun Wg C n Low Sz By Br Bi Ba i) (hx : xs.length ≤ 1048576) (h : I4 Shun Wg C n Low Sz By Br Bi Ba A ny cy ys i av bv k t5 t10 t11 t12 t25 ds u xs listed γ a w) (hm : 8 ∈ Region.ready md ops4 listed) : Step4 Shun Wg C n Low Sz By Br Bi Ba A ny cy ys i av bv k t5 t10 t11 t12 t25 ds u xs listed γ a w 8 := by
  obtain ⟨hsz, hW, hdone, hrow, hrowo, hfin, h10, v13, v14, v15, v16, v17, v18, v19, v20, v21, v22, v23, v24, rfl, f0, f1, f2, f3, f4, f5, f6, f7, f8, f11, f9, f10⟩ := h
  obtain ⟨hun, o, ho, hdep⟩ := mem_ready.1 hm
  simp only [ops4, R4, L26, body26, Tryz.f29, Option.getD_some, List.getElem?_toArray, List.getElem?_cons_succ, List.getElem?_cons_zero, Option.some.injEq] at ho
  subst ho
  have d6 : listed.getD 6 false = true := hdep ⟨6, .data⟩ (by simp) rfl
  have d7 : listed.getD 7 false = true := hdep ⟨7, .data⟩ (by simp) rfl
  have g6 := f6 d6
  subst g6
  have g7 := f7 d7
  subst g7
  have hun' : listed.getD 8 false = false := by simpa [hsz] using hun
  have h12 : listed.getD 12 false = false := by
    cases hh : listed.getD 12 false with
    | false => rfl
    | true => have := hdone hh 8 (by omega); rw [hun'] at this; cases this
  refine ⟨_, by simp only [ops4, R4, L26, body26, Tryz.f29, Option.getD_some]; rfl, rfl, fun w₁ r => ?_⟩
  have hK := hW.rely G r
  generalize hLx : Go.Conc.listed _ _ _ _ _ = Lx
  have hev : ∀ e ∈ Lx, EvX Shun Wg C Low false γ e ∧ e.loc ≠ .mark .disable ∧ e.loc ≠ .mark .enable := by
    intro e he
    rw [← hLx] at he
    have hm' := mem_listed he
    clear hLx
    simp [go_sem, *] at hm'
  clear hLx
  go_simp
  refine ⟨γ, ⟨rfl, rfl⟩, DX.reads hev, by simp [hsz], hK, ?_⟩
  have hset : ∀ q, (listed.setIfInBounds 8 true).getD q false = if q = 8 then true else listed.getD q false := fun q => getD_set (by omega)
  have hmono : ∀ q, q ≠ 8 → (listed.setIfInBounds 8 true).getD q false = listed.getD q false := fun q hq => by rw [hset q, if_neg hq]
  refine ⟨fun e => (by rw [hmono 12 (by omega), h12] at e; cases e), fun _ => (r.cell i hW.mi).trans (hrow h12), fun e => (hrowo (by rw [hmono 10 (by omega)] at e; exact e)).rely r, fun e => (by rw [hmono 12 (by omega), h12] at e; cases e), fun e => (by
      have h := h10 (by rw [hmono 10 (by omega)] at e; exact e)
      exact ⟨(by rw [hset]; split; rfl; exact h.1), (by rw [hset]; split; rfl; exact h.2)⟩), v13, v14, v15, v16, v17, v18, .int .u64 av, .int .u64 bv, .int .u64 (bits .and .u64 av bv), v22, v23, v24, by rfl, ?_⟩
  exact ⟨fun e => f0 (by rw [hmono 0 (by omega)] at e; exact e), fun e => f1 (by rw [hmono 1 (by omega)] at e; exact e), fun e => f2 (by rw [hmono 2 (by omega)] at e; exact e), fun e => f3 (by rw [hmono 3 (by omega)] at e; exact e), fun e => f4 (by rw [hmono 4 (by omega)] at e; exact e), fun e => f5 (by rw [hmono 5 (by omega)] at e; exact e), fun _ => rfl, fun _ => rfl, fun _ => rfl, fun e => f11 (by rw [hmono 11 (by omega)] at e; exact e), fun e => by
      obtain ⟨b1, e1, e2, e3, e4, e5⟩ := f9 (by rw [hmono 9 (by omega)] at e; exact e)
      exact ⟨b1, e1, e2, e3, e4, (r.own b1 e2).trans e5⟩, fun e => (f10 (by rw [hmono 10 (by omega)] at e; exact e)).rely r⟩
theorem r4_11 (G : GeoW Shun Wg C n Low Sz By Br Bi Ba i) (hx : xs.length ≤ 1048576) (h : I4 Shun Wg C n Low Sz By Br Bi Ba A ny cy ys i av bv k t5 t10 t11 t12 t25 ds u xs listed γ a w) (hm : 11 ∈ Region.ready md ops4 listed) : Step4 Shun Wg C n Low Sz By Br Bi Ba A ny cy ys i av bv k t5 t10 t11 t12 t25 ds u xs listed γ a w 11 := by
  obtain ⟨hsz, hW, hdone, hrow, hrowo, hfin, h10, v13, v14, v15, v16, v17, v18, v19, v20, v21, v22, v23, v24, rfl, f0, f1, f2, f3, f4, f5, f6, f7, f8, f11, f9, f10⟩ := h
  obtain ⟨hun, o, ho, hdep⟩ := mem_ready.1 hm
  simp only [ops4, R4, L26, body26, Tryz.f29, Option.getD_some, List.getElem?_toArray, List.getElem?_cons_succ, List.getElem?_cons_zero, Option.some.injEq] at ho
  subst ho
  have d0 : listed.getD 0 false = true := hdep ⟨0, .data⟩ (by simp) rfl
  have d1 : listed.getD 1 false = true := hdep ⟨1, .data⟩ (by simp) rfl
  have g0 := f0 d0
  subst g0
  have g1 := f1 d1
  subst g1
  have hun' : listed.getD 11 false = false := by simpa [hsz] using hun
  have h12 : listed.getD 12 false = false := by
    cases hh : listed.getD 12 false with
    | false => rfl
    | true => have := hdone hh 11 (by omega); rw [hun'] at this; cases this
  refine ⟨_, by simp only [ops4, R4, L26, body26, Tryz.f29, Option.getD_some]; rfl, rfl, fun w₁ r => ?_⟩
  have hK := hW.rely G r
  have hlt : (i : Int) < (n : Int) := by have := G.hi; omega
  have hi0 : (0 : Int) ≤ (i : Int) := by omega
  generalize hLx : Go.Conc.listed _ _ _ _ _ = Lx
  have hev : ∀ e ∈ Lx, EvX Shun Wg C Low false γ e ∧ e.loc ≠ .mark .disable ∧ e.loc ≠ .mark .enable := by
    intro e he
    rw [← hLx] at he
    have hm' := mem_listed he
    clear hLx
    simp [go_sem, *] at hm'
  clear hLx
  go_simp
  refine ⟨γ, ⟨rfl, rfl⟩, DX.reads hev, by simp [hsz], hK, ?_⟩
  have hset : ∀ q, (listed.setIfInBounds 11 true).getD q false = if q = 11 then true else listed.getD q false := fun q => getD_set (by omega)
  have hmono : ∀ q, q ≠ 11 → (listed.setIfInBounds 11 true).getD q false = listed.getD q false := fun q hq => by rw [hset q, if_neg hq]
  refine ⟨fun e => (by rw [hmono 12 (by omega), h12] at e; cases e), fun _ => (r.cell i hW.mi).trans (hrow h12), fun e => (hrowo (by rw [hmono 10 (by omega)] at e; exact e)).rely r, fun e => (by rw [hmono 12 (by omega), h12] at e; cases e), fun e => (by
      have h := h10 (by rw [hmono 10 (by omega)] at e; exact e)
      exact ⟨(by rw [hset]; split; rfl; exact h.1), (by rw [hset]; split; rfl; exact h.2)⟩), .slice (some ⟨C, 0, none⟩) n n, .int .i64 i, v15, v16, v17, v18, v19, v20, v21, v22, v23, .pointer (some ⟨C, i, none⟩), by rfl, ?_⟩
  exact ⟨fun _ => rfl, fun _ => rfl, fun e => f2 (by rw [hmono 2 (by omega)] at e; exact e), fun e => f3 (by rw [hmono 3 (by omega)] at e; exact e), fun e => f4 (by rw [hmono 4 (by omega)] at e; exact e), fun e => f5 (by rw [hmono 5 (by omega)] at e; exact e), fun e => f6 (by rw [hmono 6 (by omega)] at e; exact e), fun e => f7 (by rw [hmono 7 (by omega)] at e; exact e), fun e => f8 (by rw [hmono 8 (by omega)] at e; exact e), fun _ => rfl, fun e => by
      obtain ⟨b1, e1, e2, e3, e4, e5⟩ := f9 (by rw [hmono 9 (by omega)] at e; exact e)
      exact ⟨b1, e1, e2, e3, e4, (r.own b1 e2).trans e5⟩, fun e => (f10 (by rw [hmono 10 (by omega)] at e; exact e)).rely r⟩
theorem r4_9 (G : GeoW Shun Wg C n Low Sz By Br Bi Ba i) (hx : xs.length ≤ 1048576) (h : I4 Shun Wg C n Low Sz By Br Bi Ba A ny cy ys i av bv k t5 t10 t11 t12 t25 ds u xs listed γ a w) (hm : 9 ∈ Region.ready md ops4 listed) : Step4 Shun Wg C n Low Sz By Br Bi Ba A ny cy ys i av bv k t5 t10 t11 t12 t25 ds u xs listed γ a w 9 := by
  obtain ⟨hsz, hW, hdone, hrow, hrowo, hfin, h10, v13, v14, v15, v16, v17, v18, v19, v20, v21, v22, v23, v24, rfl, f0, f1, f2, f3, f4, f5, f6, f7, f8, f11, f9, f10⟩ := h
  obtain ⟨hun, o, ho, hdep⟩ := mem_ready.1 hm
  simp only [ops4, R4, L26, body26, Tryz.f29, Option.getD_some, List.getElem?_toArray, List.getElem?_cons_succ, List.getElem?_cons_zero, Option.some.injEq] at ho
  subst ho
  have d8 : listed.getD 8 false = true := hdep ⟨8, .data⟩ (by simp) rfl
  have g8 := f8 d8
  subst g8
  have hun' : listed.getD 9 false = false := by simpa [hsz] using hun
  have h12 : listed.getD 12 false = false := by
    cases hh : listed.getD 12 false with
    | false => rfl
    | true => have := hdone hh 9 (by omega); rw [hun'] at this; cases this
  refine ⟨_, by simp only [ops4, R4, L26, body26, Tryz.f29, Option.getD_some]; rfl, rfl, fun w₁ r => ?_⟩
  have hK := hW.rely G r
  have h10f : listed.getD 10 false = false := by
    cases hh : listed.getD 10 false with
    | false => rfl
    | true => have := (h10 hh).2; rw [hun'] at this; cases this
  have hro := (hrowo h10f).rely r
  have hs1 := hK.size
  have hgS := G.hS
  have hgW := G.hW
  have hgC := G.hC
  generalize hLx : Go.Conc.listed _ _ _ _ _ = Lx
  have hev : Lx = #[] := by
    refine Array.eq_empty_iff_forall_not_mem.2 fun e he => ?_
    rw [← hLx] at he
    have hm' := mem_listed he
    clear hLx
    simp [go_sem, *] at hm'
  clear hLx
  subst hev
  go_simp
  have hsame : ∀ b, b < w₁.heap.size → (w₁.alloc (.cells #[.int .u64 (bits .and .u64 av bv)] 46)).heap[b]? = w₁.heap[b]? := fun b hb => Below.heap_alloc _ _ _ hb
  have hlt : ∀ b, γ.own b ∨ b < Low → b < Sz → b < w₁.heap.size := fun b _ h2 => by omega
  refine ⟨⟨fun b => γ.own b ∨ b = w₁.heap.size, γ.mc, γ.deaf⟩, ⟨rfl, rfl⟩, DX.new (by omega) (by omega) _, by simp [hsz], hK.keep G (by simp; omega) (fun b h => .inl h) hK.mi (fun b h1 _ _ h4 => hsame b (by omega)) ?_ ?_, ?_⟩
  · exact (DX.new (Shun := Shun) (Low := Low) (main := false) (γ := γ) (ty := Tryz.link.tWg) (n := n) (Wg := Wg) (C := C) (by omega) (by omega) (.cells #[.int .u64 (bits .and .u64 av bv)] 46)).fx.live hK.live
  · exact (DX.new (Shun := Shun) (Low := Low) (main := false) (γ := γ) (ty := Tryz.link.tWg) (n := n) (Wg := Wg) (C := C) (by omega) (by omega) (.cells #[.int .u64 (bits .and .u64 av bv)] 46)).fx.pay hK.pay
  have hset : ∀ q, (listed.setIfInBounds 9 true).getD q false = if q = 9 then true else listed.getD q false := fun q => getD_set (by omega)
  have hmono : ∀ q, q ≠ 9 → (listed.setIfInBounds 9 true).getD q false = listed.getD q false := fun q hq => by rw [hset q, if_neg hq]
  refine ⟨fun e => (by rw [hmono 12 (by omega), h12] at e; cases e), fun _ => (cell_of_block (hsame C (by omega)) i).trans ((r.cell i hW.mi).trans (hrow h12)), fun e => hro.keep (fun b h => .inl h) fun g hg => hsame g (hro.lt g hg).2, fun e => (by rw [hmono 12 (by omega), h12] at e; cases e),
    fun e => (by rw [hmono 10 (by omega), h10f] at e; cases e), v13, v14, v15, v16, v17, v18, v19, v20, .int .u64 (bits .and .u64 av bv), .slice (some ⟨w₁.heap.size, 0, none⟩) 1 1, v23, v24, by rfl, ?_⟩
  exact ⟨fun e => f0 (by rw [hmono 0 (by omega)] at e; exact e), fun e => f1 (by rw [hmono 1 (by omega)] at e; exact e), fun e => f2 (by rw [hmono 2 (by omega)] at e; exact e), fun e => f3 (by rw [hmono 3 (by omega)] at e; exact e), fun e => f4 (by rw [hmono 4 (by omega)] at e; exact e), fun e => f5 (by rw [hmono 5 (by omega)] at e; exact e), fun e => f6 (by rw [hmono 6 (by omega)] at e; exact e), fun e => f7 (by rw [hmono 7 (by omega)] at e; exact e), fun _ => rfl, fun e => f11 (by rw [hmono 11 (by omega)] at e; exact e),
    fun _ => ⟨_, rfl, .inr rfl, hs1, fun g hg => by have := (hro.lt g hg).2; omega, heap_alloc_new w₁ _⟩, fun e => (by rw [hmono 10 (by omega), h10f] at e; cases e)⟩
theorem addr0 (b j : Nat) : (⟨b, 0, none⟩ : Addr).add j = ⟨b, j, none⟩ := by
  unfold Addr.add
  split
  · subst_vars; rfl
  · simp
/-- What append does, and what it lists. -/
theorem app_facts {b1 : Nat} {q : Int} (hs : Sz ≤ w.heap.size) (hro : RowO Sz γ w u xs) (hx : xs.length ≤ 1048576) (hb : w.heap[b1]? = some (.cells #[.int .u64 q] 46)) (ty : TypeId) :
    ∃ v' w', (Builtin.append_ #[33, 33] ty #[u, .slice (some ⟨b1, 0, none⟩) 1 1]).run Tryz.prog w = .ok v' w' ∧ w'.ownsRow Sz 46 1 v' (xs ++ [q]).length ((xs ++ [q]).map (Value.int .u64)) ∧ w.grownBy w' u.ownBlock ∧ (v'.ownBlock = u.ownBlock ∨ v'.ownBlock = some w.heap.size) ∧
      ∀ ev ∈ (Builtin.append_ #[33, 33] ty #[u, .slice (some ⟨b1, 0, none⟩) 1 1]).events Tryz.prog w #[], (∃ ad, ev.loc = .cell ad ∧ (ad.block = b1 ∨ some ad.block = u.ownBlock)) ∨ ∃ m, ev = ⟨.mark m, false, true⟩ ∧ Conc.Neutral m := by
  obtain ⟨i0, hi, hz0, hz1, hz2⟩ := info_parts crew_inf
  have hnews : ∀ (j : Nat) (v : Value), ([.int .u64 q] : List Value)[j]? = some v → w.cell? ((⟨b1, 0, none⟩ : Addr).add j) = some v := by
    intro j v hj
    rw [addr0]
    have hc := cell_of_row w b1 j #[.int .u64 q] 46 (0, 0) hb
    rw [hc]
    simpa using hj
  have h1 : ∀ v ∈ ([.int .u64 q] : List Value), v.oneCell' = true := by simp [Value.oneCell']
  obtain ⟨v', w', hr, ho, hg, _, hat⟩ := run_append_own_at w Sz 33 ty 46 i0 (.int .u64 0) 1 8 Tryz.underlying33 hi hz0 hz1 hz2 rfl (by omega) u xs.length _ hro.1 ⟨b1, 0, none⟩ 1 1 [.int .u64 q] rfl hnews h1 (by unfold maxLen; omega) (by omega) hs
  refine ⟨v', w', hr, by simpa using ho, hg, hat, fun ev hev => ?_⟩
  rcases events_append_where w Sz 33 ty 46 i0 (.int .u64 0) 1 8 Tryz.underlying33 hi hz0 hz1 hz2 u xs.length _ hro.1 ⟨b1, 0, none⟩ 1 1 [.int .u64 q] rfl hnews h1 (by unfold maxLen; omega) (by omega) ev hev with ⟨ad, e1, e2⟩ | h
  · exact .inl ⟨ad, e1, e2.imp And.right id⟩
  · exact .inr h
theorem evX_own {main : Bool} {e : Event} {ad : Addr} (h : e.loc = .cell ad) (ho : γ.own ad.block) : EvX Shun Wg C Low main γ e ∧ e.loc ≠ .mark .disable ∧ e.loc ≠ .mark .enable := by
  obtain ⟨l, wr, sy⟩ := e
  obtain rfl : l = _ := h
  refine ⟨⟨fun x hx => ?_, by simp⟩, by simp, by simp⟩
  cases wr <;> cases sy <;> simp [MemAct.ofEvent, MemAct.touch?] at hx <;> subst hx <;> exact .inr (.inl ⟨ad, rfl, .inl ho⟩)
theorem evX_neutral {main : Bool} {m : Mark} (h : Conc.Neutral m) : EvX Shun Wg C Low main γ ⟨.mark m, false, true⟩ ∧ (⟨.mark m, false, true⟩ : Event).loc ≠ .mark .disable ∧ (⟨.mark m, false, true⟩ : Event).loc ≠ .mark .enable := by
  cases m <;> simp [Conc.Neutral] at h <;> exact ⟨⟨fun x hx => (by simp [MemAct.ofEvent, MemAct.touch?] at hx), by simp⟩, by simp, by simp⟩

theorem r4_10 (G : GeoW Shun Wg C n Low Sz By Br Bi Ba i) (hx : xs.length ≤ 1048576) (h : I4 Shun Wg C n Low Sz By Br Bi Ba A ny cy ys i av bv k t5 t10 t11 t12 t25 ds u xs listed γ a w) (hm : 10 ∈ Region.ready md ops4 listed) : Step4 Shun Wg C n Low Sz By Br Bi Ba A ny cy ys i av bv k t5 t10 t11 t12 t25 ds u xs listed γ a w 10 := by
  obtain ⟨hsz, hW, hdone, hrow, hrowo, hfin, h10, v13, v14, v15, v16, v17, v18, v19, v20, v21, v22, v23, v24, rfl, f0, f1, f2, f3, f4, f5, f6, f7, f8, f11, f9, f10⟩ := h
  obtain ⟨hun, o, ho, hdep⟩ := mem_ready.1 hm
  simp only [ops4, R4, L26, body26, Tryz.f29, Option.getD_some, List.getElem?_toArray, List.getElem?_cons_succ, List.getElem?_cons_zero, Option.some.injEq] at ho
  subst ho
  have d5 : listed.getD 5 false = true := hdep ⟨5, .data⟩ (by simp) rfl
  have d9 : listed.getD 9 false = true := hdep ⟨9, .data⟩ (by simp) rfl
  have g5 := (f5 d5).symm
  subst g5
  have hun' : listed.getD 10 false = false := by simpa [hsz] using hun
  have h12 : listed.getD 12 false = false := by
    cases hh : listed.getD 12 false with
    | false => rfl
    | true => have := hdone hh 10 (by omega); rw [hun'] at this; cases this
  refine ⟨_, by simp only [ops4, R4, L26, body26, Tryz.f29, Option.getD_some]; rfl, rfl, fun w₁ r => ?_⟩
  have hK := hW.rely G r
  obtain ⟨b1, g9, hb1o, hb1s, hb1n, hb1h⟩ := f9 d9
  subst g9
  have hro := (hrowo hun').rely r
  have hs1 := hK.size
  have hgS := G.hS
  have hgW := G.hW
  have hgC := G.hC
  have hbh : w₁.heap[b1]? = some (.cells #[.int .u64 (bits .and .u64 av bv)] 46) := (r.own b1 hb1o).trans hb1h
  obtain ⟨v', w', hrun, hown, hgr, hat, hevs⟩ := app_facts hs1 hro hx hbh 33
  generalize hLx : Go.Conc.listed _ _ _ _ _ = Lx
  have hev : ∀ e ∈ Lx, EvX Shun Wg C Low false ⟨fun b => γ.own b ∨ (w₁.heap.size ≤ b ∧ b < w'.heap.size), γ.mc, γ.deaf⟩ e ∧ e.loc ≠ .mark .disable ∧ e.loc ≠ .mark .enable := by
    intro e he
    rw [← hLx] at he
    have hm' := mem_listed he
    rw [events_append_op (Operand.tmp 18) (Operand.tmp 22) 33 rfl (v := u) (xv := .slice (some ⟨b1, 0, none⟩) 1 1) rfl rfl] at hm'
    rcases hevs e hm' with ⟨ad, e1, e2⟩ | ⟨m, rfl, hn⟩
    · refine evX_own e1 (.inl ?_)
      rcases e2 with e2 | e2
      · rw [e2]; exact hb1o
      · exact hro.2 _ e2.symm
    · exact evX_neutral hn
  clear hLx
  have huo : ∀ b, u.ownBlock = some b → Sz ≤ b := fun b hb => (hro.lt b hb).1
  have hblk : ∀ b, b < w₁.heap.size → u.ownBlock ≠ some b → w'.heap[b]? = w₁.heap[b]? := fun b hb hne => hgr.block b hb (fun e => hne e.symm)
  have hlowb : ∀ b, b < Sz → w'.heap[b]? = w₁.heap[b]? := fun b hb => hblk b (by omega) (fun e => by have := huo b e; omega)
  refine uponK_append (Operand.tmp 18) (Operand.tmp 22) 33 rfl (v := u) (xv := .slice (some ⟨b1, 0, none⟩) 1 1) rfl rfl hrun ?_
  have hlive : WgLive Tryz.link.tWg Wg w' := let ⟨st, sm, h⟩ := hK.live; ⟨st, sm, h.of_block (hlowb Wg (by omega))⟩
  have hpay : PayAt C n w' := let ⟨cs, h1, h2⟩ := hK.pay; ⟨cs, (hlowb C (by omega)).trans h1, h2⟩
  have hsz' := hgr.size
  refine ⟨⟨fun b => γ.own b ∨ (w₁.heap.size ≤ b ∧ b < w'.heap.size), γ.mc, γ.deaf⟩, ⟨rfl, rfl⟩, ⟨⟨hgr.tape, hgr.os, hgr.output, hgr.size, fun b hb _ _ hno => hblk b hb fun e => hno (hro.2 b e), fun _ => hlive, fun _ => hpay, fun i' _ => cell_of_block (hlowb C (by omega)) i'⟩, hlowb Wg (by omega), fun b h => h, rfl, (deafBehind_still (fun e he => (hev e he).2) _).symm, fun e he => (hev e he).1⟩,
    by simp [hsz], hK.keep G (by omega) (fun b h => .inl h) hK.mi (fun b h1 _ _ _ => hlowb b h1) hlive hpay, ?_⟩
  have hset : ∀ q, (listed.setIfInBounds 10 true).getD q false = if q = 10 then true else listed.getD q false := fun q => getD_set (by omega)
  have hmono : ∀ q, q ≠ 10 → (listed.setIfInBounds 10 true).getD q false = listed.getD q false := fun q hq => by rw [hset q, if_neg hq]
  refine ⟨fun e => (by rw [hmono 12 (by omega), h12] at e; cases e), fun _ => (cell_of_block (hlowb C (by omega)) i).trans ((r.cell i hW.mi).trans (hrow h12)), fun e => (by rw [hset 10, if_pos rfl] at e; cases e), fun e => (by rw [hmono 12 (by omega), h12] at e; cases e),
    fun _ => ⟨by rw [hmono 5 (by omega)]; exact d5, by rw [hmono 9 (by omega)]; exact d9⟩, v13, v14, v15, v16, v17, u, v19, v20, v21, .slice (some ⟨b1, 0, none⟩) 1 1, v', v24, by rfl, ?_⟩
  refine ⟨fun e => f0 (by rw [hmono 0 (by omega)] at e; exact e), fun e => f1 (by rw [hmono 1 (by omega)] at e; exact e), fun e => f2 (by rw [hmono 2 (by omega)] at e; exact e), fun e => f3 (by rw [hmono 3 (by omega)] at e; exact e), fun e => f4 (by rw [hmono 4 (by omega)] at e; exact e), fun _ => rfl, fun e => f6 (by rw [hmono 6 (by omega)] at e; exact e), fun e => f7 (by rw [hmono 7 (by omega)] at e; exact e), fun e => f8 (by rw [hmono 8 (by omega)] at e; exact e), fun e => f11 (by rw [hmono 11 (by omega)] at e; exact e),
    fun _ => ⟨b1, rfl, .inl hb1o, hb1s, hb1n, (hblk b1 ?_ fun e => (hb1n b1 e) rfl).trans hbh⟩, fun _ => ⟨hown, fun b hb => ?_⟩⟩
  · rcases Nat.lt_or_ge b1 w₁.heap.size with h | h
    · exact h
    · rw [Array.getElem?_eq_none h] at hbh; cases hbh
  · rcases hat with e | e
    · exact .inl (hro.2 b (e ▸ hb))
    · rw [e] at hb
      cases hb
      refine .inr ⟨Nat.le_refl _, ?_⟩
      exact (hown.lt _ e).2
theorem r4_12 (G : GeoW Shun Wg C n Low Sz By Br Bi Ba i) (hx : xs.length ≤ 1048576) (h : I4 Shun Wg C n Low Sz By Br Bi Ba A ny cy ys i av bv k t5 t10 t11 t12 t25 ds u xs listed γ a w) (hm : 12 ∈ Region.ready md ops4 listed) : Step4 Shun Wg C n Low Sz By Br Bi Ba A ny cy ys i av bv k t5 t10 t11 t12 t25 ds u xs listed γ a w 12 := by
  obtain ⟨hsz, hW, hdone, hrow, hrowo, hfin, h10, v13, v14, v15, v16, v17, v18, v19, v20, v21, v22, v23, v24, rfl, f0, f1, f2, f3, f4, f5, f6, f7, f8, f11, f9, f10⟩ := h
  obtain ⟨hun, o, ho, hdep⟩ := mem_ready.1 hm
  simp only [ops4, R4, L26, body26, Tryz.f29, Option.getD_some, List.getElem?_toArray, List.getElem?_cons_succ, List.getElem?_cons_zero, Option.some.injEq] at ho
  subst ho
  have d10 : listed.getD 10 false = true := hdep ⟨10, .data⟩ (by simp) rfl
  have d11 : listed.getD 11 false = true := hdep ⟨11, .data⟩ (by simp) rfl
  have g11 := f11 d11
  subst g11
  have hun' : listed.getD 12 false = false := by simpa [hsz] using hun
  refine ⟨_, by simp only [ops4, R4, L26, body26, Tryz.f29, Option.getD_some]; rfl, rfl, fun w₁ r => ?_⟩
  have hK := hW.rely G r
  have hall : ∀ j, j < 12 → listed.getD j false = true := by
    intro j hj
    have h : j = 0 ∨ j = 1 ∨ j = 2 ∨ j = 3 ∨ j = 4 ∨ j = 5 ∨ j = 6 ∨ j = 7 ∨ j = 8 ∨ j = 9 ∨ j = 10 ∨ j = 11 := by omega
    rcases h with rfl | rfl | rfl | rfl | rfl | rfl | rfl | rfl | rfl | rfl | rfl | rfl
    · exact hdep ⟨0, .phase⟩ (by simp) rfl
    · exact hdep ⟨1, .phase⟩ (by simp) rfl
    · exact hdep ⟨2, .phase⟩ (by simp) rfl
    · exact hdep ⟨3, .phase⟩ (by simp) rfl
    · exact hdep ⟨4, .phase⟩ (by simp) rfl
    · exact hdep ⟨5, .phase⟩ (by simp) rfl
    · exact hdep ⟨6, .phase⟩ (by simp) rfl
    · exact hdep ⟨7, .phase⟩ (by simp) rfl
    · exact hdep ⟨8, .phase⟩ (by simp) rfl
    · exact hdep ⟨9, .phase⟩ (by simp) rfl
    · exact hdep ⟨10, .phase⟩ (by simp) rfl
    · exact hdep ⟨11, .data⟩ (by simp) rfl
  have hro := (f10 d10).rely r
  have hrow' := hro.1
  have hc : w₁.cell? ⟨C, i, none⟩ = some u := (r.cell i hW.mi).trans (hrow hun')
  have hfz : w₁.frozen? ⟨C, i, none⟩ = false := (hK.rowCell G).choose_spec.2
  obtain ⟨sa, sl, sc, hv⟩ : ∃ sa sl sc, v23 = .slice sa sl sc := by
    rcases hro.1.2 with ⟨e, _⟩ | ⟨g, cap, cur, e, _⟩
    · exact ⟨_, _, _, e⟩
    · exact ⟨_, _, _, e⟩
  subst hv
  have hgS := G.hS
  have hgW := G.hW
  have hgC := G.hC
  have hevs := events_store_slice Tryz.prog w₁ #[] ⟨C, i, none⟩ .plain sa sl sc
  generalize hLx : Go.Conc.listed _ _ _ _ _ = Lx
  have hev : ∀ e ∈ Lx, EvX Shun Wg C Low false γ e ∧ e.loc ≠ .mark .disable ∧ e.loc ≠ .mark .enable := by
    intro e he
    rw [← hLx] at he
    have hm' := mem_listed he
    clear hLx
    simp [go_sem, storedEv, *] at hm'
    subst hm'
    exact evX_cell _ _ (.inl ⟨_, rfl, .inr ⟨rfl, hK.mi⟩⟩)
  clear hLx
  go_simp
  have hA := aside_setCell w₁ ⟨C, i, none⟩ (.slice sa sl sc)
  have hfx := FX.of_cell (w := w₁) (γ := γ) G.hCW hK.pay hK.mi (.slice sa sl sc)
  refine ⟨γ, ⟨rfl, rfl⟩, ⟨hfx, hA.block Wg (Ne.symm G.hCW), fun b h => .inl h, rfl, (deafBehind_still (fun e he => (hev e he).2) _).symm, fun e he => (hev e he).1⟩, by simp [hsz], hK.keep G (by rw [hA.size]; exact hK.size) (fun _ h => h) hK.mi (fun b _ _ h2 _ => hA.block b h2) (hfx.live hK.live) (hfx.pay hK.pay), ?_⟩
  have hset : ∀ q, (listed.setIfInBounds 12 true).getD q false = if q = 12 then true else listed.getD q false := fun q => getD_set (by omega)
  have hmono : ∀ q, q ≠ 12 → (listed.setIfInBounds 12 true).getD q false = listed.getD q false := fun q hq => by rw [hset q, if_neg hq]
  have hkeep : RowO Sz γ (w₁.setCell ⟨C, i, none⟩ (.slice sa sl sc)) (.slice sa sl sc) (xs ++ [bits .and .u64 av bv]) := hro.keep (fun _ h => h) fun g hg => hA.block g (by have := (hro.lt g hg).1; show g ≠ C; omega)
  refine ⟨fun _ j hj => (by rw [hmono j (by omega)]; exact hall j hj), fun e => (by rw [hset 12, if_pos rfl] at e; cases e), fun e => (by rw [hmono 10 (by omega), d10] at e; cases e), fun _ => ⟨_, cell_set_row hK.pay G.hi _, hkeep⟩,
    fun _ => ⟨by rw [hmono 5 (by omega)]; exact hall 5 (by omega), by rw [hmono 9 (by omega)]; exact hall 9 (by omega)⟩, .slice (some ⟨C, 0, none⟩) n n, .int .i64 i, .slice (some ⟨C, 0, none⟩) n n, .int .i64 i, .pointer (some ⟨C, i, none⟩), u, .int .u64 av, .int .u64 bv, .int .u64 (bits .and .u64 av bv), v22, .slice sa sl sc, .pointer (some ⟨C, i, none⟩), by rfl, ?_⟩
  refine ⟨fun _ => rfl, fun _ => rfl, fun _ => rfl, fun _ => rfl, fun _ => rfl, fun _ => rfl, fun _ => rfl, fun _ => rfl, fun _ => rfl, fun _ => rfl,
    fun e => ?_, fun _ => hkeep⟩
  obtain ⟨b1, e1, e2, e3, e4, e5⟩ := f9 (by rw [hmono 9 (by omega)] at e; exact e)
  exact ⟨b1, e1, e2, e3, e4, (hA.block b1 (by show b1 ≠ C; omega)).trans ((r.own b1 e2).trans e5)⟩
end
end Go.Proofs.YtafhpbghogdipaaGreatDoor
