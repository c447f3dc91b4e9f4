/- The worker's walk: from its birth, over its loop, to the release that Done says. -/
import Derived.Test.YtafhpbghogdipaaGreatDoorCw10
namespace Go.Proofs.YtafhpbghogdipaaGreatDoor
open Go.Conc Go.ConcN Go.RowKit Go.Conc.Lib Go.ConcR.Gen Go.ConcN.Gen
open Go.ConcR (KK wgBlock WgAt stA smA rd wr mk Payload DC0 Bk)
set_option maxHeartbeats 8000000
set_option maxRecDepth 100000
set_option linter.unusedVariables false

theorem ops4_after : ∀ q, q < 13 → ∃ o, ops4[q]? = some o ∧ ∀ e ∈ o.after, e.on < q := by
  intro q hq
  have h : q = 0 ∨ q = 1 ∨ q = 2 ∨ q = 3 ∨ q = 4 ∨ q = 5 ∨ q = 6 ∨ q = 7 ∨ q = 8 ∨ q = 9 ∨ q = 10 ∨ q = 11 ∨ q = 12 := by omega
  rcases h with rfl | rfl | rfl | rfl | rfl | rfl | rfl | rfl | rfl | rfl | rfl | rfl | rfl
  · exact ⟨_, by simp only [ops4, R4, L26, body26, Tryz.f29, Option.getD_some]; rfl, by simp⟩
  · exact ⟨_, by simp only [ops4, R4, L26, body26, Tryz.f29, Option.getD_some]; rfl, by simp⟩
  · exact ⟨_, by simp only [ops4, R4, L26, body26, Tryz.f29, Option.getD_some]; rfl, by simp⟩
  · exact ⟨_, by simp only [ops4, R4, L26, body26, Tryz.f29, Option.getD_some]; rfl, by simp⟩
  · exact ⟨_, by simp only [ops4, R4, L26, body26, Tryz.f29, Option.getD_some]; rfl, by simp⟩
  · exact ⟨_, by simp only [ops4, R4, L26, body26, Tryz.f29, Option.getD_some]; rfl, by simp⟩
  · exact ⟨_, by simp only [ops4, R4, L26, body26, Tryz.f29, Option.getD_some]; rfl, by simp⟩
  · exact ⟨_, by simp only [ops4, R4, L26, body26, Tryz.f29, Option.getD_some]; rfl, by simp⟩
  · exact ⟨_, by simp only [ops4, R4, L26, body26, Tryz.f29, Option.getD_some]; rfl, by simp⟩
  · exact ⟨_, by simp only [ops4, R4, L26, body26, Tryz.f29, Option.getD_some]; rfl, by simp⟩
  · exact ⟨_, by simp only [ops4, R4, L26, body26, Tryz.f29, Option.getD_some]; rfl, by simp⟩
  · exact ⟨_, by simp only [ops4, R4, L26, body26, Tryz.f29, Option.getD_some]; rfl, by simp⟩
  · exact ⟨_, by simp only [ops4, R4, L26, body26, Tryz.f29, Option.getD_some]; rfl, by simp⟩
theorem ops4_size : ops4.size = 13 := by simp only [ops4, R4, L26, body26, Tryz.f29, Option.getD_some]; rfl
section
variable {Shun : Loc → Prop} {Wg C n Low Sz By Br Bi Ba : Nat} {A : Option Addr} {ny cy : Nat} {ys : List Int} {i : Nat} {av bv : Int} {k : Nat} {t5 t10 t11 t12 t25 : Value} {ds : List Deferred} {u : Value} {xs : List Int}
  {md : Region.Mode} {listed : Array Bool} {γ : Gh} {a : Act} {w : World}
theorem all_listed (hr : Region.ready md ops4 listed = []) (hsz : listed.size = 13) : ∀ q, q ≤ 13 → ∀ j, j < q → listed.getD j false = true := by
  intro q
  induction q with
  | zero => intro _ j hj; omega
  | succ q ih =>
    intro hq j hj
    have hlow := ih (by omega)
    by_cases e : j = q
    · subst e
      cases hh : listed.getD j false with
      | true => rfl
      | false =>
        obtain ⟨o, ho, hd⟩ := ops4_after j (by omega)
        have : j ∈ Region.ready md ops4 listed := mem_ready.2 ⟨by
          have hjs : j < listed.size := by omega
          simp [hjs] at hh ⊢
          exact hh, o, ho, fun e he _ => hlow _ (hd e he)⟩
        rw [hr] at this
        cases this
    · exact hlow j (by omega)
theorem r4_step (G : GeoW Shun Wg C n Low Sz By Br Bi Ba i) (hx : xs.length ≤ 1048576) (h : I4 Shun Wg C n Low Sz By Br Bi Ba A ny cy ys i av bv k t5 t10 t11 t12 t25 ds u xs listed γ a w) {q : Nat} (hm : q ∈ Region.ready md ops4 listed) : Step4 Shun Wg C n Low Sz By Br Bi Ba A ny cy ys i av bv k t5 t10 t11 t12 t25 ds u xs listed γ a w q := by
  have hq : q < 13 := by
    obtain ⟨_, o, ho, _⟩ := mem_ready.1 hm
    have := (Array.getElem?_eq_some_iff.1 ho).1
    rw [ops4_size] at this
    exact this
  have h0 : q = 0 ∨ q = 1 ∨ q = 2 ∨ q = 3 ∨ q = 4 ∨ q = 5 ∨ q = 6 ∨ q = 7 ∨ q = 8 ∨ q = 9 ∨ q = 10 ∨ q = 11 ∨ q = 12 := by omega
  rcases h0 with rfl | rfl | rfl | rfl | rfl | rfl | rfl | rfl | rfl | rfl | rfl | rfl | rfl
  · exact r4_0 G hx h hm
  · exact r4_1 G hx h hm
  · exact r4_2 G hx h hm
  · exact r4_3 G hx h hm
  · exact r4_4 G hx h hm
  · exact r4_5 G hx h hm
  · exact r4_6 G hx h hm
  · exact r4_7 G hx h hm
  · exact r4_8 G hx h hm
  · exact r4_9 G hx h hm
  · exact r4_10 G hx h hm
  · exact r4_11 G hx h hm
  · exact r4_12 G hx h hm
/-- The region as a whole. -/
theorem r4_region (Gw : GeoW Shun Wg C n Low Sz By Br Bi Ba i) (hx : xs.length ≤ 1048576) {Stop : Gh → Goroutine → World → Prop} {m id : Nat} {b : Frame} {kk : List Item} {cs : List Frame} (hb : b.fn = 29) (hk : b.kind ≠ .early)
    (hF : WK Shun Wg C n Low Sz By Br Bi Ba A ny cy ys i av γ w ∧ w.cell? ⟨C, i, none⟩ = some u ∧ RowO Sz γ w u xs) {v13 v14 v15 v16 v17 v18 v19 v20 v21 v22 v23 v24 : Value}
    (hT : ∀ (γ' : Gh) (w' : World) (u' : Value) (v13' v14' v15' v16' v17' v18' v19' v20' v21' v22' v23' v24' : Value), γ'.deaf = γ.deaf → γ'.mc = γ.mc → WK Shun Wg C n Low Sz By Br Bi Ba A ny cy ys i av γ' w' ∧ w'.cell? ⟨C, i, none⟩ = some u' ∧ RowO Sz γ' w' u' (xs ++ [bits .and .u64 av bv]) →
      GX Tryz.prog false (RX Tryz.link.tWg Wg C n Low) (DX Shun Tryz.link.tWg Wg C n Low false) Stop m γ' (G (b.at ⟨#[.pointer (some ⟨Wg, 0, none⟩), .pointer (some ⟨By, 0, none⟩), .pointer (some ⟨Br, 0, none⟩), .pointer (some ⟨Bi, 0, none⟩), .pointer (some ⟨Ba, 0, none⟩), t5, .int .u64 bv, .slice A ny cy, .int .i64 ny, .int .i64 k, t10, t11, t12, v13', v14', v15', v16', v17', v18', v19', v20', v21', v22', v23', v24', t25], ds⟩ (.inRegion ops4 [] :: kk)) cs) w') :
    GX Tryz.prog false (RX Tryz.link.tWg Wg C n Low) (DX Shun Tryz.link.tWg Wg C n Low false) Stop (13 + m + 1) γ (G (b.at ⟨#[.pointer (some ⟨Wg, 0, none⟩), .pointer (some ⟨By, 0, none⟩), .pointer (some ⟨Br, 0, none⟩), .pointer (some ⟨Bi, 0, none⟩), .pointer (some ⟨Ba, 0, none⟩), t5, .int .u64 bv, .slice A ny cy, .int .i64 ny, .int .i64 k, t10, t11, t12, v13, v14, v15, v16, v17, v18, v19, v20, v21, v22, v23, v24, t25], ds⟩ (.code (.region id ops4 true) :: kk)) cs) w := by
  have h := GX.region_draw (P := Tryz.prog) (main := false) (Shun := Shun) (ty := Tryz.link.tWg) (Wg := Wg) (C := C) (n := n) (Low := Low) (Stop := Stop) (ops := ops4) (b := b) (k := kk) (cs := cs) (m := m) (γ := γ) (w := w) (id := id) (a := ⟨#[.pointer (some ⟨Wg, 0, none⟩), .pointer (some ⟨By, 0, none⟩), .pointer (some ⟨Br, 0, none⟩), .pointer (some ⟨Bi, 0, none⟩), .pointer (some ⟨Ba, 0, none⟩), t5, .int .u64 bv, .slice A ny cy, .int .i64 ny, .int .i64 k, t10, t11, t12, v13, v14, v15, v16, v17, v18, v19, v20, v21, v22, v23, v24, t25], ds⟩)
    (K := fun γ' a' w' => γ'.deaf = γ.deaf ∧ γ'.mc = γ.mc ∧ ∃ (u' : Value) (v13' v14' v15' v16' v17' v18' v19' v20' v21' v22' v23' v24' : Value), a' = ⟨#[.pointer (some ⟨Wg, 0, none⟩), .pointer (some ⟨By, 0, none⟩), .pointer (some ⟨Br, 0, none⟩), .pointer (some ⟨Bi, 0, none⟩), .pointer (some ⟨Ba, 0, none⟩), t5, .int .u64 bv, .slice A ny cy, .int .i64 ny, .int .i64 k, t10, t11, t12, v13', v14', v15', v16', v17', v18', v19', v20', v21', v22', v23', v24', t25], ds⟩ ∧ WK Shun Wg C n Low Sz By Br Bi Ba A ny cy ys i av γ' w' ∧ w'.cell? ⟨C, i, none⟩ = some u' ∧ RowO Sz γ' w' u' (xs ++ [bits .and .u64 av bv]))
    hk (fun γ' a' w' ⟨k1, k2, u', v13', v14', v15', v16', v17', v18', v19', v20', v21', v22', v23', v24', e, hh⟩ => by subst e; exact hT _ _ _ _ _ _ _ _ _ _ _ _ _ _ _ k1 k2 hh) ?_
  · rwa [ops4_size] at h
  · intro md w₁ r
    have hW := hF.1.rely Gw r
    rw [ops4_size, hb]
    refine anyX_of_inv (fun listed γ' a w => (γ'.deaf = γ.deaf ∧ γ'.mc = γ.mc) ∧ I4 Shun Wg C n Low Sz By Br Bi Ba A ny cy ys i av bv k t5 t10 t11 t12 t25 ds u xs listed γ' a w) (fun γ w => RX.refl γ w) (fun listed γ1 a w q hk hm => ?_) (fun listed γ1 a w hk hr => ?_) 13 _ _ _ _ (by decide) ⟨⟨rfl, rfl⟩, ?_⟩
    · obtain ⟨⟨k1, k2⟩, hi⟩ := hk
      obtain ⟨o, h1, h2, h3⟩ := r4_step Gw hx hi hm
      exact ⟨o, h1, h2, fun w₁ h₁ => uponK_mono (fun a' w' ⟨γ', ⟨e1, e2⟩, hd, hi'⟩ => ⟨γ', hd, ⟨e1.trans k1, e2.trans k2⟩, hi'⟩) (h3 w₁ h₁)⟩
    · obtain ⟨⟨k1, k2⟩, hi⟩ := hk
      obtain ⟨hsz, hW', hdone, hrow, hrowo, hfin, h10, v13, v14, v15, v16, v17, v18, v19, v20, v21, v22, v23, v24, rfl, _⟩ := hi
      obtain ⟨u', h1, h2⟩ := hfin (all_listed hr hsz 13 (Nat.le_refl _) 12 (by omega))
      exact ⟨k1, k2, u', _, _, _, _, _, _, _, _, _, _, _, _, rfl, hW', h1, h2⟩
    · have hz : ∀ q, (Array.replicate 13 false).getD q false = false := by
        intro q
        rcases Nat.lt_or_ge q 13 with h | h
        · simp [h]
        · simp [Nat.not_lt.2 h]
      have hno : ∀ (q : Nat) {X : Prop}, (Array.replicate 13 false).getD q false = true → X := fun q X e => by rw [hz q] at e; cases e
      have hat : RX Tryz.link.tWg Wg C n Low γ w₁ { w₁ with drawn := w₁.drawn + 1 } := RX.at γ w₁ _
      have hW2 : WK Shun Wg C n Low Sz By Br Bi Ba A ny cy ys i av γ { w₁ with drawn := w₁.drawn + 1 } := hW.rely Gw (RX.at γ w₁ _)
      refine ⟨by simp, hW2, fun e => hno _ e, fun _ => (r.cell i hF.1.mi).trans hF.2.1, fun _ => (hF.2.2.rely r).rely hat, fun e => hno _ e, fun e => hno _ e, _, _, _, _, _, _, _, _, _, _, _, _, rfl, fun e => hno _ e, fun e => hno _ e, fun e => hno _ e, fun e => hno _ e, fun e => hno _ e, fun e => hno _ e, fun e => hno _ e, fun e => hno _ e, fun e => hno _ e, fun e => hno _ e, fun e => hno _ e, fun e => hno _ e⟩
end

section
variable (Wg By Br Bi Ba : Nat)
/-- The call that a go statement holds: the group, &y, &rows, &i, &a. -/
def call26 : Deferred := { target := .fn (.func 29) #[.pointer (some ⟨Wg, 0, none⟩), .pointer (some ⟨By, 0, none⟩), .pointer (some ⟨Br, 0, none⟩), .pointer (some ⟨Bi, 0, none⟩), .pointer (some ⟨Ba, 0, none⟩)], args := #[] }
end
def b26 : Frame := baseD 29
theorem base_ne26 : b26.kind ≠ .early := by decide
noncomputable def bot : Frame := { (default : Frame) with fn := Tryz.prog.funcs.size, defers := [], mode := .panicking [goexitEntry] }
theorem quitsTail (T : Array Value) : QuitsD Tryz.prog 2 0 (G { b26.at ⟨T, []⟩ [] with mode := .returning } [bot]) := by
  refine QuitsD.ctl (g' := G bot []) rfl (fun w => ?_) ?_
  · simp [G, stepG, unwind, doReturn, results, Frame.at, b26, baseD, bot, Tryz.func29, Tryz.f29, seen, GStep.after, goexitEntry]
  refine QuitsD.ctl (g' := { G bot [] with status := .finished }) rfl (fun w => ?_) ⟨rfl, rfl⟩
  simp [G, stepG, unwind, bot, goexitEntry, Frame.catches]
  rfl
theorem born_step (Wg By Br Bi Ba : Nat) (w : World) : stepG Tryz.prog false (born Tryz.prog (call26 Wg By Br Bi Ba)) w =
    .go (G (b26.at ⟨#[.pointer (some ⟨Wg, 0, none⟩), .pointer (some ⟨By, 0, none⟩), .pointer (some ⟨Br, 0, none⟩), .pointer (some ⟨Bi, 0, none⟩), .pointer (some ⟨Ba, 0, none⟩), undef, undef, undef, undef, undef, undef, undef, undef, undef, undef, undef, undef, undef, undef, undef, undef, undef, undef, undef, undef, undef], []⟩ [.code body26]) [bot]) w #[] := by
  simp [born, call26, stepG, unwind, callDeferred, invoke, callFunc, Tryz.func29, Tryz.f29, seen, GStep.after, G, Frame.enter, Frame.at, b26, baseD, bot, body26]

/-- The first k common members of a row. -/
def rowK (av : Int) (ys : List Int) (k : Nat) : List Int := (List.range k).map fun j => bits .and .u64 av (ys.getD j 0)
theorem rowK_succ (av : Int) (ys : List Int) (k : Nat) : rowK av ys (k + 1) = rowK av ys k ++ [bits .and .u64 av (ys.getD k 0)] := by simp [rowK, List.range_succ]
theorem rowK_len (av : Int) (ys : List Int) (k : Nat) : (rowK av ys k).length = k := by simp [rowK]
/-- What a worker leaves. -/
def FinR (C Low : Nat) (rows : Nat → List Int) (i : Nat) (γ : Gh) (w : World) : Prop := ∃ u, w.cell? ⟨C, i, none⟩ = some u ∧ RowO Low γ w u (rows i)
section
variable {Shun : Loc → Prop} {Wg C n Low Sz By Br Bi Ba : Nat} {A : Option Addr} {ny cy : Nat} {ys : List Int} {i : Nat} {av : Int} {γ : Gh} {w w₁ : World} {u : Value} {xs : List Int}
theorem FinR.rely {rows : Nat → List Int} (r : RX Tryz.link.tWg Wg C n Low γ w w₁) (hm : γ.mc i) (h : FinR C Low rows i γ w) : FinR C Low rows i γ w₁ := by
  obtain ⟨u, h1, h2⟩ := h
  exact ⟨u, (r.cell i hm).trans h1, h2.rely r⟩
theorem wr_rely (Gw : GeoW Shun Wg C n Low Sz By Br Bi Ba i) (h : WK Shun Wg C n Low Sz By Br Bi Ba A ny cy ys i av γ w ∧ w.cell? ⟨C, i, none⟩ = some u ∧ RowO Sz γ w u xs) (r : RX Tryz.link.tWg Wg C n Low γ w w₁) :
    WK Shun Wg C n Low Sz By Br Bi Ba A ny cy ys i av γ w₁ ∧ w₁.cell? ⟨C, i, none⟩ = some u ∧ RowO Sz γ w₁ u xs := ⟨h.1.rely Gw r, (r.cell i h.1.mi).trans h.2.1, h.2.2.rely r⟩
theorem evX_of_evW {main : Bool} {k : Nat} {e : Event} (h : EvW Wg (fun _ _ => False) (fun _ _ => False) k e) : EvX Shun Wg C Low main γ e := by
  refine ⟨fun x hx => ?_, h.2.2.2⟩
  rcases (h.1 0 "").2 x hx with ⟨h1, h2, h3⟩ | h1 | ⟨h1, _⟩
  · exact .inl ⟨h1, h2, fun e => absurd e h3⟩
  · exact h1.elim
  · exact h1.elim
/-- Done, up to its release. -/
theorem done_part (Gw : GeoW Shun Wg C n Low Sz By Br Bi Ba i) {rows : Nat → List Int} (hd : γ.deaf = 0) (hmi : ∀ i', γ.mc i' → i' = i) (T : Array Value)
    (hF : WK Shun Wg C n Low Sz By Br Bi Ba A ny cy ys i av γ w ∧ w.cell? ⟨C, i, none⟩ = some u ∧ RowO Sz γ w u (rows i)) :
    GX Tryz.prog false (RX Tryz.link.tWg Wg C n Low) (DX Shun Tryz.link.tWg Wg C n Low false) (StopR Tryz.prog Tryz.link.tWg Wg C n Low (FinR C Low rows) i) 23 γ (G ((baseD 30).at ⟨#[.pointer (some ⟨Wg, 0, none⟩), undef, undef, undef], []⟩ [.code (body_done Tryz.link)]) [{ b26.at ⟨T, []⟩ [] with mode := .returning }, bot]) w := by
  have hA := @doneN _ Tryz.link Tryz.prog Tryz.wgLib (fun _ _ => False) (fun _ _ => False) Wg C n Low (i + 1) u { b26.at ⟨T, []⟩ [] with mode := .returning } [bot] 2 rfl (quitsTail T) w ⟨hF.1.live, hF.2.1⟩
  have hS := Gw.hS
  refine GX.of_goes (F := fun w => RowO Low γ w u (rows i)) (fun _ _ r => r.rw hF.1.mi) (fun _ _ h r => h.rely r) (fun w w' es h hD => ?_) (fun g w h hs => ⟨hd, ⟨u, hs.2.1, h⟩, u, hs⟩) ⟨owns_less hF.2.2.1 hS, hF.2.2.2⟩ hA
  obtain ⟨ha, hev⟩ := hD
  refine ⟨⟨⟨ha.tape, ha.os, ha.output, Nat.le_of_eq ha.size.symm, fun b _ h1 _ _ => ha.block b h1, fun ⟨st, sm, hl⟩ => ⟨st, sm, hl.of_block (ha.block Wg (Ne.symm Gw.hCW))⟩, ha.pay, fun i' hi' => ha.cells i' fun e => hi' ?_⟩, ha.block Wg (Ne.symm Gw.hCW), fun b h => .inl h, rfl, ?_, fun e he => evX_of_evW (hev e he)⟩, ?_⟩
  · have e' : i' = i := e
    rw [e']; exact hF.1.mi
  · exact (deafBehind_still (fun e he => ⟨(hev e he).2.1, (hev e he).2.2.1⟩) _).symm
  · exact h.keep (fun _ x => x) fun g hg => ha.block g (by have := (h.lt g hg).1; have := Gw.hC; omega)

set_option maxRecDepth 100000 in
/-- The loop: r elements are still to come. -/
theorem worker_loop (Gw : GeoW Shun Wg C n Low Sz By Br Bi Ba i) {rows : Nat → List Int} (hrow : rows i = rowK av ys ny) (hny : ny ≤ 1048576) (hmi : ∀ i', i' = i → i' = i) : ∀ (r k : Nat), k + r = ny → ∀ (γ : Gh) (w : World) (u t5 t6 t10 t11 t12 t13 t14 t15 t16 t17 t18 t19 t20 t21 t22 t23 t24 t25 : Value), γ.deaf = 0 → (∀ i', γ.mc i' → i' = i) →
    WK Shun Wg C n Low Sz By Br Bi Ba A ny cy ys i av γ w ∧ w.cell? ⟨C, i, none⟩ = some u ∧ RowO Sz γ w u (rowK av ys k) →
    GX Tryz.prog false (RX Tryz.link.tWg Wg C n Low) (DX Shun Tryz.link.tWg Wg C n Low false) (StopR Tryz.prog Tryz.link.tWg Wg C n Low (FinR C Low rows) i) (r * 100 + 100) γ (G (b26.at ⟨#[.pointer (some ⟨Wg, 0, none⟩), .pointer (some ⟨By, 0, none⟩), .pointer (some ⟨Br, 0, none⟩), .pointer (some ⟨Bi, 0, none⟩), .pointer (some ⟨Ba, 0, none⟩), t5, t6, .slice A ny cy, .int .i64 ny, .int .i64 k, t10, t11, t12, t13, t14, t15, t16, t17, t18, t19, t20, t21, t22, t23, t24, t25], [dcall 30 #[.pointer (some ⟨Wg, 0, none⟩)]]⟩ [.code L26, .inLoop L26, .inBlock 0]) [bot]) w := by
  intro r
  induction r with
  | zero =>
    intro k hk γ w u t5 t6 t10 t11 t12 t13 t14 t15 t16 t17 t18 t19 t20 t21 t22 t23 t24 t25 hd hm hF
    obtain rfl : k = ny := by omega
    have hnl : ¬ ((k : Int) < (k : Int)) := by omega
    have hA := fun (w : World) (T : Array Value) (u : Value) => done_part (γ := γ) (w := w) (u := u) (A := A) (ny := k) (cy := cy) (ys := ys) (av := av) Gw (rows := rows) hd hm T
    rw [← hrow] at hF
    simp only [L26, body26, body_done, doneFn, Tryz.f29, Option.getD_some] at hA ⊢
    refine GX.le (GX.silent (k := 20) (m := 23) ?_) (by omega)
    u_c stepG_seq (wr_rely Gw) hF
    u_reg (wr_rely Gw) hF
    u_op (wr_rely Gw) hF
    u_c stepG_region_end (wr_rely Gw) hF
    u_c stepG_seq (wr_rely Gw) hF
    u_cond false (wr_rely Gw) hF
    u_exit (wr_rely Gw) hF
    u_c stepG_end (wr_rely Gw) hF
    u_in (wr_rely Gw) hF
    rw [stepG_unwind_enter rfl Tryz.func30 (nm_done Tryz.link) rfl]
    simp only [goes_go]
    refine ⟨by u_nil, ?_⟩
    walk_nrmf Tryz.f30
    refine Goes.stop (fun w₁ h₁ => ?_)
    replace hF := (wr_rely Gw) hF h₁
    exact hA _ _ _ hF
  | succ r ih =>
    intro k hk γ w u t5 t6 t10 t11 t12 t13 t14 t15 t16 t17 t18 t19 t20 t21 t22 t23 t24 t25 hd hm hF
    have hkn : k < ny := by omega
    have hlt : (k : Int) < (ny : Int) := by omega
    have hk0 : (0 : Int) ≤ (k : Int) := by omega
    have hwr : IntKind.i64.wrap ((k : Int) + 1) = ((k + 1 : Nat) : Int) := by rw [IntKind.wrap_i64]; omega
    have hR := fun (w : World) (m : Nat) (kk : List Item) (t5 t10 t11 t12 t25 : Value) => r4_region (γ := γ) (w := w) (u := u) (bv := ys.getD k 0) (k := k) (xs := rowK av ys k) (t5 := t5) (t10 := t10) (t11 := t11) (t12 := t12) (t25 := t25) (ds := [dcall 30 #[.pointer (some ⟨Wg, 0, none⟩)]]) (Stop := StopR Tryz.prog Tryz.link.tWg Wg C n Low (FinR C Low rows) i) (m := m) (id := 4) (b := b26) (kk := kk) (cs := [bot]) (A := A) (ny := ny) (cy := cy) (ys := ys) (av := av) Gw (by rw [rowK_len]; omega) rfl (base_ne26)
    simp only [ops4, R4, L26, body26, Tryz.f29, Option.getD_some] at hR ih ⊢
    obtain ⟨be, off, rfl, hel⟩ : ∃ be off, A = some ⟨be, off, none⟩ ∧ True := by
      obtain ⟨b, off, e, _⟩ := hF.1.el k hkn
      exact ⟨b, off, e, trivial⟩
    refine GX.le (GX.silent (k := 20) (m := r * 100 + 160) ?_) (by omega)
    u_c stepG_seq (wr_rely Gw) hF
    u_reg (wr_rely Gw) hF
    u_op (wr_rely Gw) hF
    u_c stepG_region_end (wr_rely Gw) hF
    u_c stepG_seq (wr_rely Gw) hF
    u_cond true (wr_rely Gw) hF
    u_c stepG_skip (wr_rely Gw) hF
    u_c stepG_seq (wr_rely Gw) hF
    u_c stepG_block (wr_rely Gw) hF
    u_c stepG_seq (wr_rely Gw) hF
    u_reg (wr_rely Gw) hF
    u_op (wr_rely Gw) hF
    refine Goes.stop (fun w₁ h₁ => ?_)
    replace hF := (wr_rely Gw) hF h₁
    clear h₁
    -- the element is read
    refine GX.step rfl (fun w₁ h₁ => ?_)
    replace hF := (wr_rely Gw) hF h₁
    clear h₁
    obtain ⟨be', off', e1, hro, hce⟩ := hF.1.el k hkn
    cases e1
    refine goes_oper_k rfl rfl (by decide) (fun K hK => ?_)
    go_simp
    refine hK _ _ ⟨γ, DX.reads fun e he => ?_, ?_⟩
    · have hm' := mem_listed he
      simp [go_sem, *] at hm'
      subst hm'
      exact evX_cell _ _ (.inr ⟨hro, rfl⟩)
    clear hK K hro hce
    refine GX.le (GX.silent (k := 4) (m := 13 + (r * 100 + 130) + 1) ?_) (by omega)
    u_op (wr_rely Gw) hF
    u_c stepG_region_end (wr_rely Gw) hF
    refine Goes.stop (fun w₁ h₁ => ?_)
    replace hF := (wr_rely Gw) hF h₁
    clear h₁
    refine hR w₁ _ _ _ _ _ _ _ hF ?_
    clear hR hF
    intro γ' w' u' v13 v14 v15 v16 v17 v18 v19 v20 v21 v22 v23 v24 e1 e2 hF
    refine GX.le (GX.silent (k := 12) (m := r * 100 + 100) ?_) (by omega)
    u_c stepG_region_end (wr_rely Gw) hF
    u_c stepG_inBlock (wr_rely Gw) hF
    u_reg (wr_rely Gw) hF
    u_op (wr_rely Gw) hF
    u_op (wr_rely Gw) hF
    u_c stepG_region_end (wr_rely Gw) hF
    u_c stepG_inLoop (wr_rely Gw) hF
    refine Goes.stop (fun w₁ h₁ => ?_)
    replace hF := (wr_rely Gw) hF h₁
    rw [← rowK_succ] at hF
    exact ih (k + 1) (by omega) γ' w₁ u' _ _ _ _ _ _ _ _ _ _ _ _ _ _ _ _ _ _ (e1.trans hd) (fun i' hi' => hm i' (e2 ▸ hi')) hF
end
end Go.Proofs.YtafhpbghogdipaaGreatDoor
