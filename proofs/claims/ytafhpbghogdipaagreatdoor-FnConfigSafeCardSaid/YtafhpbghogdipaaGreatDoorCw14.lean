/- The starter's rounds, and its way to Wait. -/
import Derived.Test.YtafhpbghogdipaaGreatDoorCw13
import Derived.Test.YtafhpbghogdipaaGreatDoorCw8
namespace Go.Proofs.YtafhpbghogdipaaGreatDoor
open Go.Conc Go.ConcN Go.RowKit Go.Conc.Lib Go.ConcR.Gen Go.ConcN.Gen
open Go.ConcR (KK wgBlock WgAt stA smA rd wr mk Payload DC0 Bk)
set_option maxHeartbeats 8000000
set_option maxRecDepth 100000
set_option linter.unusedVariables false

/-! ### Wait's stops grow with the anchor and the end -/
section
variable [Payload] {P : Program} {Shun : Loc → Prop} {ty : TypeId} {Wg C n Low : Nat} {AnchW AnchW' Post Post' : Gh → Goroutine → World → Prop}
omit [Payload] in
theorem StAcq.mono (hP : ∀ γ g w, Post γ g w → Post' γ g w) {γ : Gh} {g : Goroutine} {w : World} (h : StAcq P Wg Post γ g w) : StAcq P Wg Post' γ g w := by
  obtain ⟨h1, h2, g', h3, h4, h5⟩ := h
  exact ⟨h1, h2, g', h3, h4, hP _ _ _ h5⟩
theorem StW4.mono (hP : ∀ γ g w, Post γ g w → Post' γ g w) {γ : Gh} {g : Goroutine} {w : World} (h : StW4 P Shun ty Wg C n Low Post γ g w) : StW4 P Shun ty Wg C n Low Post' γ g w := by
  obtain ⟨h1, h2⟩ := h
  refine ⟨h1, fun hw => ?_⟩
  obtain ⟨g', h3, m, h4⟩ := h2 hw
  exact ⟨g', h3, m, h4.mono fun _ _ _ h => h.mono hP⟩
theorem StW3.mono (hP : ∀ γ g w, Post γ g w → Post' γ g w) {γ : Gh} {g : Goroutine} {w : World} (h : StW3 P Shun ty Wg C n Low Post γ g w) : StW3 P Shun ty Wg C n Low Post' γ g w := by
  obtain ⟨h1, h2, h3, h4⟩ := h
  refine ⟨h1, h2, h3, fun hw => ?_⟩
  obtain ⟨g', h5, m, h6⟩ := h4 hw
  exact ⟨g', h5, m, h6.mono fun _ _ _ h => h.mono hP⟩
theorem StW2.mono (hA : ∀ γ g w, AnchW γ g w → AnchW' γ g w) (hP : ∀ γ g w, Post γ g w → Post' γ g w) {vs : Nat} {γ : Gh} {g : Goroutine} {w : World} (h : StW2 P Shun ty Wg C n Low AnchW Post vs γ g w) : StW2 P Shun ty Wg C n Low AnchW' Post' vs γ g w := by
  obtain ⟨h1, h2⟩ := h
  refine ⟨h1, fun v hv hw => ⟨fun e => ?_, fun e => ?_⟩⟩
  · obtain ⟨g', h3, m, h4⟩ := (h2 v hv hw).1 e
    exact ⟨g', h3, m, h4.mono fun _ _ _ h => h.mono hP⟩
  · obtain ⟨g', h3, m, h4⟩ := (h2 v hv hw).2 e
    exact ⟨g', h3, m, h4.mono hA⟩
theorem StW1.mono (hA : ∀ γ g w, AnchW γ g w → AnchW' γ g w) (hP : ∀ γ g w, Post γ g w → Post' γ g w) {γ : Gh} {g : Goroutine} {w : World} (h : StW1 P Shun ty Wg C n Low AnchW Post γ g w) : StW1 P Shun ty Wg C n Low AnchW' Post' γ g w := by
  obtain ⟨h1, h2⟩ := h
  refine ⟨h1, fun v hv hw => ?_⟩
  obtain ⟨g', h3, h4, h5⟩ := h2 v hv hw
  refine ⟨g', h3, fun e => ?_, fun e => ?_⟩
  · obtain ⟨m, h6⟩ := h4 e
    exact ⟨m, h6.mono fun _ _ _ h => h.mono hP⟩
  · obtain ⟨m, h6⟩ := h5 e
    exact ⟨m, h6.mono fun _ _ _ h => h.mono hA hP⟩
end
section
variable [Payload] {P : Program} {Shun : Loc → Prop} {ty : TypeId} {Wg C n Low : Nat} {Fin : Nat → Gh → World → Prop} {AnchW : Gh → Goroutine → World → Prop}
def SpStop (P : Program) (Shun : Loc → Prop) (ty : TypeId) (Wg C n Low : Nat) (Fin : Nat → Gh → World → Prop) (AnchW : Gh → Goroutine → World → Prop) : Nat → Gh → Goroutine → World → Prop
  | 0 => AnchW
  | r + 1 => StA1 P Shun ty Wg C n Low Fin (n - (r + 1)) (SpX P Shun ty Wg C n Low Fin AnchW r)
theorem spx_of {r m : Nat} {γ : Gh} {g : Goroutine} {w : World} (h : GX P true (RX ty Wg C n Low) (DX Shun ty Wg C n Low true) (SpStop P Shun ty Wg C n Low Fin AnchW r) m γ g w) : SpX P Shun ty Wg C n Low Fin AnchW r γ g w := by
  cases r <;> exact ⟨m, h⟩
theorem of_spx {r : Nat} {γ : Gh} {g : Goroutine} {w : World} (h : SpX P Shun ty Wg C n Low Fin AnchW r γ g w) : ∃ m, GX P true (RX ty Wg C n Low) (DX Shun ty Wg C n Low true) (SpStop P Shun ty Wg C n Low Fin AnchW r) m γ g w := by
  cases r <;> exact h
end

section
variable {Shun : Loc → Prop} {Wg C n Low By Br : Nat} {X A : Option Addr} {cx ny cy : Nat} {xs ys : List Int} {cs : List Frame}
noncomputable def ops6 : Array Oper := match R6 with | .seq (.region _ ops _) _ => ops | _ => #[]
noncomputable def R7 : Code := match R6 with | .seq _ r => r | _ => .skip
noncomputable def ops9 : Array Oper := match E16 with | .seq (.region _ ops _) _ => ops | _ => #[]
noncomputable def E10 : Code := match E16 with | .seq _ r => r | _ => .skip

noncomputable def ops7 : Array Oper := match R7 with | .region _ ops _ => ops | _ => #[]

/-- The caller's frame while it waits. -/
noncomputable def waitF (X A : Option Addr) (n cx ny cy By Br Wg k : Nat) (t2 t7 t8 t9 t10 t11 t15 t16 t17 t18 t19 t20 t21 t22 t23 : Value) (l : List Nat) : Frame := b16.at ⟨#[.slice X n cx, .slice A ny cy, t2, .pointer (some ⟨By, 0, none⟩), .slice none 0 0, .pointer (some ⟨Br, 0, none⟩), .pointer (some ⟨Wg, 0, none⟩), t7, t8, t9, t10, t11, .slice X n cx, .int .i64 n, .int .i64 k, t15, t16, t17, t18, t19, t20, t21, t22, t23], []⟩ (.inRegion ops9 l :: .code E10 :: [])
def AnchS (Shun : Loc → Prop) (Wg C n Low By Br : Nat) (X A : Option Addr) (cx ny cy : Nat) (xs ys : List Int) (cs : List Frame) (γ : Gh) (g : Goroutine) (w : World) : Prop :=
  ∃ (t2 t7 t8 t9 t10 t11 t15 t16 t17 t18 t19 t20 t21 t22 t23 : Value), AnchX Tryz.link Wg (fun _ => False) (fun i => n ≤ i) (SK Shun Wg C n Low By Br X A ny cy xs ys n) (waitF X A n cx ny cy By Br Wg n t2 t7 t8 t9 t10 t11 t15 t16 t17 t18 t19 t20 t21 t22 t23 [0]) cs γ g w

set_option maxRecDepth 100000 in
/-- Behind Add: the go statement, and what follows. -/
theorem go_part (Gs : GeoS Shun Wg C n Low By Br) {k r : Nat} (hk : k < n) (hkr : k + (r + 1) = n) (hny : ny ≤ 1048576)
    {m0 : Nat} (ih : ∀ (w : World) (t2 t7 t8 t9 t10 t11 t15 t16 t17 t18 t19 t20 t21 t22 t23 : Value), SK Shun Wg C n Low By Br X A ny cy xs ys (k + 1) w → GX Tryz.prog true (RX Tryz.link.tWg Wg C n Low) (DX Shun Tryz.link.tWg Wg C n Low true) (SpStop Tryz.prog Shun Tryz.link.tWg Wg C n Low (FinR C Low (rowsF xs ys ny)) (AnchS Shun Wg C n Low By Br X A cx ny cy xs ys cs) r) m0 (sgam (k + 1)) (headS X A n cx ny cy By Br Wg (k + 1) t2 t7 t8 t9 t10 t11 t15 t16 t17 t18 t19 t20 t21 t22 t23 cs) w)
    {Bi Ba : Nat} (hBi : Low ≤ Bi) (hBa : Low ≤ Ba) (hne : Bi ≠ Ba) (w : World) (t2 t9 t10 t11 t15 t16 t17 t18 t19 t20 t21 t22 t23 : Value) (hF : SK Shun Wg C n Low By Br X A ny cy xs ys k w ∧ w.cell? ⟨Bi, 0, none⟩ = some (.int .i64 k) ∧ w.cell? ⟨Ba, 0, none⟩ = some (.int .u64 (xs.getD k 0)) ∧ Bi < w.heap.size ∧ Ba < w.heap.size) :
    GX Tryz.prog true (RX Tryz.link.tWg Wg C n Low) (DX Shun Tryz.link.tWg Wg C n Low true) (StGo Tryz.prog Shun Tryz.link.tWg Wg C n Low (FinR C Low (rowsF xs ys ny)) k (SpX Tryz.prog Shun Tryz.link.tWg Wg C n Low (FinR C Low (rowsF xs ys ny)) (AnchS Shun Wg C n Low By Br X A cx ny cy xs ys cs) r)) 20 ⟨fun b => (False ∨ b = Bi) ∨ b = Ba, fun i => k ≤ i, 0⟩ (G (b16.at ⟨#[.slice X n cx, .slice A ny cy, t2, .pointer (some ⟨By, 0, none⟩), .slice none 0 0, .pointer (some ⟨Br, 0, none⟩), .pointer (some ⟨Wg, 0, none⟩), .pointer (some ⟨Bi, 0, none⟩), .pointer (some ⟨Ba, 0, none⟩), t9, t10, t11, .slice X n cx, .int .i64 n, .int .i64 k, t15, t16, t17, t18, t19, t20, t21, t22, t23], []⟩ (.inRegion ops6 [] :: .code R7 :: .inBlock 1 :: .code I16 :: .inLoop L16 :: .inBlock 0 :: .code E16 :: [])) cs) w := by
  have r2 : ∀ {w w1 : World}, SK Shun Wg C n Low By Br X A ny cy xs ys k w ∧ w.cell? ⟨Bi, 0, none⟩ = some (.int .i64 k) ∧ w.cell? ⟨Ba, 0, none⟩ = some (.int .u64 (xs.getD k 0)) ∧ Bi < w.heap.size ∧ Ba < w.heap.size → RX Tryz.link.tWg Wg C n Low ⟨fun b => (False ∨ b = Bi) ∨ b = Ba, fun i => k ≤ i, 0⟩ w w1 →
      SK Shun Wg C n Low By Br X A ny cy xs ys k w1 ∧ w1.cell? ⟨Bi, 0, none⟩ = some (.int .i64 k) ∧ w1.cell? ⟨Ba, 0, none⟩ = some (.int .u64 (xs.getD k 0)) ∧ Bi < w1.heap.size ∧ Ba < w1.heap.size :=
    fun h r => ⟨h.1.rely Gs (fun _ h => h) r, (cell_of_block (r.own Bi (.inl (.inr rfl))) 0).trans h.2.1, (cell_of_block (r.own Ba (.inr rfl)) 0).trans h.2.2.1, Nat.lt_of_lt_of_le h.2.2.2.1 r.size, Nat.lt_of_lt_of_le h.2.2.2.2 r.size⟩
  have hwork : ∀ w : World, SK Shun Wg C n Low By Br X A ny cy xs ys k w ∧ w.cell? ⟨Bi, 0, none⟩ = some (.int .i64 k) ∧ w.cell? ⟨Ba, 0, none⟩ = some (.int .u64 (xs.getD k 0)) ∧ Bi < w.heap.size ∧ Ba < w.heap.size →
      GX Tryz.prog false (RX Tryz.link.tWg Wg C n Low) (DX Shun Tryz.link.tWg Wg C n Low false) (StopR Tryz.prog Tryz.link.tWg Wg C n Low (FinR C Low (rowsF xs ys ny)) k) (ny * 100 + 150) ⟨fun b => (False ∨ b = Bi) ∨ b = Ba, fun i => i = k, 0⟩ (born Tryz.prog (call26 Wg By Br Bi Ba)) w := by
    intro w h
    have hs : Low ≤ max Bi Ba + 1 := by omega
    refine worker_born (Sz := max Bi Ba + 1) (A := A) (ny := ny) (cy := cy) (ys := ys) (av := xs.getD k 0) (u := .slice none 0 0) ⟨Gs.hW, Gs.hC, Gs.hCW, hs, Gs.y1, Gs.r1, ⟨hBi, by omega⟩, ⟨hBa, by omega⟩, hk, Gs.hn⟩ (rows := rowsF xs ys ny) rfl hny _ w rfl (fun i' h => h)
      ⟨⟨by have := h.2.2.2.1; have := h.2.2.2.2; omega, h.1.yb, h.1.rb, h.2.1, h.2.2.1, .inl (.inr rfl), .inr rfl, rfl, h.1.el, h.1.live, h.1.pay⟩, h.1.nil k (Nat.le_refl _) hk, ⟨?_, fun b hb => by simp [Value.ownBlock] at hb⟩⟩
    exact ⟨by simp [rowK], .inl ⟨rfl, by simp [rowK]⟩⟩
  have hnext : ∀ (w : World) (t2 t7 t8 t9 t10 t11 t15 t16 t17 t18 t19 t20 t21 t22 t23 : Value), SK Shun Wg C n Low By Br X A ny cy xs ys k w → SpX Tryz.prog Shun Tryz.link.tWg Wg C n Low (FinR C Low (rowsF xs ys ny)) (AnchS Shun Wg C n Low By Br X A cx ny cy xs ys cs) r ⟨fun _ => False, fun i => k + 1 ≤ i, 0⟩ (G (b16.at ⟨#[.slice X n cx, .slice A ny cy, t2, .pointer (some ⟨By, 0, none⟩), .slice none 0 0, .pointer (some ⟨Br, 0, none⟩), .pointer (some ⟨Wg, 0, none⟩), t7, t8, t9, t10, t11, .slice X n cx, .int .i64 n, .int .i64 k, t15, t16, t17, t18, t19, t20, t21, t22, t23], []⟩ (.inRegion ops7 [] :: .inBlock 1 :: .code I16 :: .inLoop L16 :: .inBlock 0 :: .code E16 :: [])) cs) w := by
    intro w t2 t7 t8 t9 t10 t11 t15 t16 t17 t18 t19 t20 t21 t22 t23 h
    have hF : SK Shun Wg C n Low By Br X A ny cy xs ys (k + 1) w := ⟨h.size, h.yb, h.rb, h.ex, h.el, h.live, h.pay, fun j h1 h2 => h.nil j (by omega) h2⟩
    have hwr : IntKind.i64.wrap ((k : Int) + 1) = ((k + 1 : Nat) : Int) := by rw [IntKind.wrap_i64]; have := Gs.hn; omega
    unfold headS at ih
    simp only [ops7, R7, R6, I16, L16, E16, Z16, body16, Tryz.f17, Option.getD_some] at ih ⊢
    refine spx_of (m := 20 + m0) (GX.le (GX.silent (k := 12) (m := 8 + m0) ?_) (by omega))
    clear r2 hwork h
    u_c stepG_region_end (sk_rely Gs) hF
    u_c stepG_inBlock (sk_rely Gs) hF
    u_reg (sk_rely Gs) hF
    u_op (sk_rely Gs) hF
    u_op (sk_rely Gs) hF
    u_c stepG_region_end (sk_rely Gs) hF
    u_c stepG_inLoop (sk_rely Gs) hF
    refine Goes.stop (fun w₁ h₁ => ?_)
    replace hF := (sk_rely Gs) hF h₁
    exact (ih w₁ _ _ _ _ _ _ _ _ _ _ _ _ _ _ _ hF).le (by omega)
  have hnext' := fun w t2 t7 t8 t9 t10 t11 t15 t16 t17 t18 t19 t20 t21 t22 t23 h => hnext w t2 t7 t8 t9 t10 t11 t15 t16 t17 t18 t19 t20 t21 t22 t23 h
  clear hnext
  simp only [ops6, ops7, R7, R6, I16, L16, E16, Z16, body16, Tryz.f17, Option.getD_some] at hnext' ⊢
  refine GX.le (GX.silent (k := 10) (m := 5) ?_) (by omega)
  clear ih
  u_c stepG_region_end r2 hF
  u_reg r2 hF
  u_op r2 hF
  refine Goes.stop (fun w₁ h₁ => ?_)
  replace hF := r2 hF h₁
  clear h₁
  refine GX.stop (fun w₂ h₂ => ?_)
  replace hF := r2 hF h₂
  clear h₂
  refine ⟨rfl, rfl, _, born Tryz.prog (call26 Wg By Br Bi Ba), ?_, rfl, ⟨_, hwork w₂ hF⟩, hnext' w₂ t2 (.pointer (some ⟨Bi, 0, none⟩)) (.pointer (some ⟨Ba, 0, none⟩)) t9 t10 t11 t15 t16 t17 t18 t19 (.func (.func 29) #[] #[.pointer (some ⟨Wg, 0, none⟩), .pointer (some ⟨By, 0, none⟩), .pointer (some ⟨Br, 0, none⟩), .pointer (some ⟨Bi, 0, none⟩), .pointer (some ⟨Ba, 0, none⟩)]) t21 t22 t23 hF.1⟩
  refine (stepG_spawn (d := call26 Wg By Br Bi Ba) (w' := w₂) (f := .func 29) (c := #[.pointer (some ⟨Wg, 0, none⟩), .pointer (some ⟨By, 0, none⟩), .pointer (some ⟨Br, 0, none⟩), .pointer (some ⟨Bi, 0, none⟩), .pointer (some ⟨Ba, 0, none⟩)]) rfl rfl (by decide) (by simp [go_sem, call26, Deferred.ofValue]) rfl).trans ?_
  generalize hLx : Go.Conc.listed _ _ _ _ _ = Lx
  have hev : Lx = #[] := by
    refine Array.eq_empty_iff_forall_not_mem.2 fun e he => ?_
    rw [← hLx] at he
    have hm' := mem_listed he
    clear hLx
    simp [go_sem, Deferred.ofValue] at hm'
  subst hev
  rfl
end
end Go.Proofs.YtafhpbghogdipaaGreatDoor
