/- The starter: its stops, its situations, the invariant, and the two master laws of a step. -/
import Derived.Test.YtafhpbghogdipaaGreatDoorCw3
namespace Go.Proofs.YtafhpbghogdipaaGreatDoor
open Go.Conc Go.ConcN
open Go.ConcR (KK wgBlock WgAt stA smA rd wr mk Payload DC0 Bk g_of_ofEvents again_blocked bk_of_mute ofEvent_loc_mark deafBehind_cons deafBehind_one)
set_option maxHeartbeats 2000000
set_option linter.unusedVariables false

section
variable [Payload] (P : Program) (Shun : Loc → Prop) (ty : TypeId) (Wg C n Low : Nat) (Fin : Nat → Gh → World → Prop) (AnchW Post : Gh → Goroutine → World → Prop)
def StAcq (γ : Gh) (g : Goroutine) (w : World) : Prop := g.status = .running ∧ γ.deaf = 0 ∧ ∃ g', stepG P true g w = .go g' w #[mk (.acquire (stA Wg))] ∧ g'.status = .running ∧ Post γ g' w
def StW4 (γ : Gh) (g : Goroutine) (w : World) : Prop := g.status = .running ∧ (WgAt ty Wg w 0 0 → ∃ g', stepG P true g w = .go g' w #[rd (stA Wg)] ∧ ∃ m, GX P true (RX ty Wg C n Low) (DX Shun ty Wg C n Low true) (StAcq P Wg Post) m γ g' w)
def StW3 (γ : Gh) (g : Goroutine) (w : World) : Prop :=
  g.status = .running ∧ g.offers = none ∧ ((∃ st, WgAt ty Wg w st 0) → stepG P true g w = .go { g with status := .blocked } w #[]) ∧
    (WgAt ty Wg w 0 1 → ∃ g', stepG P true g w = .go g' (w.setCell (smA Wg) (.int .u32 0)) (semEvents (smA Wg)) ∧ ∃ m, GX P true (RX ty Wg C n Low) (DX Shun ty Wg C n Low true) (StW4 P Shun ty Wg C n Low Post) m γ g' (w.setCell (smA Wg) (.int .u32 0)))
def StW2 (vs : Nat) (γ : Gh) (g : Goroutine) (w : World) : Prop :=
  g.status = .running ∧ ∀ v : Nat, v < 2147483648 → WgAt ty Wg w (v * KK) 0 →
    (v = vs → ∃ g', stepG P true g w = .go g' (w.setCell (stA Wg) (.int .u64 (v * KK + 1))) #[rd (stA Wg), wr (stA Wg)] ∧ ∃ m, GX P true (RX ty Wg C n Low) (DX Shun ty Wg C n Low true) (StW3 P Shun ty Wg C n Low Post) m γ g' (w.setCell (stA Wg) (.int .u64 (v * KK + 1)))) ∧
    (v ≠ vs → ∃ g', stepG P true g w = .go g' w #[rd (stA Wg)] ∧ ∃ m, GX P true (RX ty Wg C n Low) (DX Shun ty Wg C n Low true) AnchW m γ g' w)
def StW1 (γ : Gh) (g : Goroutine) (w : World) : Prop :=
  g.status = .running ∧ ∀ v : Nat, v < 2147483648 → WgAt ty Wg w (v * KK) 0 → ∃ g', stepG P true g w = .go g' w #[rd (stA Wg)] ∧
    (v = 0 → ∃ m, GX P true (RX ty Wg C n Low) (DX Shun ty Wg C n Low true) (StAcq P Wg Post) m γ g' w) ∧ (v ≠ 0 → ∃ m, GX P true (RX ty Wg C n Low) (DX Shun ty Wg C n Low true) (StW2 P Shun ty Wg C n Low AnchW Post v) m γ g' w)
def StGo (j : Nat) (Next : Gh → Goroutine → World → Prop) (γ : Gh) (g : Goroutine) (w : World) : Prop :=
  g.status = .running ∧ γ.deaf = 0 ∧ ∃ g' child, stepG P true g w = .spawn g' child w #[] ∧ child.status = .running ∧
    (∃ m, GX P false (RX ty Wg C n Low) (DX Shun ty Wg C n Low false) (StopR P ty Wg C n Low Fin j) m ⟨γ.own, fun k => k = j, 0⟩ child w) ∧ Next ⟨fun _ => False, fun i => j + 1 ≤ i, 0⟩ g' w
def StA1 (j : Nat) (Next : Gh → Goroutine → World → Prop) (γ : Gh) (g : Goroutine) (w : World) : Prop :=
  g.status = .running ∧ ∀ v : Nat, v < 2147483647 → WgAt ty Wg w (v * KK) 0 →
    ∃ g', stepG P true g w = .go g' (w.setCell (stA Wg) (.int .u64 ((v + 1) * KK))) #[rd (stA Wg), wr (stA Wg)] ∧ ∃ m, GX P true (RX ty Wg C n Low) (DX Shun ty Wg C n Low true) (StGo P Shun ty Wg C n Low Fin j Next) m γ g' (w.setCell (stA Wg) (.int .u64 ((v + 1) * KK)))
/-- The starter's script: r workers are still to be started. -/
def SpX : Nat → Gh → Goroutine → World → Prop
  | 0, γ, g, w => ∃ m, GX P true (RX ty Wg C n Low) (DX Shun ty Wg C n Low true) AnchW m γ g w
  | r + 1, γ, g, w => ∃ m, GX P true (RX ty Wg C n Low) (DX Shun ty Wg C n Low true) (StA1 P Shun ty Wg C n Low Fin (n - (r + 1)) (SpX r)) m γ g w
inductive CSX : CTag → Nat → Nat → Gh → Goroutine → World → Prop
  | a1 {r m : Nat} {γ : Gh} {g : Goroutine} {w : World} : r < n → GX P true (RX ty Wg C n Low) (DX Shun ty Wg C n Low true) (StA1 P Shun ty Wg C n Low Fin (n - (r + 1)) (SpX P Shun ty Wg C n Low Fin AnchW r)) m γ g w → CSX (.sp r 5) (n - (r + 1)) m γ g w
  | go {r m : Nat} {γ : Gh} {g : Goroutine} {w : World} : r < n → GX P true (RX ty Wg C n Low) (DX Shun ty Wg C n Low true) (StGo P Shun ty Wg C n Low Fin (n - (r + 1)) (SpX P Shun ty Wg C n Low Fin AnchW r)) m γ g w → CSX (.sp r 2) (n - (r + 1)) m γ g w
  | anch {m : Nat} {γ : Gh} {g : Goroutine} {w : World} : GX P true (RX ty Wg C n Low) (DX Shun ty Wg C n Low true) AnchW m γ g w → CSX .anch n m γ g w
  | w1 {m : Nat} {γ : Gh} {g : Goroutine} {w : World} : GX P true (RX ty Wg C n Low) (DX Shun ty Wg C n Low true) (StW1 P Shun ty Wg C n Low AnchW Post) m γ g w → CSX .w1 n m γ g w
  | w2 {vs m : Nat} {γ : Gh} {g : Goroutine} {w : World} : GX P true (RX ty Wg C n Low) (DX Shun ty Wg C n Low true) (StW2 P Shun ty Wg C n Low AnchW Post vs) m γ g w → CSX (.w2 vs) n m γ g w
  | w3 {m : Nat} {γ : Gh} {g : Goroutine} {w : World} : GX P true (RX ty Wg C n Low) (DX Shun ty Wg C n Low true) (StW3 P Shun ty Wg C n Low Post) m γ g w → CSX .w3 n (m + 1) γ g w
  | blk {γ : Gh} {g : Goroutine} {w : World} : (∀ w₁, RX ty Wg C n Low γ w w₁ → StW3 P Shun ty Wg C n Low Post γ g w₁) → CSX .blk n 0 γ { g with status := .blocked } w
  | w4 {m : Nat} {γ : Gh} {g : Goroutine} {w : World} : GX P true (RX ty Wg C n Low) (DX Shun ty Wg C n Low true) (StW4 P Shun ty Wg C n Low Post) m γ g w → CSX .w4 n m γ g w
  | acq {m : Nat} {γ : Gh} {g : Goroutine} {w : World} : GX P true (RX ty Wg C n Low) (DX Shun ty Wg C n Low true) (StAcq P Wg Post) m γ g w → CSX .acq n m γ g w
end

section
variable [Payload] {P : Program} {Shun : Loc → Prop} {ty : TypeId} {Wg C n Low : Nat} {Fin : Nat → Gh → World → Prop} {AnchW Post : Gh → Goroutine → World → Prop}
  {tag : CTag} {j f : Nat} {γ : Gh} {a : Goroutine} {w w' : World}
theorem rx_tr : ∀ γ x y z, RX ty Wg C n Low γ x y → RX ty Wg C n Low γ y z → RX ty Wg C n Low γ x z := fun _ _ _ _ h1 h2 => h1.trans h2
theorem CSX.rely (h : CSX P Shun ty Wg C n Low Fin AnchW Post tag j f γ a w) (hr : RX ty Wg C n Low γ w w') : CSX P Shun ty Wg C n Low Fin AnchW Post tag j f γ a w' := by
  cases h with
  | a1 hn h => exact .a1 hn (GX.rely rx_tr h hr)
  | go hn h => exact .go hn (GX.rely rx_tr h hr)
  | anch h => exact .anch (GX.rely rx_tr h hr)
  | w1 h => exact .w1 (GX.rely rx_tr h hr)
  | w2 h => exact .w2 (GX.rely rx_tr h hr)
  | w3 h => exact .w3 (GX.rely rx_tr h hr)
  | blk h => exact .blk (fun w₂ h₂ => h w₂ (hr.trans h₂))
  | w4 h => exact .w4 (GX.rely rx_tr h hr)
  | acq h => exact .acq (GX.rely rx_tr h hr)
theorem CSX.status (hAr : ∀ γ g w, AnchW γ g w → g.status = .running) (h : CSX P Shun ty Wg C n Low Fin AnchW Post tag j f γ a w) : (a.status = .running ∧ tag ≠ .blk) ∨ (a.status = .blocked ∧ tag = .blk) := by
  have rr : ∀ γ w, RX ty Wg C n Low γ w w := fun γ w => RX.refl γ w
  cases h with
  | a1 _ h => exact .inl ⟨GX.running (fun _ _ _ x => x.1) rr h, by simp⟩
  | go _ h => exact .inl ⟨GX.running (fun _ _ _ x => x.1) rr h, by simp⟩
  | anch h => exact .inl ⟨GX.running hAr rr h, by simp⟩
  | w1 h => exact .inl ⟨GX.running (fun _ _ _ x => x.1) rr h, by simp⟩
  | w2 h => exact .inl ⟨GX.running (fun _ _ _ x => x.1) rr h, by simp⟩
  | w3 h => exact .inl ⟨GX.running (fun _ _ _ x => x.1) rr h, by simp⟩
  | blk h => exact .inr ⟨rfl, rfl⟩
  | w4 h => exact .inl ⟨GX.running (fun _ _ _ x => x.1) rr h, by simp⟩
  | acq h => exact .inl ⟨GX.running (fun _ _ _ x => x.1) rr h, by simp⟩
theorem CSX.wokenBy (hAr : ∀ γ g w, AnchW γ g w → g.status = .running) (h : CSX P Shun ty Wg C n Low Fin AnchW Post tag j f γ a w) (hr : RX ty Wg C n Low γ w w') (g g' : Goroutine) :
    ∃ tag' f', CSX P Shun ty Wg C n Low Fin AnchW Post tag' j f' γ (woken P g g' w' a) w' ∧ f' ≤ f + 1 ∧ (tag' = tag ∨ (tag = .blk ∧ tag' = .w3)) ∧ (mayWake P g = true → g'.status = .running → tag' ≠ .blk) := by
  have h' := h.rely hr
  unfold Go.Conc.woken
  split
  · rcases h'.status hAr with ⟨hs, hne⟩ | ⟨_, rfl⟩
    · exact ⟨tag, f, by rw [again_running _ (.inl hs)]; exact h', by omega, .inl rfl, fun _ _ => hne⟩
    · cases h' with
      | blk hb =>
        have h3 := hb w' (RX.refl γ w')
        exact ⟨.w3, 0 + 1, by rw [again_blocked h3.1 h3.2.1]; exact .w3 (GX.stop hb), by omega, .inr ⟨rfl, rfl⟩, fun _ _ => by simp⟩
  · rename_i hc
    exact ⟨tag, f, h', by omega, .inl rfl, fun h1 h2 => absurd (by simp [h1, h2]) hc⟩
theorem CSX.bound (h : CSX P Shun ty Wg C n Low Fin AnchW Post tag j f γ a w) : j + pend tag ≤ n := by
  cases h <;> simp only [pend] <;> (try simp) <;> omega
end

/-- Stages and fuels, as the library's tables have them. -/
def Dof (S : Nat → Nat × Nat) : Nat → WD := fun i => ⟨(S (i + 1)).1, (S (i + 1)).2, 0⟩
theorem dof_upd (S : Nat → Nat × Nat) (i : Nat) (x : Nat × Nat) : Dof (upd S (i + 1) x) = upd (Dof S) i ⟨x.1, x.2, 0⟩ := by
  funext a
  unfold Dof upd
  by_cases e : a = i
  · subst e; simp
  · simp [e]
theorem dof_zero (S : Nat → Nat × Nat) (x : Nat × Nat) : Dof (upd S 0 x) = Dof S := by
  funext a
  simp [Dof, upd]

section
variable [Payload] (P : Program) (Shun : Loc → Prop) (ty : TypeId) (m₀ b₀ Wg C n Low : Nat) (Fin : Nat → Gh → World → Prop) (AnchW Post : Gh → Goroutine → World → Prop) (W : World)
def InvX (μ : Nat × Nat) (m : Machine) (t : Trace) : Prop :=
  ∃ (gs : Array Goroutine) (w : World) (sl : Option (Nat × Nat)) (j : Nat) (S : Nat → Nat × Nat) (H : Nat → Gh) (q : Nat → Nat) (tag : CTag) (f0 : Nat) (a : Goroutine) (st sm : Int),
    m = crowd gs w sl ∧ gs[0]? = some a ∧ CSX P Shun ty Wg C n Low Fin AnchW Post tag j f0 (H 0) a w ∧ CX P Shun ty m₀ b₀ Wg C n Low Fin W j gs w t S H q ∧ ((H 0).mc = fun i => j ≤ i) ∧ WgAt ty Wg w st sm ∧ Go.ConcN.Mode j (Dof S) tag st sm ∧
    μ = (phi n (Vc j (Dof S)) tag + Ssum j (Dof S), f0 + 2 * Fsum j (Dof S) + 2 * sumTo m₀ q)
/-- Behind the join. -/
def EndX (m : Machine) (t : Trace) : Prop :=
  ∃ (gs : Array Goroutine) (w : World) (sl : Option (Nat × Nat)) (q : Nat → Nat) (a : Goroutine) (γ : Gh),
    m = crowd gs w sl ∧ gs.size = m₀ + n ∧ gs[0]? = some a ∧ a.status = .running ∧ Leavers P t gs q ∧ PastX (fun l => Shun l ∨ ShN Wg l) w.heap.size t ∧ Post γ a w ∧ (∀ i, i < n → ∃ γi, Fin i γi w) ∧ PayAt C n w ∧ SameX Wg C Low W w
end

section
variable [Payload] {P : Program} {Shun : Loc → Prop} {ty : TypeId} {m₀ b₀ Wg C n Low : Nat} {Fin : Nat → Gh → World → Prop} {AnchW Post : Gh → Goroutine → World → Prop} {W : World}
  {gs : Array Goroutine} {w w' : World} {sl : Option (Nat × Nat)} {j : Nat} {S : Nat → Nat × Nat} {H : Nat → Gh} {q : Nat → Nat} {tag tag' : CTag} {f0 f' : Nat} {a a' : Goroutine} {t : Trace} {es : Array Event} {γ' : Gh} {st sm st' sm' : Int}

/-- Whatever step of worker number i. -/
theorem workerStepX (G : GeoX m₀ Wg C Low W) (hFS : ∀ i γ w w₁, RX ty Wg C n Low γ w w₁ → γ.mc i → Fin i γ w → Fin i γ w₁) (hAr : ∀ γ g w, AnchW γ g w → g.status = .running)
    (ha : gs[0]? = some a) (hcs : CSX P Shun ty Wg C n Low Fin AnchW Post tag j f0 (H 0) a w) (hcx : CX P Shun ty m₀ b₀ Wg C n Low Fin W j gs w t S H q) (hmc0 : (H 0).mc = fun i => j ≤ i)
    {i : Nat} (hi : i < j) {g g' : Goroutine} {x : Nat × Nat} (hg : gs[m₀ + i]? = some g) (hgo : stepG P false g w = .go g' w' es)
    (hF : FX ty Wg C n (H (i + 1)) w w') (hgr : ∀ b, γ'.own b → (H (i + 1)).own b ∨ (w.heap.size ≤ b ∧ b < w'.heap.size)) (hmc : γ'.mc = (H (i + 1)).mc) (hdf : γ'.deaf = deafBehind (H (i + 1)).deaf es) (hev : ∀ e ∈ es, EvX Shun Wg C Low false γ' e)
    (hw : WX P Shun ty Wg C n Low Fin i x.1 x.2 γ' g' w')
    (hrel : x.1 ≤ 6 → ∃ r, RelX (ShN Wg) (stA Wg) b₀ (t ++ MemOp.ofEvents (m₀ + i) g.frame.fn g.frame.place es) (m₀ + i) r) (hfin : x.1 ≤ 6 → Fin i γ' w') (hwg : WgAt ty Wg w' st' sm')
    (hmode : ∀ tag', (tag' = tag ∨ (tag = .blk ∧ tag' = .w3)) → (mayWake P g = true → g'.status = .running → tag' ≠ .blk) → Go.ConcN.Mode j (upd (Dof S) i ⟨x.1, x.2, 0⟩) tag' st' sm')
    (hlt : (x.1 < (S (i + 1)).1 ∧ cnt ⟨x.1, x.2, 0⟩ ≤ cnt (Dof S i)) ∨ (x.1 = (S (i + 1)).1 ∧ x.2 + 1 = (S (i + 1)).2)) :
    ∃ m₁ ops μ', runT P (crowd gs w sl) (m₀ + i) = (.next m₁, ops) ∧ Lt2 μ' (phi n (Vc j (Dof S)) tag + Ssum j (Dof S), f0 + 2 * Fsum j (Dof S) + 2 * sumTo m₀ q) ∧ InvX P Shun ty m₀ b₀ Wg C n Low Fin AnchW Post W μ' m₁ (t ++ ops) := by
  have hm := G.hm
  have hrx : RX ty Wg C n Low (H 0) w w' := hF.others G hcx.gh (hcx.low G) (by omega) (Nat.zero_le _) (by omega)
  obtain ⟨tag', f', hcs', hf', htag, hwk⟩ := hcs.wokenBy hAr hrx g g'
  have hne : (m₀ + i == 0) = false := by simp; omega
  have hrun := runT_crowd_go (P := P) (sl := sl) (i := m₀ + i) hg (by rw [hne]; exact hgo)
  have hst := hcx.step G hFS (p := i + 1) (by omega) (g := g) (g' := g') (fn := g.frame.fn) (pos := g.frame.place) (x := x) hF hgr hmc hdf hev (fun i' e => by cases e; exact hw) (fun i' e => by cases e; exact hrel) (fun i' e => by cases e; exact hfin)
  rw [pid_succ] at hst
  have e1 := sumTo_upd (Dof S) (⟨x.1, x.2, 0⟩ : WD) cnt hi
  have e2 := sumTo_upd (Dof S) (⟨x.1, x.2, 0⟩ : WD) WD.stage hi
  have e3 := sumTo_upd (Dof S) (⟨x.1, x.2, 0⟩ : WD) WD.fuel hi
  have e4 : (Dof S i).stage = (S (i + 1)).1 := rfl
  have e5 : (Dof S i).fuel = (S (i + 1)).2 := rfl
  refine ⟨_, _, (phi n (Vc j (Dof (upd S (i + 1) x))) tag' + Ssum j (Dof (upd S (i + 1) x)), f' + 2 * Fsum j (Dof (upd S (i + 1) x)) + 2 * sumTo m₀ q), hrun, ?_,
    _, w', sl, j, upd S (i + 1) x, upd H (i + 1) γ', q, tag', f', woken P g g' w' a, st', sm', rfl, by rw [get_map_set _ _ _ _ (by omega), ha]; rfl, by rw [upd_ne H _ (by omega)]; exact hcs', hst, by rw [upd_ne H _ (by omega)]; exact hmc0, hwg, by rw [dof_upd]; exact hmode tag' htag hwk, rfl⟩
  rw [phi_retag n _ htag, dof_upd]
  simp only [Vc, Ssum, Fsum] at *
  rcases hlt with ⟨h1, h2⟩ | ⟨h1, h2⟩
  · refine Prod.Lex.left _ _ ?_
    have := phi_mono n (v' := sumTo j fun a => cnt (upd (Dof S) i ⟨x.1, x.2, 0⟩ a)) (v := sumTo j fun a => cnt (Dof S a)) (by omega) tag
    omega
  · have ec : cnt (⟨x.1, x.2, 0⟩ : WD) = cnt (Dof S i) := by simp only [cnt, h1, e4]
    have ev : (sumTo j fun a => cnt (upd (Dof S) i ⟨x.1, x.2, 0⟩ a)) = sumTo j fun a => cnt (Dof S a) := by omega
    have es' : (sumTo j fun a => (upd (Dof S) i ⟨x.1, x.2, 0⟩ a).stage) = sumTo j fun a => (Dof S a).stage := by omega
    rw [ev, es']
    refine Prod.Lex.right _ ?_
    omega

/-- Whatever step of the starter's that is neither a go statement nor its acquire. -/
theorem callerStepX (G : GeoX m₀ Wg C Low W) (hFS : ∀ i γ w w₁, RX ty Wg C n Low γ w w₁ → γ.mc i → Fin i γ w → Fin i γ w₁)
    (ha : gs[0]? = some a) (hcx : CX P Shun ty m₀ b₀ Wg C n Low Fin W j gs w t S H q) (hmc0 : (H 0).mc = fun i => j ≤ i) (hgo : stepG P true a w = .go a' w' es)
    (hF : FX ty Wg C n (H 0) w w') (hgr : ∀ b, γ'.own b → (H 0).own b ∨ (w.heap.size ≤ b ∧ b < w'.heap.size)) (hmc : γ'.mc = (H 0).mc) (hdf : γ'.deaf = deafBehind (H 0).deaf es) (hev : ∀ e ∈ es, EvX Shun Wg C Low true γ' e)
    (hcs' : CSX P Shun ty Wg C n Low Fin AnchW Post tag' j f' γ' a' w') (hwg : WgAt ty Wg w' st' sm') (hmode : Go.ConcN.Mode j (Dof S) tag' st' sm')
    (hlt : phi n (Vc j (Dof S)) tag' < phi n (Vc j (Dof S)) tag ∨ (phi n (Vc j (Dof S)) tag' = phi n (Vc j (Dof S)) tag ∧ f' < f0)) :
    ∃ m₁ ops μ', runT P (crowd gs w sl) 0 = (.next m₁, ops) ∧ Lt2 μ' (phi n (Vc j (Dof S)) tag + Ssum j (Dof S), f0 + 2 * Fsum j (Dof S) + 2 * sumTo m₀ q) ∧ InvX P Shun ty m₀ b₀ Wg C n Low Fin AnchW Post W μ' m₁ (t ++ ops) := by
  have hm := G.hm
  have hrun := runT_crowd_go (P := P) (sl := sl) (i := 0) ha (by simpa using hgo)
  have hst := hcx.step G hFS (p := 0) (Nat.zero_le _) (g := a) (g' := a') (fn := a.frame.fn) (pos := a.frame.place) (x := S 0) hF hgr hmc hdf hev (fun i' e => by cases e) (fun i' e => by cases e) (fun i' e => by cases e)
  rw [pid_zero] at hst
  refine ⟨_, _, (phi n (Vc j (Dof S)) tag' + Ssum j (Dof S), f' + 2 * Fsum j (Dof S) + 2 * sumTo m₀ q), hrun, ?_,
    _, w', sl, j, upd S 0 (S 0), upd H 0 γ', q, tag', f', a', st', sm', rfl, get_map_set_same _ _ _ (by rw [hcx.size]; omega), by rw [upd_same]; exact hcs', hst, by rw [upd_same, hmc]; exact hmc0, hwg, by rw [dof_zero]; exact hmode, by rw [dof_zero]⟩
  rcases hlt with h | ⟨h1, h2⟩
  · exact Prod.Lex.left _ _ (by omega)
  · rw [h1]; exact Prod.Lex.right _ (by omega)

/-- An old goroutine slips. -/
theorem oldStepX (G : GeoX m₀ Wg C Low W) (hAr : ∀ γ g w, AnchW γ g w → g.status = .running)
    (ha : gs[0]? = some a) (hcs : CSX P Shun ty Wg C n Low Fin AnchW Post tag j f0 (H 0) a w) (hcx : CX P Shun ty m₀ b₀ Wg C n Low Fin W j gs w t S H q) (hmc0 : (H 0).mc = fun i => j ≤ i) (hwg : WgAt ty Wg w st sm) (hmode : Go.ConcN.Mode j (Dof S) tag st sm)
    {i : Nat} (hi : 0 < i) (him : i < m₀) {g : Goroutine} (hg : gs[i]? = some g) (hrun : g.status = .running) :
    ∃ m₁ ops μ', runT P (crowd gs w sl) i = (.next m₁, ops) ∧ Lt2 μ' (phi n (Vc j (Dof S)) tag + Ssum j (Dof S), f0 + 2 * Fsum j (Dof S) + 2 * sumTo m₀ q) ∧ InvX P Shun ty m₀ b₀ Wg C n Low Fin AnchW Post W μ' m₁ (t ++ ops) := by
  have hq := hcx.old i g hi him hg
  have hi0 : (i == 0) = false := by simp; omega
  cases hqi : q i with
  | zero => rw [hqi] at hq; rw [hq.1] at hrun; cases hrun
  | succ k =>
    rw [hqi] at hq
    rcases hq with ⟨hf, _⟩ | ⟨_, g', es, hmu, hstp, hq'⟩
    · rw [hf] at hrun; cases hrun
    have hrunT := runT_crowd_go (P := P) (sl := sl) (i := i) hg (by rw [hi0]; exact hstp w)
    have hst := hcx.slip (g := g) (fn := g.frame.fn) (pos := g.frame.place) G.hm hi him hmu hq'
    obtain ⟨tag', f', hcs', hf', htag, hwk⟩ := hcs.wokenBy hAr (RX.refl _ w) g g'
    have hsum : sumTo m₀ (upd q i k) + q i = sumTo m₀ q + k := sumTo_upd q k id him
    have e1 : sumTo m₀ (upd q i k) + 1 = sumTo m₀ q := by rw [hqi] at hsum; omega
    refine ⟨_, _, (phi n (Vc j (Dof S)) tag' + Ssum j (Dof S), f' + 2 * Fsum j (Dof S) + 2 * sumTo m₀ (upd q i k)), hrunT, ?_,
      _, w, sl, j, S, H, upd q i k, tag', f', woken P g g' w a, st, sm, rfl, by rw [get_map_set _ _ _ _ (by omega), ha]; rfl, hcs', hst, hmc0, hwg, hmode.retag htag, rfl⟩
    rw [phi_retag n _ htag]
    exact Prod.Lex.right _ (by omega)
end
end Go.Proofs.YtafhpbghogdipaaGreatDoor
