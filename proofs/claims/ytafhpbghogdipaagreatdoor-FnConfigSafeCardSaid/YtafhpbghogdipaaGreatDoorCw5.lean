/- Every step keeps the invariant and lowers the measure, or is the join: from the loop that starts the workers to behind the join, on every tape. -/
import Derived.Test.YtafhpbghogdipaaGreatDoorCw4
namespace Go.Proofs.YtafhpbghogdipaaGreatDoor
open Go.Conc Go.ConcN
open Go.ConcR (KK wgBlock WgAt stA smA rd wr mk Payload DC0 Bk g_of_ofEvents again_blocked bk_of_mute ofEvent_loc_mark ofEvent_mk ofEvent_cell deafBehind_cons deafBehind_one)
set_option maxHeartbeats 4000000
set_option linter.unusedVariables false

theorem evX_of_bk {Shun : Loc → Prop} {Wg C Low : Nat} {main : Bool} {γ : Gh} {e : Event} (h : Bk Wg e) : EvX Shun Wg C Low main γ e := by
  rcases h with h1 | h1 | ⟨a, wr, rfl, ha⟩
  · exact ⟨fun x hx => (by rw [ofEvent_loc_mark h1] at hx; cases hx), by rw [h1]; simp⟩
  · exact ⟨fun x hx => (by rw [ofEvent_loc_mark h1] at hx; cases hx), by rw [h1]; simp⟩
  · refine ⟨fun x hx => ?_, by simp⟩
    simp only [ofEvent_cell, MemAct.touch?, Option.some.injEq] at hx
    subst hx
    exact .inl ⟨⟨a, rfl, ha⟩, by simp, by simp⟩
theorem evX_mute {Shun : Loc → Prop} {Wg C Low : Nat} {main : Bool} {γ : Gh} {m : Mark} (h : (MemAct.ofEvent (mk m)).touch? = none) (hr : m ≠ .release (stA Wg)) : EvX Shun Wg C Low main γ (mk m) :=
  ⟨fun x hx => (by rw [h] at hx; cases hx), fun e => hr (Loc.mark.inj e)⟩
theorem sh_of_bk {Wg : Nat} {e : Event} {x : Touch} (h : Bk Wg e) (hx : (MemAct.ofEvent e).touch? = some x) : ShN Wg x.loc := by
  rcases h with h1 | h1 | ⟨a, wr, rfl, ha⟩
  · rw [ofEvent_loc_mark h1] at hx; cases hx
  · rw [ofEvent_loc_mark h1] at hx; cases hx
  · simp only [ofEvent_cell, MemAct.touch?, Option.some.injEq] at hx
    subst hx
    exact ⟨a, rfl, ha⟩
theorem GX.cases {P : Program} {main : Bool} {R : Gh → World → World → Prop} {D : Gh → World → World → Array Event → Gh → Prop} {Stop : Gh → Goroutine → World → Prop} {n : Nat} {γ : Gh} {g : Goroutine} {w : World} (h : GX P main R D Stop n γ g w) :
    (∀ w₁, R γ w w₁ → Stop γ g w₁) ∨ ∃ m, n = m + 1 ∧ ∀ w₁, R γ w w₁ → ∃ g' w' es, stepG P main g w₁ = .go g' w' es ∧ ∃ γ', D γ w₁ w' es γ' ∧ GX P main R D Stop m γ' g' w' := by
  cases n with
  | zero => exact .inl h
  | succ m => exact h.imp id fun x => ⟨m, rfl, fun w₁ h₁ => goes_elim' (x.2 w₁ h₁)⟩
theorem run_to {P : Program} {α : Type} {r : α → α → Prop} (wf : WellFounded r) (Inv : α → Machine → Trace → Prop) (End : Machine → Trace → Prop)
    (h : ∀ μ m t, Inv μ m t → (∃ m' ops, stepT P m = (.next m', ops) ∧ End m' (t ++ ops)) ∨ (∃ m' ops μ', stepT P m = (.next m', ops) ∧ r μ' μ ∧ Inv μ' m' (t ++ ops))) :
    ∀ μ m t, Inv μ m t → ∃ N m' t', runNT P N m t = (.next m', t') ∧ End m' t' := by
  intro μ
  induction μ using wf.induction with
  | _ μ ih =>
    intro m t hI
    rcases h μ m t hI with ⟨m', ops, hs, hq⟩ | ⟨m', ops, μ', hs, hr, hI'⟩
    · exact ⟨1, m', t ++ ops, by rw [runNT_succ_next hs]; rfl, hq⟩
    · obtain ⟨N, m2, t', h1, h2⟩ := ih μ' hr m' (t ++ ops) hI'
      exact ⟨N + 1, m2, t', by rw [runNT_succ_next hs]; exact h1, h2⟩
theorem RelX.new {Sh : Loc → Prop} {a : Addr} {b k : Nat} {t : Trace} (hb : b ≤ t.size) (hd : Deaf t k = 0) (fn : FuncId) (pos : String) : RelX Sh a b (t ++ MemOp.ofEvents k fn pos #[Go.ConcR.mk (.releaseMerge a)]) k t.size := by
  refine ⟨RelBy.new hd fn pos, hb, fun i hi hg x hx => ?_⟩
  obtain ⟨op, hop, _⟩ := touch_of hx
  have := lt_size_of_getElem? hop
  rw [ofEvents_eq] at this
  simp at this
  omega

section
variable [Payload] {P : Program} {Shun : Loc → Prop} {ty : TypeId} {m₀ b₀ Wg C n Low : Nat} {Fin : Nat → Gh → World → Prop} {AnchW Post : Gh → Goroutine → World → Prop} {W : World}
  {gs : Array Goroutine} {w w' : World} {sl : Option (Nat × Nat)} {j : Nat} {S : Nat → Nat × Nat} {H : Nat → Gh} {q : Nat → Nat} {tag tag' : CTag} {f0 f' : Nat} {a a' : Goroutine} {t : Trace} {es : Array Event} {γ γ' : Gh} {st sm st' sm' : Int}

theorem RX.of_wg (h : Aside Wg w w') (hl : WgLive ty Wg w') (hCW : C ≠ Wg) (ho : ∀ b, γ.own b → b ≠ Wg) : RX ty Wg C n Low γ w w' :=
  ⟨Nat.le_of_eq h.size.symm, fun b _ hb _ => h.block b hb, fun b hb => h.block b (ho b hb), fun _ => hl, fun ⟨cs, hc, hn⟩ => ⟨cs, (h.block C hCW).trans hc, hn⟩, fun i _ => cell_of_block (h.block C hCW) i⟩

theorem stepWorkerX (G : GeoX m₀ Wg C Low W) (hFS : ∀ i γ w w₁, RX ty Wg C n Low γ w w₁ → γ.mc i → Fin i γ w → Fin i γ w₁) (hFd : ∀ i γ d w, Fin i γ w → Fin i ⟨γ.own, γ.mc, d⟩ w) (hAr : ∀ γ g w, AnchW γ g w → g.status = .running) (hn : n < 2147483648)
    (ha : gs[0]? = some a) (hcs : CSX P Shun ty Wg C n Low Fin AnchW Post tag j f0 (H 0) a w) (hcx : CX P Shun ty m₀ b₀ Wg C n Low Fin W j gs w t S H q) (hmc0 : (H 0).mc = fun i => j ≤ i) (hwg : WgAt ty Wg w st sm) (hmode : Go.ConcN.Mode j (Dof S) tag st sm)
    {i : Nat} (hi : i < j) {g : Goroutine} (hg : gs[m₀ + i]? = some g) (hrun : g.status = .running) :
    ∃ m₁ ops μ', runT P (crowd gs w sl) (m₀ + i) = (.next m₁, ops) ∧ Lt2 μ' (phi n (Vc j (Dof S)) tag + Ssum j (Dof S), f0 + 2 * Fsum j (Dof S) + 2 * sumTo m₀ q) ∧ InvX P Shun ty m₀ b₀ Wg C n Low Fin AnchW Post W μ' m₁ (t ++ ops) := by
  obtain ⟨g₁, hg₁, hs⟩ := hcx.wk i hi
  obtain rfl : g = g₁ := by rw [hg] at hg₁; exact Option.some.inj hg₁
  have hstD : (Dof S i).stage = (S (i + 1)).1 := rfl
  generalize hst : (S (i + 1)).1 = s at hs
  generalize hfu : (S (i + 1)).2 = m at hs
  have hmci : (H (i + 1)).mc i := by rw [hcx.mcw i hi]
  have hWL := G.hW
  have hoW : ∀ b, (H (i + 1)).own b → b ≠ Wg := fun b hb => by have := hcx.gh.lo (i + 1) (by omega) b hb; omega
  have hb := hcs.bound
  have hVj := Vc_le j (Dof S)
  have hdk : Deaf t (m₀ + i) = (H (i + 1)).deaf := by have := hcx.deaf (i + 1) (by omega); rwa [pid_succ] at this
  have bookG : ∀ {g' : Goroutine} {w' : World} {es : Array Event} {s' m' : Nat} {st' sm' : Int}, stepG P false g w = .go g' w' es → Aside Wg w w' → WgAt ty Wg w' st' sm' → (∀ e ∈ es, Bk Wg e) →
      (∀ jx e, es[jx]? = some e → (MemAct.ofEvent e).touch? = none ∨ 0 < deafBehind (H (i + 1)).deaf (es.extract 0 jx)) → WX P Shun ty Wg C n Low Fin i s' m' ⟨(H (i + 1)).own, (H (i + 1)).mc, deafBehind (H (i + 1)).deaf es⟩ g' w' → s ≤ 6 →
      (∀ tag', (tag' = tag ∨ (tag = .blk ∧ tag' = .w3)) → (mayWake P g = true → g'.status = .running → tag' ≠ .blk) → Go.ConcN.Mode j (upd (Dof S) i ⟨s', m', 0⟩) tag' st' sm') → ((s' < s ∧ cnt ⟨s', m', 0⟩ ≤ cnt (Dof S i)) ∨ (s' = s ∧ m' + 1 = m)) →
      ∃ m₁ ops μ', runT P (crowd gs w sl) (m₀ + i) = (.next m₁, ops) ∧ Lt2 μ' (phi n (Vc j (Dof S)) tag + Ssum j (Dof S), f0 + 2 * Fsum j (Dof S) + 2 * sumTo m₀ q) ∧ InvX P Shun ty m₀ b₀ Wg C n Low Fin AnchW Post W μ' m₁ (t ++ ops) := by
    intro g' w' es s' m' st' sm' hgo hAs hwg' hbk hd hs' h6 hmode' hlt
    refine workerStepX G hFS hAr ha hcs hcx hmc0 hi (γ' := ⟨(H (i + 1)).own, (H (i + 1)).mc, deafBehind (H (i + 1)).deaf es⟩) (x := (s', m')) hg hgo (FX.of_wg hAs ⟨_, _, hwg'⟩ G.hCW) (fun b h => .inl h) rfl rfl (fun e he => evX_of_bk (hbk e he)) hs'
      (fun _ => ?_) (fun _ => ?_) hwg' hmode' (by rw [hst, hfu]; exact hlt)
    · obtain ⟨r, hr⟩ := hcx.rel i hi (by omega)
      refine ⟨r, hr.app (hr.toRelBy.book hdk _ _ hbk hd) fun op hop _ x hx => ?_⟩
      obtain ⟨e, he, rfl⟩ := Go.Conc.mem_ofEvents hop
      exact sh_of_bk (hbk e he) hx
    · exact hFd _ _ _ _ (hFS _ _ _ _ (RX.of_wg hAs ⟨_, _, hwg'⟩ G.hCW hoW) hmci (hcx.fin i hi (by omega)))
  have book : ∀ {g' : Goroutine} {w' : World} {es : Array Event} {s' m' : Nat} {st' sm' : Int}, stepG P false g w = .go g' w' es → Aside Wg w w' → WgAt ty Wg w' st' sm' → (∀ e ∈ es, Bk Wg e) →
      (∀ jx e, es[jx]? = some e → (MemAct.ofEvent e).touch? = none ∨ 0 < deafBehind (H (i + 1)).deaf (es.extract 0 jx)) → WX P Shun ty Wg C n Low Fin i s' m' ⟨(H (i + 1)).own, (H (i + 1)).mc, deafBehind (H (i + 1)).deaf es⟩ g' w' → s ≤ 6 →
      Go.ConcN.Mode j (upd (Dof S) i ⟨s', m', 0⟩) tag st' sm' → ((s' < s ∧ cnt ⟨s', m', 0⟩ ≤ cnt (Dof S i)) ∨ (s' = s ∧ m' + 1 = m)) →
      ∃ m₁ ops μ', runT P (crowd gs w sl) (m₀ + i) = (.next m₁, ops) ∧ Lt2 μ' (phi n (Vc j (Dof S)) tag + Ssum j (Dof S), f0 + 2 * Fsum j (Dof S) + 2 * sumTo m₀ q) ∧ InvX P Shun ty m₀ b₀ Wg C n Low Fin AnchW Post W μ' m₁ (t ++ ops) :=
    fun hgo hAs hwg' hbk hd hs' h6 hmode' hlt => bookG hgo hAs hwg' hbk hd hs' h6 (fun _ ht _ => hmode'.retag ht) hlt
  have same : ∀ m', Go.ConcN.Mode j (upd (Dof S) i ⟨s, m', 0⟩) tag st sm := fun m' => by have := hmode.same (i := i) m' 0; rwa [hstD, hst] at this
  have idle : ∀ {g' : Goroutine} {m' : Nat}, stepG P false g w = .go g' w #[] → WX P Shun ty Wg C n Low Fin i s m' (H (i + 1)) g' w → m' + 1 = m → s ≤ 6 →
      ∃ m₁ ops μ', runT P (crowd gs w sl) (m₀ + i) = (.next m₁, ops) ∧ Lt2 μ' (phi n (Vc j (Dof S)) tag + Ssum j (Dof S), f0 + 2 * Fsum j (Dof S) + 2 * sumTo m₀ q) ∧ InvX P Shun ty m₀ b₀ Wg C n Low Fin AnchW Post W μ' m₁ (t ++ ops) := by
    intro g' m' hgo hs' hm h6
    exact book hgo (.refl Wg w) hwg (by simp) (by simp) hs' h6 (same m') (.inr ⟨rfl, hm⟩)
  have bk2 : ∀ e ∈ #[rd (stA Wg), wr (stA Wg)], Bk Wg e := by intro e he; simp at he; rcases he with rfl | rfl <;> exact bk_cell _ _ rfl
  cases hs with
  | r0 h =>
    rcases GX.cases h with hstop | ⟨m', rfl, hstep⟩
    · obtain ⟨hd0, hf, v, _, _, g', hgo, m₂, hk⟩ := hstop w (RX.refl _ w)
      exact workerStepX G hFS hAr ha hcs hcx hmc0 hi (γ' := H (i + 1)) (x := (6, m₂)) hg hgo (FX.refl _ w) (fun b h => .inl h) rfl (by simp [deafBehind, mk]) (fun e he => by simp at he; subst he; exact evX_mute rfl (by simp)) (.k1 hd0 hk)
        (fun _ => ⟨t.size, RelX.new hcx.base (hdk.trans hd0) _ _⟩) (fun _ => hf) hwg (fun _ ht _ => (hmode.counted hi (by rw [hstD, hst]; omega) (.inl rfl) _ _).retag ht) (.inl ⟨by rw [hst]; simp, by simp [cnt, hstD, hst]⟩)
    · obtain ⟨g', w', es, hgo, γ', hD, hg'⟩ := hstep w (RX.refl _ w)
      exact workerStepX G hFS hAr ha hcs hcx hmc0 hi (x := (7, m')) hg hgo hD.fx hD.grow hD.mc hD.deaf hD.evs (.r0 hg') (fun h => absurd h (by simp)) (fun h => absurd h (by simp)) (hwg.of_block hD.wg)
        (fun _ ht _ => (same m').retag ht) (.inr ⟨hst.symm, by rw [hfu]⟩)
  | k1 hd h =>
    rcases Goes.cases h with hstop | ⟨m', rfl, hstep⟩
    · obtain ⟨_, g', hgo, m₂, hk⟩ := hstop w (RW.refl w)
      exact book hgo (.refl Wg w) hwg (by intro e he; simp at he; subst he; exact .inl rfl) (by intro jx e he; exact .inl (by have := Array.mem_of_getElem? he; simp at this; subst this; rfl)) (.d1 (by simp [deafBehind, mk, hd]) hk) (by omega)
        (hmode.counted hi (by rw [hstD, hst]; omega) (.inr rfl) _ _) (.inl ⟨by omega, by simp [cnt, hstD, hst]⟩)
    · obtain ⟨g', w', es, hgo, ⟨rfl, rfl⟩, hg'⟩ := hstep w (RW.refl w)
      exact idle hgo (.k1 hd hg') rfl (by omega)
  | d1 hd h =>
    rcases Goes.cases h with hstop | ⟨m', rfl, hstep⟩
    · obtain ⟨_, hall⟩ := hstop w (RW.refl w)
      have hc1 : cnt (Dof S i) = 1 := by simp [cnt, hstD, hst]
      have hV1 : 1 ≤ Vc j (Dof S) := by have := le_sumTo (f := fun x => cnt (Dof S x)) hi; simp only [Vc]; omega
      have df2 : ∀ jx e, (#[rd (stA Wg), wr (stA Wg)] : Array Event)[jx]? = some e → (MemAct.ofEvent e).touch? = none ∨ 0 < deafBehind (H (i + 1)).deaf ((#[rd (stA Wg), wr (stA Wg)] : Array Event).extract 0 jx) := by
        intro jx e he
        rw [hd]
        match jx, he with
        | 0, _ => exact .inr (by simp [deafBehind])
        | 1, _ => exact .inr (by simp [deafBehind, rd])
        | jx + 2, he => simp at he
      have dd2 : deafBehind (H (i + 1)).deaf #[rd (stA Wg), wr (stA Wg)] = 1 := by rw [hd]; rfl
      have hq0 : ∀ q, cnt (⟨1, q, 0⟩ : WD) = 0 := fun _ => rfl
      have opq : ∀ q, OpenSt j (Dof S) → OpenSt j (upd (Dof S) i ⟨1, q, 0⟩) := fun q h a ha => by
        by_cases e : a = i
        · subst e; rw [upd_same]; simp
        · rw [upd_ne _ _ e]; exact h a ha
      cases hmode with
      | opn h1 h2 h3 =>
        obtain ⟨v, hv⟩ : ∃ v, Vc j (Dof S) + pend tag = v + 1 := ⟨Vc j (Dof S) + pend tag - 1, by omega⟩
        rw [hv] at hwg
        have hw1 : WgAt ty Wg w (((v : Nat) + 1) * KK + ((0 : Nat) : Int)) 0 := by simpa using hwg
        obtain ⟨g', hgo, _, hq⟩ := hall v 0 (by omega) (by omega) hw1
        obtain ⟨q, hq⟩ := hq (by omega)
        have hv' : Vc j (upd (Dof S) i ⟨1, q, 0⟩) + pend tag = v := by have := Vc_upd (Dof S) (⟨1, q, 0⟩ : WD) hi; have := hq0 q; omega
        refine book hgo (aside_setCell w (stA Wg) _) (hwg.setSt _) bk2 df2 (.quit (by rw [dd2]; exact hq)) (by omega) ?_ (.inl ⟨by omega, by simp [cnt]⟩)
        have e : ((v : Nat) : Int) * KK + ((0 : Nat) : Int) = ((Vc j (upd (Dof S) i ⟨1, q, 0⟩) + pend tag : Nat) : Int) * KK := by rw [hv']; simp
        rw [e]
        exact .opn h1 (opq q h2) (fun vs ev => by have := h3 vs ev; omega)
      | reg h1 h2 h3 =>
        obtain ⟨v, hv⟩ : ∃ v, Vc j (Dof S) = v + 1 := ⟨Vc j (Dof S) - 1, by omega⟩
        rw [hv] at hwg
        have hp : pend tag = 0 := by cases tag <;> first | rfl | exact h1.elim
        have hw1 : WgAt ty Wg w (((v : Nat) + 1) * KK + ((1 : Nat) : Int)) 0 := by simpa using hwg
        obtain ⟨g', hgo, hl, hq⟩ := hall v 1 (by omega) (by omega) hw1
        by_cases hv0 : v = 0
        · subst hv0
          obtain ⟨m₂, hk⟩ := hl ⟨rfl, rfl⟩
          refine book hgo (aside_setCell w (stA Wg) _) (hwg.setSt _) bk2 df2 (.d2 dd2 hk) (by omega) ?_ (.inl ⟨by omega, by simp [cnt]⟩)
          have hoth : ∀ a, a < j → a ≠ i → (Dof S a).stage = 1 := fun a ha e => by
            have c0 := others_uncounted hi hv hc1 a ha e
            have := h2 a ha
            simp only [cnt] at c0
            split at c0 <;> omega
          have := Go.ConcN.Mode.last (j := j) (D := upd (Dof S) i ⟨4, m₂, 0⟩) (tag := tag) i h1 hi (by rw [upd_same]; simp) (fun a ha e => by rw [upd_ne _ _ e]; exact hoth a ha e)
          rw [upd_same] at this
          simpa using this
        · obtain ⟨q, hq⟩ := hq (by omega)
          have hv' : Vc j (upd (Dof S) i ⟨1, q, 0⟩) = v := by have := Vc_upd (Dof S) (⟨1, q, 0⟩ : WD) hi; have := hq0 q; omega
          refine book hgo (aside_setCell w (stA Wg) _) (hwg.setSt _) bk2 df2 (.quit (by rw [dd2]; exact hq)) (by omega) ?_ (.inl ⟨by omega, by simp [cnt]⟩)
          have e : ((v : Nat) : Int) * KK + ((1 : Nat) : Int) = ((Vc j (upd (Dof S) i ⟨1, q, 0⟩) : Nat) : Int) * KK + 1 := by rw [hv']; simp
          rw [e]
          exact .reg h1 (opq q h2) (by omega)
      | last L _ h2 h3 h4 =>
        by_cases e : i = L
        · subst e; omega
        · have := h4 i hi e; omega
      | sema h2 => have := h2 i hi; omega
      | fin _ h2 => have := h2 i hi; omega
    · obtain ⟨g', w', es, hgo, ⟨rfl, rfl⟩, hg'⟩ := hstep w (RW.refl w)
      exact idle hgo (.d1 hd hg') rfl (by omega)
  | d2 hd h =>
    rcases Goes.cases h with hstop | ⟨m', rfl, hstep⟩
    · obtain ⟨_, hx⟩ := hstop w (RW.refl w)
      obtain ⟨hW3, hoth, rfl, rfl⟩ := hmode.isLast hi (by rw [hstD, hst]; omega)
      rw [hstD, hst] at hwg
      obtain ⟨g', hgo, m₂, hk⟩ := hx (by simpa using hwg)
      refine book hgo (.refl Wg w) hwg (by intro e he; simp at he; subst he; exact bk_cell _ _ rfl) (by intro jx e he; rw [hd]; match jx, he with | 0, _ => exact .inr (by simp [deafBehind]) | jx + 1, he => simp at he) (.d3 (by rw [hd]; rfl) hk) (by omega) ?_ (.inl ⟨by omega, by simp [cnt]⟩)
      have := Go.ConcN.Mode.last (j := j) (D := upd (Dof S) i ⟨3, m₂, 0⟩) (tag := tag) i hW3 hi (by rw [upd_same]; simp) (fun a ha e => by rw [upd_ne _ _ e]; exact hoth a ha e)
      rw [upd_same] at this
      simpa using this
    · obtain ⟨g', w', es, hgo, ⟨rfl, rfl⟩, hg'⟩ := hstep w (RW.refl w)
      exact idle hgo (.d2 hd hg') rfl (by omega)
  | d3 hd h =>
    rcases Goes.cases h with hstop | ⟨m', rfl, hstep⟩
    · obtain ⟨_, hx⟩ := hstop w (RW.refl w)
      obtain ⟨hW3, hoth, rfl, rfl⟩ := hmode.isLast hi (by rw [hstD, hst]; omega)
      rw [hstD, hst] at hwg
      obtain ⟨g', hgo, m₂, hk⟩ := hx (by simpa using hwg)
      refine book hgo (aside_setCell w (stA Wg) _) (hwg.setSt 0) (by intro e he; simp at he; subst he; exact bk_cell _ _ rfl) (by intro jx e he; rw [hd]; match jx, he with | 0, _ => exact .inr (by simp [deafBehind]) | jx + 1, he => simp at he) (.d4 (by rw [hd]; rfl) hk) (by omega) ?_ (.inl ⟨by omega, by simp [cnt]⟩)
      have := Go.ConcN.Mode.last (j := j) (D := upd (Dof S) i ⟨2, m₂, 0⟩) (tag := tag) i hW3 hi (by rw [upd_same]; simp) (fun a ha e => by rw [upd_ne _ _ e]; exact hoth a ha e)
      rw [upd_same] at this
      simpa using this
    · obtain ⟨g', w', es, hgo, ⟨rfl, rfl⟩, hg'⟩ := hstep w (RW.refl w)
      exact idle hgo (.d3 hd hg') rfl (by omega)
  | d4 hd h =>
    rcases Goes.cases h with hstop | ⟨m', rfl, hstep⟩
    · obtain ⟨_, hmw, hx⟩ := hstop w (RW.refl w)
      obtain ⟨hW3, hoth, rfl, rfl⟩ := hmode.isLast hi (by rw [hstD, hst]; omega)
      rw [hstD, hst] at hwg
      obtain ⟨g', hgo, q, hq⟩ := hx (by simpa using hwg)
      have hrun' : g'.status = .running := by
        cases q with
        | zero => exact absurd hq.2 (by decide)
        | succ q => exact hq.elim (fun x => absurd x.2 (by decide)) (fun x => x.1)
      have dds : deafBehind (H (i + 1)).deaf (semEvents (smA Wg)) = 1 := by rw [hd]; simp [deafBehind, semEvents]
      refine bookG hgo (aside_setCell w (smA Wg) _) (hwg.setSm 1) (es := semEvents (smA Wg)) bk_sem ?_ (.quit (by rw [dds]; exact hq)) (by omega) ?_ (.inl ⟨by omega, by simp [cnt]⟩)
      · intro jx e he
        rw [hd]
        match jx, he with
        | 0, he => simp [semEvents] at he; subst he; exact .inl rfl
        | 1, _ => exact .inr (by simp [deafBehind, semEvents])
        | 2, _ => exact .inr (by simp [deafBehind, semEvents])
        | 3, he => simp [semEvents] at he; subst he; exact .inl rfl
        | jx + 4, he => simp [semEvents] at he
      · intro tag' ht hw
        have hnb := hw hmw hrun'
        have e3 : tag' = .w3 := by
          rcases ht with rfl | ⟨_, rfl⟩
          · cases tag' <;> first | rfl | exact hW3.elim | exact absurd rfl hnb
          · rfl
        subst e3
        simp only [if_true]
        exact .sema fun a ha => by
          by_cases e : a = i
          · subst e; rw [upd_same]
          · rw [upd_ne _ _ e]; exact hoth a ha e
    · obtain ⟨g', w', es, hgo, ⟨rfl, rfl⟩, hg'⟩ := hstep w (RW.refl w)
      exact idle hgo (.d4 hd hg') rfl (by omega)
  | quit h =>
    cases m with
    | zero => rw [h.1] at hrun; cases hrun
    | succ q =>
      rcases h with ⟨hf, _⟩ | ⟨_, g', es, hmute, hstep, hq⟩
      · rw [hf] at hrun; cases hrun
      · have hbk : ∀ e ∈ es, Bk Wg e := fun e he => bk_of_mute (hmute e he)
        have hno : ∀ jx e, es[jx]? = some e → (MemAct.ofEvent e).touch? = none ∨ 0 < deafBehind (H (i + 1)).deaf (es.extract 0 jx) := fun jx e he => .inl (touch_mute (hmute e (Array.mem_of_getElem? he)))
        exact book (hstep w) (.refl Wg w) hwg hbk hno (.quit hq) (by omega) (same q) (.inr ⟨rfl, rfl⟩)
end
end Go.Proofs.YtafhpbghogdipaaGreatDoor
