/- The starter's steps; the phase: from the loop that starts the workers to behind the join, on every tape. -/
import Derived.Test.YtafhpbghogdipaaGreatDoorCw5
namespace Go.Proofs.YtafhpbghogdipaaGreatDoor
open Go.Conc Go.ConcN
open Go.ConcR (KK wgBlock WgAt stA smA rd wr mk Payload DC0 Bk g_of_ofEvents again_blocked bk_of_mute ofEvent_loc_mark ofEvent_mk ofEvent_cell deafBehind_cons deafBehind_one)
set_option maxHeartbeats 4000000
set_option linter.unusedVariables false

theorem dd_nil (d : Nat) : deafBehind d #[] = d := rfl
theorem dd_rd (Wg d : Nat) : deafBehind d #[rd (stA Wg)] = d := rfl
theorem dd_rw (Wg d : Nat) : deafBehind d #[rd (stA Wg), wr (stA Wg)] = d := rfl
theorem dd_sem (Wg d : Nat) : deafBehind d (semEvents (smA Wg)) = d := by simp [deafBehind, semEvents]

section
variable [Payload] {P : Program} {Shun : Loc → Prop} {ty : TypeId} {m₀ b₀ Wg C n Low : Nat} {Fin : Nat → Gh → World → Prop} {AnchW Post : Gh → Goroutine → World → Prop} {W : World}
  {gs : Array Goroutine} {w w' : World} {sl : Option (Nat × Nat)} {j : Nat} {S : Nat → Nat × Nat} {H : Nat → Gh} {q : Nat → Nat} {tag tag' : CTag} {f0 f' : Nat} {a a' : Goroutine} {t : Trace} {es : Array Event} {γ γ' : Gh} {st sm st' sm' : Int}

/-- An idle step of the starter's. -/
theorem idleX (G : GeoX m₀ Wg C Low W) (hFS : ∀ i γ w w₁, RX ty Wg C n Low γ w w₁ → γ.mc i → Fin i γ w → Fin i γ w₁)
    (ha : gs[0]? = some a) (hcx : CX P Shun ty m₀ b₀ Wg C n Low Fin W j gs w t S H q) (hmc0 : (H 0).mc = fun i => j ≤ i) (hwg : WgAt ty Wg w st sm) (hmode : Go.ConcN.Mode j (Dof S) tag st sm)
    (hgo : stepG P true a w = .go a' w' es) (hD : DX Shun ty Wg C n Low true (H 0) w w' es γ') (hcs' : CSX P Shun ty Wg C n Low Fin AnchW Post tag j f' γ' a' w') (hf : f' < f0) : (∃ m₁ ops μ', runT P (crowd gs w sl) 0 = (Stepped.next m₁, ops) ∧ Lt2 μ' (phi n (Vc j (Dof S)) tag + Ssum j (Dof S), f0 + 2 * Fsum j (Dof S) + 2 * sumTo m₀ q) ∧ InvX P Shun ty m₀ b₀ Wg C n Low Fin AnchW Post W μ' m₁ (t ++ ops)) :=
  callerStepX G hFS ha hcx hmc0 hgo hD.fx hD.grow hD.mc hD.deaf hD.evs hcs' (hwg.of_block hD.wg) hmode (.inr ⟨rfl, hf⟩)
/-- A step on the group's block. -/
theorem bookX (G : GeoX m₀ Wg C Low W) (hFS : ∀ i γ w w₁, RX ty Wg C n Low γ w w₁ → γ.mc i → Fin i γ w → Fin i γ w₁)
    (ha : gs[0]? = some a) (hcx : CX P Shun ty m₀ b₀ Wg C n Low Fin W j gs w t S H q) (hmc0 : (H 0).mc = fun i => j ≤ i)
    (hgo : stepG P true a w = .go a' w' es) (hAs : Aside Wg w w') (hwg' : WgAt ty Wg w' st' sm') (hbk : ∀ e ∈ es, Bk Wg e) (hd : ∀ d, deafBehind d es = d) (hcs' : CSX P Shun ty Wg C n Low Fin AnchW Post tag' j f' (H 0) a' w')
    (hmode' : Go.ConcN.Mode j (Dof S) tag' st' sm') (hlt : phi n (Vc j (Dof S)) tag' < phi n (Vc j (Dof S)) tag ∨ (phi n (Vc j (Dof S)) tag' = phi n (Vc j (Dof S)) tag ∧ f' < f0)) : (∃ m₁ ops μ', runT P (crowd gs w sl) 0 = (Stepped.next m₁, ops) ∧ Lt2 μ' (phi n (Vc j (Dof S)) tag + Ssum j (Dof S), f0 + 2 * Fsum j (Dof S) + 2 * sumTo m₀ q) ∧ InvX P Shun ty m₀ b₀ Wg C n Low Fin AnchW Post W μ' m₁ (t ++ ops)) :=
  callerStepX G hFS ha hcx hmc0 hgo (FX.of_wg hAs ⟨_, _, hwg'⟩ G.hCW) (fun b h => .inl h) rfl (hd _).symm (fun e he => evX_of_bk (hbk e he)) hcs' hwg' hmode' hlt


/-- The load in Wait. -/
theorem w1X (G : GeoX m₀ Wg C Low W) (hFS : ∀ i γ w w₁, RX ty Wg C n Low γ w w₁ → γ.mc i → Fin i γ w → Fin i γ w₁) (hn : n < 2147483648)
    (ha : gs[0]? = some a) (hcx : CX P Shun ty m₀ b₀ Wg C n Low Fin W n gs w t S H q) (hmc0 : (H 0).mc = fun i => n ≤ i) (hwg : WgAt ty Wg w st sm) (hmode : Go.ConcN.Mode n (Dof S) .w1 st sm)
    (h : GX P true (RX ty Wg C n Low) (DX Shun ty Wg C n Low true) (StW1 P Shun ty Wg C n Low AnchW Post) f0 (H 0) a w) :
    ∃ m₁ ops μ', runT P (crowd gs w sl) 0 = (.next m₁, ops) ∧ Lt2 μ' (phi n (Vc n (Dof S)) .w1 + Ssum n (Dof S), f0 + 2 * Fsum n (Dof S) + 2 * sumTo m₀ q) ∧ InvX P Shun ty m₀ b₀ Wg C n Low Fin AnchW Post W μ' m₁ (t ++ ops) := by
  rcases GX.cases h with hstop | ⟨m', rfl, hstep⟩
  · obtain ⟨_, hall⟩ := hstop w (RX.refl _ w)
    obtain ⟨ho, rfl, rfl, _⟩ := hmode.open_inv trivial
    have hV := Vc_le n (Dof S)
    obtain ⟨a', hgo, h0, hne⟩ := hall (Vc n (Dof S)) (by omega) (by simpa [pend] using hwg)
    by_cases hv : Vc n (Dof S) = 0
    · obtain ⟨m₂, hk⟩ := h0 hv
      refine bookX G hFS ha hcx hmc0 hgo (.refl Wg w) hwg bk_rd (dd_rd Wg) (tag' := .acq) (.acq hk) ?_ (.inl (by simp only [phi]; omega))
      have e : ((Vc n (Dof S) + pend .w1 : Nat) : Int) * KK = 0 := by rw [hv]; simp [pend]
      rw [e]
      exact .fin trivial (allQuit_of ho hv)
    · obtain ⟨m₂, hk⟩ := hne hv
      exact bookX G hFS ha hcx hmc0 hgo (.refl Wg w) hwg bk_rd (dd_rd Wg) (tag' := .w2 (Vc n (Dof S))) (.w2 hk) (hmode.reopen trivial trivial rfl (fun vs e => by cases e; omega)) (.inl (by simp only [phi]; omega))
  · obtain ⟨a', w', es, hgo, γ', hD, hg'⟩ := hstep w (RX.refl _ w)
    exact idleX G hFS ha hcx hmc0 hwg hmode hgo hD (.w1 hg') (by omega)

/-- The acquire: behind the join. -/
theorem acqX (G : GeoX m₀ Wg C Low W) (hFS : ∀ i γ w w₁, RX ty Wg C n Low γ w w₁ → γ.mc i → Fin i γ w → Fin i γ w₁)
    (ha : gs[0]? = some a) (hcx : CX P Shun ty m₀ b₀ Wg C n Low Fin W n gs w t S H q) (hmc0 : (H 0).mc = fun i => n ≤ i) (hq : AllQuit n (Dof S)) (hd0 : (H 0).deaf = 0)
    (hgo : stepG P true a w = .go a' w #[mk (.acquire (stA Wg))]) (hrun : a'.status = .running) (hpost : Post (H 0) a' w) :
    ∃ m₁ ops, runT P (crowd gs w sl) 0 = (.next m₁, ops) ∧ EndX P Shun m₀ Wg C n Low Fin Post W m₁ (t ++ ops) := by
  have hm := G.hm
  have hst := hcx.step G hFS (p := 0) (g := a) (g' := a') (fn := a.frame.fn) (pos := a.frame.place) (es := #[mk (.acquire (stA Wg))]) (γ' := H 0) (x := S 0) (Nat.zero_le _) (FX.refl _ w) (fun b h => .inl h) rfl (by simp [deafBehind, mk])
    (fun e he => by simp at he; subst he; exact evX_mute rfl (by simp)) (fun i' e => by cases e) (fun i' e => by cases e) (fun i' e => by cases e)
  rw [pid_zero] at hst
  have eS : upd S 0 (S 0) = S := by funext b; unfold upd; split <;> simp_all
  have eH : upd H 0 (H 0) = H := by funext b; unfold upd; split <;> simp_all
  rw [eS, eH] at hst
  have hrunT := runT_crowd_go (P := P) (sl := sl) (i := 0) ha (by simpa using hgo)
  have h1 : ∀ i, i < n → (S (i + 1)).1 = 1 := fun i hi => hq i hi
  have e1 : MemOp.ofEvents 0 a.frame.fn a.frame.place #[mk (.acquire (stA Wg))] = #[{ g := 0, fn := a.frame.fn, pos := a.frame.place, act := .mark (.acquire (stA Wg)) }] := by rw [ofEvents_eq]; simp [ofEvent_mk]
  have hy : (t ++ #[({ g := 0, fn := a.frame.fn, pos := a.frame.place, act := .mark (.acquire (stA Wg)) } : MemOp)])[t.size]? = some { g := 0, fn := a.frame.fn, pos := a.frame.place, act := .mark (.acquire (stA Wg)) } := by simp
  have dt : Deaf t 0 = 0 := by have := hcx.deaf 0 (Nat.zero_le _); rw [pid_zero] at this; rw [this, hd0]
  refine ⟨_, _, hrunT, (gs.map (woken P a a' w)).setIfInBounds 0 a', w, sl, fun i => if i < m₀ then q i else (S (i - m₀ + 1)).2, a', H 0, rfl, hst.size, get_map_set_same _ _ _ (by rw [hcx.size]; omega), hrun, ⟨fun i g hi hg => ?_, fun k hk => ?_⟩, ?_, hpost, fun i hi => ⟨_, hst.fin i hi (by rw [h1 i hi]; omega)⟩, hst.pay, hst.same⟩
  · by_cases him : i < m₀
    · simp only [him, if_true]
      exact hst.old i g hi him hg
    · obtain ⟨k, rfl⟩ : ∃ k, i = m₀ + k := ⟨i - m₀, by omega⟩
      have hk : k < n := by have := (Array.getElem?_eq_some_iff.1 hg).1; rw [hst.size] at this; omega
      obtain ⟨g', hg', hs'⟩ := hst.wk k hk
      rw [hg] at hg'
      obtain rfl := Option.some.inj hg'
      have e2 : m₀ + k - m₀ + 1 = k + 1 := by omega
      simp only [him, if_false, e2]
      have hdk := hst.deaf (k + 1) (by omega)
      rw [pid_succ] at hdk
      rw [hdk]
      have h1k := h1 k hk
      generalize (S (k + 1)).1 = s at hs' h1k
      subst h1k
      cases hs'
      assumption
  · exact hst.above k (by rw [hst.size] at hk; exact hk)
  · refine past_join (q := t.size) hst.tl.nr hst.kn ?_ hst.seen hst.norel (by rw [e1, act?_of hy]) (by rw [e1]; simp [Trace.g?]) (by rw [e1]; exact ⟨0, by simp [Trace.g?], by rw [deaf_old (Nat.le_refl _)]; exact dt⟩) fun g hg => ?_
    · have := hst.deaf 0 (Nat.zero_le _)
      rw [pid_zero] at this
      rw [this, hd0]
    · obtain ⟨k, rfl⟩ : ∃ k, g = m₀ + k := ⟨g - m₀, by omega⟩
      have hk : k < n := by omega
      obtain ⟨r, hr⟩ := hcx.rel k hk (by rw [h1 k hk]; omega)
      refine ⟨r, hr.app (hr.toRelBy.appOther (g := 0) (fun op hop => by obtain ⟨e, _, rfl⟩ := Go.Conc.mem_ofEvents hop; rfl) (by omega)) (fun op hop hg => ?_), lt_of_act? hr.act⟩
      obtain ⟨e, _, rfl⟩ := Go.Conc.mem_ofEvents hop
      have : (0 : Nat) = m₀ + k := hg
      omega

theorem stepCallerX (G : GeoX m₀ Wg C Low W) (hFS : ∀ i γ w w₁, RX ty Wg C n Low γ w w₁ → γ.mc i → Fin i γ w → Fin i γ w₁) (hn : n < 2147483648)
    (hAn : ∀ γ g w, AnchW γ g w → ∃ m, GX P true (RX ty Wg C n Low) (DX Shun ty Wg C n Low true) (StW1 P Shun ty Wg C n Low AnchW Post) m γ g w)
    (ha : gs[0]? = some a) (hcs : CSX P Shun ty Wg C n Low Fin AnchW Post tag j f0 (H 0) a w) (hcx : CX P Shun ty m₀ b₀ Wg C n Low Fin W j gs w t S H q) (hmc0 : (H 0).mc = fun i => j ≤ i) (hwg : WgAt ty Wg w st sm) (hmode : Go.ConcN.Mode j (Dof S) tag st sm) (hrun : a.status = .running) :
    (∃ m₁ ops, runT P (crowd gs w sl) 0 = (.next m₁, ops) ∧ EndX P Shun m₀ Wg C n Low Fin Post W m₁ (t ++ ops)) ∨ (∃ m₁ ops μ', runT P (crowd gs w sl) 0 = (Stepped.next m₁, ops) ∧ Lt2 μ' (phi n (Vc j (Dof S)) tag + Ssum j (Dof S), f0 + 2 * Fsum j (Dof S) + 2 * sumTo m₀ q) ∧ InvX P Shun ty m₀ b₀ Wg C n Low Fin AnchW Post W μ' m₁ (t ++ ops)) := by
  have hVj := Vc_le j (Dof S)
  have hm := G.hm
  generalize hγ : H 0 = γ0 at hcs
  cases hcs with
  | a1 hr h =>
    subst hγ
    rename_i r
    rcases GX.cases h with hstop | ⟨m', rfl, hstep⟩
    · obtain ⟨_, hall⟩ := hstop w (RX.refl _ w)
      obtain ⟨ho, rfl, rfl, _⟩ := hmode.open_inv trivial
      obtain ⟨a', hgo, m₂, hk⟩ := hall (Vc (n - (r + 1)) (Dof S)) (by omega) (by simpa [pend] using hwg)
      refine .inr (bookX G hFS ha hcx hmc0 hgo (aside_setCell w (stA Wg) _) (hwg.setSt _) bk_rw (dd_rw Wg) (.go hr hk) ?_ (.inl (by simp only [phi]; omega)))
      have e : (((Vc (n - (r + 1)) (Dof S) : Nat) : Int) + 1) * KK = ((Vc (n - (r + 1)) (Dof S) + pend (.sp r 2) : Nat) : Int) * KK := by simp [pend]
      rw [e]
      exact .opn trivial ho (by simp)
    · obtain ⟨a', w', es, hgo, γ', hD, hg'⟩ := hstep w (RX.refl _ w)
      exact .inr (idleX G hFS ha hcx hmc0 hwg hmode hgo hD (.a1 hr hg') (by omega))
  | go hr h =>
    subst hγ
    rename_i r
    rcases GX.cases h with hstop | ⟨m', rfl, hstep⟩
    · obtain ⟨_, hd0, a', child, hsp, _, ⟨m₂, hwk⟩, hnext⟩ := hstop w (RX.refl _ w)
      obtain ⟨ho, rfl, rfl, _⟩ := hmode.open_inv trivial
      have hrun' := runT_crowd_spawn (P := P) (sl := sl) (i := 0) ha (by simpa using hsp)
      rw [hcx.size] at hrun'
      have hcx' := hcx.spawn G (a' := a') (x := { g := 0, fn := a.frame.fn, pos := a.frame.place, act := .go (m₀ + (n - (r + 1))) }) (y := { g := m₀ + (n - (r + 1)), fn := child.frame.fn, pos := a.frame.place, act := .start }) ⟨rfl, rfl⟩ ⟨rfl, rfl⟩ hd0 hmc0 hwk
      have eops : ((MemOp.ofEvents 0 a.frame.fn a.frame.place #[]).push { g := 0, fn := a.frame.fn, pos := a.frame.place, act := .go (m₀ + (n - (r + 1))) } |>.push { g := m₀ + (n - (r + 1)), fn := child.frame.fn, pos := a.frame.place, act := .start }) = #[{ g := 0, fn := a.frame.fn, pos := a.frame.place, act := .go (m₀ + (n - (r + 1))) }, { g := m₀ + (n - (r + 1)), fn := child.frame.fn, pos := a.frame.place, act := .start }] := rfl
      rw [eops] at hrun'
      have eV : Vc (n - (r + 1) + 1) (Dof (upd S (n - (r + 1) + 1) (7, m₂))) = Vc (n - (r + 1)) (Dof S) + 1 := by
        rw [dof_upd]
        simp only [Vc, sumTo, upd_same]
        rw [sumTo_upd_out (Dof S) _ cnt (Nat.le_refl _)]; rfl
      have eS : Ssum (n - (r + 1) + 1) (Dof (upd S (n - (r + 1) + 1) (7, m₂))) = Ssum (n - (r + 1)) (Dof S) + 7 := by
        rw [dof_upd]
        simp only [Ssum, sumTo, upd_same]
        rw [sumTo_upd_out (Dof S) _ WD.stage (Nat.le_refl _)]
      have ho' : OpenSt (n - (r + 1) + 1) (Dof (upd S (n - (r + 1) + 1) (7, m₂))) := fun i hi => by
        rw [dof_upd]
        by_cases e : i = n - (r + 1)
        · subst e; rw [upd_same]; simp
        · rw [upd_ne _ _ e]; exact ho i (by omega)
      have ha' : ((gs.setIfInBounds 0 a').push child)[0]? = some a' := by
        rw [Array.getElem?_push_lt (by simp [hcx.size]; omega), ← Array.getElem?_eq_getElem]
        rw [Array.getElem?_setIfInBounds_self_of_lt (by rw [hcx.size]; omega)]
      have ej : n - (r + 1) + 1 = n - r := by omega
      generalize hHd : upd (upd H (n - (r + 1) + 1) ⟨(H 0).own, fun k => k = n - (r + 1), 0⟩) 0 ⟨fun _ => False, fun i => n - (r + 1) + 1 ≤ i, 0⟩ = H' at hcx'
      have hH0 : H' 0 = ⟨fun _ => False, fun i => n - (r + 1) + 1 ≤ i, 0⟩ := by rw [← hHd, upd_same]
      generalize hSd : upd S (n - (r + 1) + 1) (7, m₂) = S' at hcx' eV eS ho'
      have est : ∀ tag', pend tag' = 0 → ((Vc (n - (r + 1)) (Dof S) + pend (.sp r 2) : Nat) : Int) * KK = ((Vc (n - (r + 1) + 1) (Dof S') + pend tag' : Nat) : Int) * KK := fun tag' hp => by rw [eV, hp]; simp [pend]
      rw [ej] at hcx' eV eS ho' hH0 hnext
      have est' : ∀ tag', pend tag' = 0 → ((Vc (n - (r + 1)) (Dof S) + pend (.sp r 2) : Nat) : Int) * KK = ((Vc (n - r) (Dof S') + pend tag' : Nat) : Int) * KK := fun tag' hp => by have := est tag' hp; rwa [ej] at this
      cases r with
      | zero =>
        obtain ⟨m₃, hk⟩ := hnext
        simp only [Nat.sub_zero] at hcx' eV eS ho' hH0 est' hk
        refine .inr ⟨_, _, (phi n (Vc n (Dof S')) .anch + Ssum n (Dof S'), m₃ + 2 * Fsum n (Dof S') + 2 * sumTo m₀ q), hrun', Prod.Lex.left _ _ (by simp only [phi]; omega),
          _, w, sl, n, S', H', q, .anch, m₃, a', _, _, rfl, ha', by rw [hH0]; exact .anch hk, hcx', by rw [hH0], hwg, ?_, rfl⟩
        rw [est' .anch rfl]
        exact .opn trivial ho' (by simp)
      | succ r' =>
        obtain ⟨m₃, hk⟩ := hnext
        refine .inr ⟨_, _, (phi n (Vc (n - (r' + 1)) (Dof S')) (.sp r' 5) + Ssum (n - (r' + 1)) (Dof S'), m₃ + 2 * Fsum (n - (r' + 1)) (Dof S') + 2 * sumTo m₀ q), hrun', Prod.Lex.left _ _ (by simp only [phi]; omega),
          _, w, sl, n - (r' + 1), S', H', q, .sp r' 5, m₃, a', _, _, rfl, ha', by rw [hH0]; exact .a1 (by omega) hk, hcx', by rw [hH0], hwg, ?_, rfl⟩
        rw [est' (.sp r' 5) rfl]
        exact .opn trivial ho' (by simp)
    · obtain ⟨a', w', es, hgo, γ', hD, hg'⟩ := hstep w (RX.refl _ w)
      exact .inr (idleX G hFS ha hcx hmc0 hwg hmode hgo hD (.go hr hg') (by omega))
  | anch h =>
    subst hγ
    rcases GX.cases h with hstop | ⟨m', rfl, hstep⟩
    · obtain ⟨m₂, hk⟩ := hAn _ a w (hstop w (RX.refl _ w))
      obtain ⟨m₁, ops, μ', h1, h2, h3⟩ := w1X (sl := sl) G hFS hn ha hcx hmc0 hwg (hmode.reopen trivial trivial rfl (by simp)) hk
      exact .inr ⟨m₁, ops, μ', h1, lt2_trans h2 (Prod.Lex.left _ _ (by simp only [phi]; omega)), h3⟩
    · obtain ⟨a', w', es, hgo, γ', hD, hg'⟩ := hstep w (RX.refl _ w)
      exact .inr (idleX G hFS ha hcx hmc0 hwg hmode hgo hD (.anch hg') (by omega))
  | w1 h => subst hγ; exact .inr (w1X G hFS hn ha hcx hmc0 hwg hmode h)
  | w2 h =>
    subst hγ
    rename_i vs
    rcases GX.cases h with hstop | ⟨m', rfl, hstep⟩
    · obtain ⟨_, hall⟩ := hstop w (RX.refl _ w)
      obtain ⟨ho, rfl, rfl, hw2⟩ := hmode.open_inv trivial
      obtain ⟨hle, h1⟩ := hw2 vs rfl
      obtain ⟨hhit, hmiss⟩ := hall (Vc n (Dof S)) (by omega) (by simpa [pend] using hwg)
      by_cases e : Vc n (Dof S) = vs
      · obtain ⟨a', hgo, m₂, hk⟩ := hhit e
        exact .inr (bookX G hFS ha hcx hmc0 hgo (aside_setCell w (stA Wg) _) (hwg.setSt _) bk_rw (dd_rw Wg) (.w3 hk) (.reg trivial ho (by omega)) (.inl (by simp only [phi]; omega)))
      · obtain ⟨a', hgo, m₂, hk⟩ := hmiss e
        exact .inr (bookX G hFS ha hcx hmc0 hgo (.refl Wg w) hwg bk_rd (dd_rd Wg) (.anch hk) (hmode.reopen trivial trivial rfl (by simp)) (.inl (by simp only [phi]; omega)))
    · obtain ⟨a', w', es, hgo, γ', hD, hg'⟩ := hstep w (RX.refl _ w)
      exact .inr (idleX G hFS ha hcx hmc0 hwg hmode hgo hD (.w2 hg') (by omega))
  | w3 h =>
    subst hγ
    rcases GX.cases h with hstop | ⟨m', rfl, hstep⟩
    · obtain ⟨_, hoff, hblk, htake⟩ := hstop w (RX.refl _ w)
      cases hmode with
      | opn h1 _ _ => exact h1.elim
      | reg h1 h2 h3 => exact .inr (bookX G hFS ha hcx hmc0 (hblk ⟨_, hwg⟩) (.refl Wg w) hwg (by simp) dd_nil (.blk hstop) (.reg trivial h2 h3) (.inr ⟨rfl, by omega⟩))
      | last L h1 h2 h3 h4 => exact .inr (bookX G hFS ha hcx hmc0 (hblk ⟨_, hwg⟩) (.refl Wg w) hwg (by simp) dd_nil (.blk hstop) (.last L trivial h2 h3 h4) (.inr ⟨rfl, by omega⟩))
      | sema h2 =>
        obtain ⟨a', hgo, m₂, hk⟩ := htake hwg
        exact .inr (bookX G hFS ha hcx hmc0 hgo (aside_setCell w (smA Wg) _) (hwg.setSm 0) bk_sem (dd_sem Wg) (.w4 hk) (.fin trivial h2) (.inl (by simp only [phi]; omega)))
      | fin h1 _ => exact h1.elim
    · obtain ⟨a', w', es, hgo, γ', hD, hg'⟩ := hstep w (RX.refl _ w)
      exact .inr (idleX G hFS ha hcx hmc0 hwg hmode hgo hD (.w3 hg') (by omega))
  | blk h => simp at hrun
  | w4 h =>
    subst hγ
    rcases GX.cases h with hstop | ⟨m', rfl, hstep⟩
    · obtain ⟨_, hx⟩ := hstop w (RX.refl _ w)
      obtain ⟨hq, rfl, rfl⟩ := hmode.fin_inv trivial
      obtain ⟨a', hgo, m₂, hk⟩ := hx hwg
      exact .inr (bookX G hFS ha hcx hmc0 hgo (.refl Wg w) hwg bk_rd (dd_rd Wg) (.acq hk) (.fin trivial hq) (.inl (by simp only [phi]; omega)))
    · obtain ⟨a', w', es, hgo, γ', hD, hg'⟩ := hstep w (RX.refl _ w)
      exact .inr (idleX G hFS ha hcx hmc0 hwg hmode hgo hD (.w4 hg') (by omega))
  | acq h =>
    subst hγ
    rcases GX.cases h with hstop | ⟨m', rfl, hstep⟩
    · obtain ⟨_, hd0, a', hgo, hrun', hpost⟩ := hstop w (RX.refl _ w)
      obtain ⟨hq, rfl, rfl⟩ := hmode.fin_inv trivial
      exact .inl (acqX G hFS ha hcx hmc0 hq hd0 hgo hrun' hpost)
    · obtain ⟨a', w', es, hgo, γ', hD, hg'⟩ := hstep w (RX.refl _ w)
      exact .inr (idleX G hFS ha hcx hmc0 hwg hmode hgo hD (.acq hg') (by omega))
end

section
variable [Payload] {P : Program} {Shun : Loc → Prop} {ty : TypeId} {m₀ b₀ Wg C n Low : Nat} {Fin : Nat → Gh → World → Prop} {AnchW Post : Gh → Goroutine → World → Prop} {W : World}
theorem WX.running_of {i s m : Nat} {γ : Gh} {g : Goroutine} {w : World} (h : WX P Shun ty Wg C n Low Fin i s m γ g w) (hs : s ≠ 1) : g.status = .running := by
  cases h with
  | r0 h => exact GX.running (fun _ _ _ x => x.2.2.choose_spec.1) (fun γ w => RX.refl γ w) h
  | k1 d h => exact Goes.running (fun _ _ x => x.1) w (RW.refl w) h
  | d1 d h => exact Goes.running (fun _ _ x => x.1) w (RW.refl w) h
  | d2 d h => exact Goes.running (fun _ _ x => x.1) w (RW.refl w) h
  | d3 d h => exact Goes.running (fun _ _ x => x.1) w (RW.refl w) h
  | d4 d h => exact Goes.running (fun _ _ x => x.1) w (RW.refl w) h
  | quit _ => exact absurd rfl hs

theorem crowd_stepX (G : GeoX m₀ Wg C Low W) (hFS : ∀ i γ w w₁, RX ty Wg C n Low γ w w₁ → γ.mc i → Fin i γ w → Fin i γ w₁) (hFd : ∀ i γ d w, Fin i γ w → Fin i ⟨γ.own, γ.mc, d⟩ w) (hAr : ∀ γ g w, AnchW γ g w → g.status = .running) (hn : n < 2147483648)
    (hAn : ∀ γ g w, AnchW γ g w → ∃ m, GX P true (RX ty Wg C n Low) (DX Shun ty Wg C n Low true) (StW1 P Shun ty Wg C n Low AnchW Post) m γ g w) :
    ∀ μ m t, InvX P Shun ty m₀ b₀ Wg C n Low Fin AnchW Post W μ m t → (∃ m' ops, stepT P m = (.next m', ops) ∧ EndX P Shun m₀ Wg C n Low Fin Post W m' (t ++ ops)) ∨ (∃ m' ops μ', stepT P m = (.next m', ops) ∧ Lt2 μ' μ ∧ InvX P Shun ty m₀ b₀ Wg C n Low Fin AnchW Post W μ' m' (t ++ ops)) := by
  rintro μ m t ⟨gs, w, sl, j, S, H, q, tag, f0, a, st, sm, rfl, ha, hcs, hcx, hmc0, hwg, hmode, rfl⟩
  have hm := G.hm
  have who : ∀ i g, gs[i]? = some g → i ≠ 0 → (i < m₀ ∧ QuitsD P (q i) (Deaf t i) g) ∨ ∃ k, i = m₀ + k ∧ k < j ∧ WX P Shun ty Wg C n Low Fin k (S (k + 1)).1 (S (k + 1)).2 (H (k + 1)) g w := by
    intro i g hg h0
    by_cases him : i < m₀
    · exact .inl ⟨him, hcx.old i g (by omega) him hg⟩
    · obtain ⟨k, rfl⟩ : ∃ k, i = m₀ + k := ⟨i - m₀, by omega⟩
      have hk : k < j := by have := (Array.getElem?_eq_some_iff.1 hg).1; rw [hcx.size] at this; omega
      obtain ⟨g', hg', hs⟩ := hcx.wk k hk
      rw [hg] at hg'
      obtain rfl := Option.some.inj hg'
      exact .inr ⟨k, rfl, hk, hs⟩
  have aw : ∀ g ∈ gs, awake g := by
    intro g hg tm
    obtain ⟨i, hi⟩ := Array.mem_iff_getElem?.1 hg
    by_cases h0 : i = 0
    · subst h0
      rw [ha] at hi; cases hi
      rcases hcs.status hAr with ⟨hs, _⟩ | ⟨hs, _⟩ <;> rw [hs] <;> simp
    · rcases who i g hi h0 with ⟨_, hq⟩ | ⟨k, _, _, hs⟩
      · rcases hq.status with h | h <;> rw [h] <;> simp
      · rcases hs.status with h | h <;> rw [h] <;> simp
  have one : ∃ (i : Nat) (g : Goroutine), gs[i]? = some g ∧ g.status = .running := by
    rcases hcs.status hAr with ⟨hs, _⟩ | ⟨_, rfl⟩
    · exact ⟨0, a, ha, hs⟩
    · cases hmode with
      | opn h1 _ _ => exact h1.elim
      | reg _ _ h3 =>
        obtain ⟨i, hi, h5⟩ := exists_counted h3
        obtain ⟨g, hg, hs⟩ := hcx.wk i hi
        have h5' : 5 ≤ (S (i + 1)).1 := h5
        exact ⟨m₀ + i, g, hg, hs.running_of (by omega)⟩
      | last L _ h2 h3 _ =>
        obtain ⟨g, hg, hs⟩ := hcx.wk L h2
        have h3' : (S (L + 1)).1 = 4 ∨ (S (L + 1)).1 = 3 ∨ (S (L + 1)).1 = 2 := h3
        exact ⟨m₀ + L, g, hg, hs.running_of (by omega)⟩
      | fin h1 _ => exact h1.elim
  obtain ⟨i, g, d, sl', hg, hrun, hstep⟩ := crowd_pick (P := P) (w := w) (sl := sl) aw one
  rw [hstep]
  have hcs' := hcs.rely (RX.at _ w d)
  have hcx' := hcx.at hFS d
  have hwg' : WgAt ty Wg (w.at d) st sm := hwg
  by_cases h0 : i = 0
  · subst h0
    rw [ha] at hg; cases hg
    exact stepCallerX (sl := sl') G hFS hn hAn ha hcs' hcx' hmc0 hwg' hmode hrun
  · rcases who i g hg h0 with ⟨him, _⟩ | ⟨k, rfl, hk, _⟩
    · exact .inr (oldStepX (sl := sl') G hAr ha hcs' hcx' hmc0 hwg' hmode (by omega) him hg hrun)
    · exact .inr (stepWorkerX (sl := sl') G hFS hFd hAr hn ha hcs' hcx' hmc0 hwg' hmode hk hg hrun)

/-- From the loop that starts the workers to behind the join, on every tape. -/
theorem crowd_phase {gs : Array Goroutine} {a : Goroutine} {w : World} {sl : Option (Nat × Nat)} {t : Trace} {q : Nat → Nat} (hm : gs.size = m₀) (G : GeoX m₀ Wg C Low w) (hFS : ∀ i γ w w₁, RX ty Wg C n Low γ w w₁ → γ.mc i → Fin i γ w → Fin i γ w₁) (hFd : ∀ i γ d w, Fin i γ w → Fin i ⟨γ.own, γ.mc, d⟩ w) (hAr : ∀ γ g w, AnchW γ g w → g.status = .running) (hn : n < 2147483648)
    (hAn : ∀ γ g w, AnchW γ g w → ∃ m, GX P true (RX ty Wg C n Low) (DX Shun ty Wg C n Low true) (StW1 P Shun ty Wg C n Low AnchW Post) m γ g w)
    (h0 : gs[0]? = some a) (hL : Leavers P t gs q) (hP : PastX Shun Wg t) (hshC : ∀ a, Shun (.cell a) → a.block ≠ C) (hwg : WgAt ty Wg w 0 0) (hpay : PayAt C n w)
    (hgo : SpX P Shun ty Wg C n Low Fin AnchW n ⟨fun _ => False, fun i => 0 ≤ i, 0⟩ a w) :
    ∃ N m' t', runNT P N (crowd gs w sl) t = (.next m', t') ∧ EndX P Shun m₀ Wg C n Low Fin Post w m' t' := by
  have hcx : CX P Shun ty m₀ t.size Wg C n Low Fin w 0 gs w t (fun _ => (0, 0)) (fun _ => ⟨fun _ => False, fun i => 0 ≤ i, 0⟩) q := by
    have hW := G.hW
    have hL' := G.hL
    refine ⟨by omega, fun i g hi _ hg => hL.old i g hi hg, fun i hi => by omega, ⟨fun p _ b hb => hb.elim, fun p p' hp hp' hne => by omega, fun p p' hp hp' hne => by omega⟩, fun i hi => by omega, ⟨?_, ?_, ?_, hP.clean⟩, hP.kn _, Nat.le_refl _, fun i hi hc => ?_, fun p hp => ?_, fun k hk => hL.above k (by omega),
      fun i hi => by omega, fun i hi => by omega, hpay, fun i x hx => Loc.low_mono (by omega) (hP.seen i x hx), ⟨rfl, rfl, rfl, Nat.le_refl _, fun _ _ _ _ => rfl⟩⟩
    · rintro i op x hi hx ⟨b, h1, h2⟩
      have := hP.seen i x (by rw [touchAt_of hi]; exact hx)
      rw [h1] at this
      have : b.block < Wg := this
      omega
    · rintro g ⟨p, hp, rfl⟩ l ⟨p', hp', _, b, rfl, hb⟩ i x hx e
      obtain rfl : p = 0 := by omega
      rw [pid_zero]
      rcases hb with h1 | ⟨h1, _⟩
      · exact h1.elim
      · rcases hP.known i x hx (by rw [e]; rfl) with h2 | ⟨h2, _⟩
        · exact h2
        · rw [e] at h2; exact absurd h1 (hshC _ h2)
    · rintro g ⟨p, hp, rfl⟩ l ⟨b, rfl, _, _, _, hns⟩ i x hx e _
      obtain rfl : p = 0 := by omega
      rw [pid_zero]
      rcases hP.known i x hx (by rw [e]; rfl) with h2 | ⟨h2, _⟩
      · exact h2
      · rw [e] at h2; exact absurd h2 hns
    · have := lt_of_act? hc
      omega
    · obtain rfl : p = 0 := by omega
      exact hP.hears
  have hI : ∃ μ, InvX P Shun ty m₀ t.size Wg C n Low Fin AnchW Post w μ (crowd gs w sl) t := by
    cases n with
    | zero =>
      obtain ⟨m, hk⟩ := hgo
      exact ⟨_, gs, w, sl, 0, fun _ => (0, 0), fun _ => ⟨fun _ => False, fun i => 0 ≤ i, 0⟩, q, .anch, m, a, 0, 0, rfl, h0, .anch hk, hcx, rfl, hwg, by
        have := Go.ConcN.Mode.opn (j := 0) (D := Dof fun _ => (0, 0)) (tag := .anch) trivial (fun i hi => by omega) (by simp)
        simpa [Vc, sumTo, pend] using this, rfl⟩
    | succ r =>
      obtain ⟨m, hk⟩ := hgo
      have hc := CSX.a1 (Post := Post) (Nat.lt_succ_self r) hk
      have e : r + 1 - (r + 1) = 0 := Nat.sub_self _
      rw [e] at hc
      exact ⟨_, gs, w, sl, 0, fun _ => (0, 0), fun _ => ⟨fun _ => False, fun i => 0 ≤ i, 0⟩, q, .sp r 5, m, a, 0, 0, rfl, h0, hc, hcx, rfl, hwg, by
        have := Go.ConcN.Mode.opn (j := 0) (D := Dof fun _ => (0, 0)) (tag := .sp r 5) trivial (fun i hi => by omega) (by simp)
        simpa [Vc, sumTo, pend] using this, rfl⟩
  obtain ⟨μ, hμ⟩ := hI
  exact run_to (r := Lt2) (Prod.lex Nat.lt_wfRel Nat.lt_wfRel).wf _ _ (crowd_stepX G hFS hFd hAr hn hAn) μ _ _ hμ
end
end Go.Proofs.YtafhpbghogdipaaGreatDoor
