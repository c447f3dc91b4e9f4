/- Many goroutines started by one, each making memory of its own: where each stands; what holds of machine and trace at every moment. -/
import Derived.Test.YtafhpbghogdipaaGreatDoorCw2
namespace Go.Proofs.YtafhpbghogdipaaGreatDoor
open Go.Conc Go.ConcN
open Go.ConcR (KK wgBlock WgAt stA smA rd wr mk Payload DC0 Bk g_of_ofEvents)
set_option maxHeartbeats 2000000
set_option linter.unusedVariables false

/-- The number of the goroutine of player p: 0 is the starter, i + 1 is worker i. -/
def pid (m₀ p : Nat) : Nat := if p = 0 then 0 else m₀ + (p - 1)
theorem pid_zero (m₀ : Nat) : pid m₀ 0 = 0 := rfl
theorem pid_succ (m₀ i : Nat) : pid m₀ (i + 1) = m₀ + i := by simp [pid]
theorem pid_inj {m₀ p p' : Nat} (hm : 1 ≤ m₀) (h : pid m₀ p = pid m₀ p') : p = p' := by
  unfold pid at h
  split at h <;> split at h <;> omega

section
variable [Payload] (P : Program) (Shun : Loc → Prop) (ty : TypeId) (Wg C n Low : Nat) (Fin : Nat → Gh → World → Prop)
def StopR (i : Nat) (γ : Gh) (g : Goroutine) (w : World) : Prop := γ.deaf = 0 ∧ Fin i γ w ∧ ∃ v, AtR0 P ty Wg C n Low (i + 1) v g w
/-- A worker's situation: stage, fuel, what it holds. -/
inductive WX (i : Nat) : Nat → Nat → Gh → Goroutine → World → Prop
  | r0 {m : Nat} {γ : Gh} {g : Goroutine} {w : World} : GX P false (RX ty Wg C n Low) (DX Shun ty Wg C n Low false) (StopR P ty Wg C n Low Fin i) m γ g w → WX i 7 m γ g w
  | k1 {m : Nat} {γ : Gh} {g : Goroutine} {w : World} : γ.deaf = 0 → Goes P false (RW ty Wg C n Low (i + 1 - 1)) DC0 (AtK1 P ty Wg C n Low (i + 1)) m g w → WX i 6 m γ g w
  | d1 {m : Nat} {γ : Gh} {g : Goroutine} {w : World} : γ.deaf = 1 → Goes P false (RW ty Wg C n Low (i + 1 - 1)) DC0 (AtD1 P ty Wg C n Low (i + 1)) m g w → WX i 5 m γ g w
  | d2 {m : Nat} {γ : Gh} {g : Goroutine} {w : World} : γ.deaf = 1 → Goes P false (RW ty Wg C n Low (i + 1 - 1)) DC0 (AtD2 P ty Wg C n Low (i + 1)) m g w → WX i 4 m γ g w
  | d3 {m : Nat} {γ : Gh} {g : Goroutine} {w : World} : γ.deaf = 1 → Goes P false (RW ty Wg C n Low (i + 1 - 1)) DC0 (AtD3 P ty Wg C n Low (i + 1)) m g w → WX i 3 m γ g w
  | d4 {m : Nat} {γ : Gh} {g : Goroutine} {w : World} : γ.deaf = 1 → Goes P false (RW ty Wg C n Low (i + 1 - 1)) DC0 (AtD4 P ty Wg) m g w → WX i 2 m γ g w
  | quit {q : Nat} {γ : Gh} {g : Goroutine} {w : World} : QuitsD P q γ.deaf g → WX i 1 q γ g w
end

section
variable [Payload] {P : Program} {Shun : Loc → Prop} {ty : TypeId} {Wg C n Low : Nat} {Fin : Nat → Gh → World → Prop} {i s m : Nat} {γ : Gh} {g : Goroutine} {w w₁ : World}
theorem WX.rely (h : WX P Shun ty Wg C n Low Fin i s m γ g w) (hi : γ.mc i) (hr : RX ty Wg C n Low γ w w₁) : WX P Shun ty Wg C n Low Fin i s m γ g w₁ := by
  have tr : ∀ a b c, RW ty Wg C n Low (i + 1 - 1) a b → RW ty Wg C n Low (i + 1 - 1) b c → RW ty Wg C n Low (i + 1 - 1) a c := fun _ _ _ h1 h2 => h1.trans h2
  have hw : RW ty Wg C n Low (i + 1 - 1) w w₁ := hr.rw hi
  cases h with
  | r0 h => exact .r0 (GX.rely (fun _ _ _ _ h1 h2 => h1.trans h2) h hr)
  | k1 d h => exact .k1 d (Goes.rely tr h hw)
  | d1 d h => exact .d1 d (Goes.rely tr h hw)
  | d2 d h => exact .d2 d (Goes.rely tr h hw)
  | d3 d h => exact .d3 d (Goes.rely tr h hw)
  | d4 d h => exact .d4 d (Goes.rely tr h hw)
  | quit h => exact .quit h
theorem WX.status (h : WX P Shun ty Wg C n Low Fin i s m γ g w) : g.status = .running ∨ g.status = .finished := by
  cases h with
  | r0 h => exact .inl (GX.running (fun _ _ _ x => x.2.2.choose_spec.1) (fun γ w => RX.refl γ w) h)
  | k1 d h => exact .inl (Goes.running (fun _ _ x => x.1) w (RW.refl w) h)
  | d1 d h => exact .inl (Goes.running (fun _ _ x => x.1) w (RW.refl w) h)
  | d2 d h => exact .inl (Goes.running (fun _ _ x => x.1) w (RW.refl w) h)
  | d3 d h => exact .inl (Goes.running (fun _ _ x => x.1) w (RW.refl w) h)
  | d4 d h => exact .inl (Goes.running (fun _ _ x => x.1) w (RW.refl w) h)
  | quit h => exact h.status
theorem WX.woken (h : WX P Shun ty Wg C n Low Fin i s m γ g w) (a a' : Goroutine) (w' : World) : woken P a a' w' g = g := by
  unfold Go.Conc.woken
  split
  · exact again_running _ h.status
  · rfl
end

/-- What is held lies apart. -/
structure GhOk (Low j : Nat) (H : Nat → Gh) (w : World) : Prop where
  lo : ∀ p, p ≤ j → ∀ b, (H p).own b → Low ≤ b ∧ b < w.heap.size
  ap : ∀ p p', p ≤ j → p' ≤ j → p ≠ p' → ∀ b, (H p).own b → ¬ (H p').own b
  mp : ∀ p p', p ≤ j → p' ≤ j → p ≠ p' → ∀ i, (H p).mc i → ¬ (H p').mc i
structure GeoX (m₀ Wg C Low : Nat) (W : World) : Prop where
  hm : 1 ≤ m₀
  hW : Wg < Low
  hC : C < Low
  hCW : C ≠ Wg
  hL : Low ≤ W.heap.size
/-- The world against the world of the start. -/
structure SameX (Wg C Low : Nat) (W w : World) : Prop where
  tape : w.tape = W.tape
  os : w.os = W.os
  output : w.output = W.output
  size : W.heap.size ≤ w.heap.size
  low : ∀ b, b < Low → b ≠ Wg → b ≠ C → w.heap[b]? = W.heap[b]?
def RtOf (C m₀ j : Nat) (H : Nat → Gh) : Nat → Loc → Prop := fun g l => ∃ p, p ≤ j ∧ g = pid m₀ p ∧ RtX C (H p) l
def actOf (m₀ j : Nat) : Nat → Prop := fun g => ∃ p, p ≤ j ∧ g = pid m₀ p

section
variable [Payload] {Shun : Loc → Prop} {ty : TypeId} {m₀ Wg C n Low j : Nat} {H : Nat → Gh} {W w w' : World} {γ' : Gh} {p p' : Nat}
omit [Payload] in
theorem GhOk.at (h : GhOk Low j H w) (d : Nat) : GhOk Low j H (w.at d) := ⟨h.lo, h.ap, h.mp⟩
omit [Payload] in
theorem GhOk.step (h : GhOk Low j H w) (hp : p ≤ j) (hL : Low ≤ w.heap.size) (hs : w.heap.size ≤ w'.heap.size) (hgr : ∀ b, γ'.own b → (H p).own b ∨ (w.heap.size ≤ b ∧ b < w'.heap.size)) (hmc : γ'.mc = (H p).mc) : GhOk Low j (upd H p γ') w' := by
  have key : ∀ x, x ≤ j → ∀ b, (upd H p γ' x).own b → (H x).own b ∨ (x = p ∧ w.heap.size ≤ b ∧ b < w'.heap.size) := by
    intro x hx b hb
    by_cases e : x = p
    · subst e; rw [upd_same] at hb
      exact (hgr b hb).imp id fun y => ⟨rfl, y⟩
    · rw [upd_ne H _ e] at hb; exact .inl hb
  have kmc : ∀ x, (upd H p γ' x).mc = (H x).mc := by
    intro x
    by_cases e : x = p
    · subst e; rw [upd_same, hmc]
    · rw [upd_ne H _ e]
  refine ⟨fun x hx b hb => ?_, fun x x' hx hx' hne b hb hb' => ?_, fun x x' hx hx' hne i hb => ?_⟩
  · rcases key x hx b hb with h1 | ⟨_, h1, h2⟩
    · have := h.lo x hx b h1; omega
    · omega
  · rcases key x hx b hb with h1 | ⟨rfl, h1, h2⟩ <;> rcases key x' hx' b hb' with h3 | ⟨rfl, h3, h4⟩
    · exact h.ap x x' hx hx' hne b h1 h3
    · have := h.lo x hx b h1; omega
    · have := h.lo x' hx' b h3; omega
    · exact hne rfl
  · rw [kmc] at hb ⊢
    exact h.mp x x' hx hx' hne i hb
/-- A player's step lies within what any other suffers. -/
theorem FX.others (G : GeoX m₀ Wg C Low W) (h : GhOk Low j H w) (hL : Low ≤ w.heap.size) (hp : p ≤ j) (hp' : p' ≤ j) (hne : p' ≠ p) (hF : FX ty Wg C n (H p) w w') : RX ty Wg C n Low (H p') w w' := by
  have hW := G.hW
  have hC := G.hC
  refine ⟨hF.size, fun b hb h1 h2 => hF.block b (by omega) h2 h1 fun ho => ?_, fun b hb => ?_, hF.live, hF.pay, fun i hi => hF.cells i fun hm => h.mp p' p hp' hp hne i hi hm⟩
  · have := h.lo p hp b ho; omega
  · have h1 := h.lo p' hp' b hb
    exact hF.block b h1.2 (by omega) (by omega) fun ho => h.ap p' p hp' hp hne b hb ho
theorem SameX.step (G : GeoX m₀ Wg C Low W) (h : SameX Wg C Low W w) (g : GhOk Low j H w) (hp : p ≤ j) (hF : FX ty Wg C n (H p) w w') : SameX Wg C Low W w' := by
  have := G.hL
  have := h.size
  refine ⟨hF.tape.trans h.tape, hF.os.trans h.os, hF.output.trans h.output, Nat.le_trans h.size hF.size, fun b hb h1 h2 => (hF.block b (by omega) h2 h1 fun ho => ?_).trans (h.low b hb h1 h2)⟩
  have := g.lo p hp b ho
  omega
omit [Payload] in
theorem lay_of (G : GeoX m₀ Wg C Low W) (h : GhOk Low j H w) : Lay (ShN Wg) (RoX Shun Wg C Low) (RtOf C m₀ j H) (actOf m₀ j) := by
  have hW := G.hW
  have hC := G.hC
  have hCW := G.hCW
  refine ⟨?_, ?_, ?_, ?_⟩
  · rintro g g' l _ _ ⟨p, hp, rfl, a, rfl, ha⟩ ⟨p', hp', rfl, a', e, ha'⟩
    injection e with e
    subst e
    by_cases hne : p = p'
    · rw [hne]
    · exfalso
      rcases ha with h1 | ⟨h1, h1'⟩ <;> rcases ha' with h2 | ⟨h2, h2'⟩
      · exact h.ap p p' hp hp' hne _ h1 h2
      · have := h.lo p hp _ h1; omega
      · have := h.lo p' hp' _ h2; omega
      · exact h.mp p p' hp hp' hne _ h1' h2'
  · rintro g l _ ⟨p, hp, rfl, a, rfl, ha⟩ ⟨a', e, h1, h2, h3, _⟩
    injection e with e
    subst e
    rcases ha with h4 | ⟨h4, _⟩
    · have := h.lo p hp _ h4; omega
    · exact h3 h4
  · rintro g l _ ⟨p, hp, rfl, a, rfl, ha⟩ ⟨a', e, h1⟩
    injection e with e
    subst e
    rcases ha with h4 | ⟨h4, _⟩
    · have := h.lo p hp _ h4; omega
    · omega
  · rintro l ⟨a, rfl, h1, h2, h3, _⟩ ⟨a', e, h4⟩
    injection e with e
    subst e
    exact h2 h4
end

section
variable [Payload] (P : Program) (Shun : Loc → Prop) (ty : TypeId) (m₀ b₀ Wg C n Low : Nat) (Fin : Nat → Gh → World → Prop) (W : World)
structure CX (j : Nat) (gs : Array Goroutine) (w : World) (t : Trace) (S : Nat → Nat × Nat) (H : Nat → Gh) (q : Nat → Nat) : Prop where
  size : gs.size = m₀ + j
  old : ∀ i g, 0 < i → i < m₀ → gs[i]? = some g → QuitsD P (q i) (Deaf t i) g
  wk : ∀ i, i < j → ∃ g, gs[m₀ + i]? = some g ∧ WX P Shun ty Wg C n Low Fin i (S (i + 1)).1 (S (i + 1)).2 (H (i + 1)) g w
  gh : GhOk Low j H w
  mcw : ∀ i, i < j → (H (i + 1)).mc = fun k => k = i
  tl : TL (ShN Wg) (RoX Shun Wg C Low) (RtOf C m₀ j H) (actOf m₀ j) t
  kn : KN Shun (fun g => m₀ ≤ g ∧ g < m₀ + j) t
  base : b₀ ≤ t.size
  norel : NoRelFrom (stA Wg) b₀ t
  deaf : ∀ p, p ≤ j → Deaf t (pid m₀ p) = (H p).deaf
  above : ∀ k, m₀ + j ≤ k → Deaf t k = 0
  rel : ∀ i, i < j → (S (i + 1)).1 ≤ 6 → ∃ r, RelX (ShN Wg) (stA Wg) b₀ t (m₀ + i) r
  fin : ∀ i, i < j → (S (i + 1)).1 ≤ 6 → Fin i (H (i + 1)) w
  pay : PayAt C n w
  seen : ∀ i a, touchAt t i = some a → a.loc.low w.heap.size
  same : SameX Wg C Low W w
end

section
variable [Payload] {P : Program} {Shun : Loc → Prop} {ty : TypeId} {m₀ b₀ Wg C n Low : Nat} {Fin : Nat → Gh → World → Prop} {W : World}
  {j : Nat} {gs : Array Goroutine} {w w' : World} {t : Trace} {S : Nat → Nat × Nat} {H : Nat → Gh} {q : Nat → Nat}
theorem CX.low (G : GeoX m₀ Wg C Low W) (h : CX P Shun ty m₀ b₀ Wg C n Low Fin W j gs w t S H q) : Low ≤ w.heap.size := Nat.le_trans G.hL h.same.size
theorem CX.at (hFS : ∀ i γ w w₁, RX ty Wg C n Low γ w w₁ → γ.mc i → Fin i γ w → Fin i γ w₁) (h : CX P Shun ty m₀ b₀ Wg C n Low Fin W j gs w t S H q) (d : Nat) : CX P Shun ty m₀ b₀ Wg C n Low Fin W j gs (w.at d) t S H q := by
  have hmc : ∀ i, i < j → (H (i + 1)).mc i := fun i hi => by rw [h.mcw i hi]
  exact ⟨h.size, h.old, fun i hi => let ⟨g, hg, hs⟩ := h.wk i hi; ⟨g, hg, hs.rely (hmc i hi) (RX.at _ w d)⟩, h.gh.at d, h.mcw, h.tl, h.kn, h.base, h.norel, h.deaf, h.above, h.rel,
    fun i hi hs => hFS _ _ _ _ (RX.at _ w d) (hmc i hi) (h.fin i hi hs), h.pay, h.seen, ⟨h.same.tape, h.same.os, h.same.output, h.same.size, h.same.low⟩⟩

omit [Payload] in
theorem touch_ev {main : Bool} {γ : Gh} {e : Event} {x : Touch} (hL : Low ≤ w'.heap.size) (hW : Wg < Low) (hC : C < Low) (he : EvX Shun Wg C Low main γ e) (hx : (MemAct.ofEvent e).touch? = some x) (ho : ∀ b, γ.own b → b < w'.heap.size) : x.loc.low w'.heap.size := by
  rcases he.1 x hx with ⟨⟨a, h1, h2⟩, _⟩ | ⟨a, h1, h2⟩ | ⟨⟨a, h1, h2, _⟩, _⟩ <;> rw [h1] <;> show a.block < _
  · omega
  · rcases h2 with h3 | ⟨h3, _⟩
    · exact ho _ h3
    · omega
  · omega

/-- A step of player p. -/
theorem CX.step (G : GeoX m₀ Wg C Low W) (hFS : ∀ i γ w w₁, RX ty Wg C n Low γ w w₁ → γ.mc i → Fin i γ w → Fin i γ w₁) (h : CX P Shun ty m₀ b₀ Wg C n Low Fin W j gs w t S H q) {p : Nat} (hp : p ≤ j) {g g' : Goroutine} {fn : FuncId} {pos : String} {es : Array Event} {γ' : Gh} {x : Nat × Nat}
    (hF : FX ty Wg C n (H p) w w') (hgr : ∀ b, γ'.own b → (H p).own b ∨ (w.heap.size ≤ b ∧ b < w'.heap.size)) (hmc : γ'.mc = (H p).mc) (hdf : γ'.deaf = deafBehind (H p).deaf es) (hev : ∀ e ∈ es, EvX Shun Wg C Low (p == 0) γ' e)
    (hw : ∀ i, p = i + 1 → WX P Shun ty Wg C n Low Fin i x.1 x.2 γ' g' w')
    (hrel : ∀ i, p = i + 1 → x.1 ≤ 6 → ∃ r, RelX (ShN Wg) (stA Wg) b₀ (t ++ MemOp.ofEvents (m₀ + i) fn pos es) (m₀ + i) r)
    (hfin : ∀ i, p = i + 1 → x.1 ≤ 6 → Fin i γ' w') :
    CX P Shun ty m₀ b₀ Wg C n Low Fin W j ((gs.map (woken P g g' w')).setIfInBounds (pid m₀ p) g') w' (t ++ MemOp.ofEvents (pid m₀ p) fn pos es) (upd S p x) (upd H p γ') q := by
  have hL := h.low G
  have hm := G.hm
  have gh' : GhOk Low j (upd H p γ') w' := h.gh.step hp hL hF.size hgr hmc
  have hmcw : ∀ i, i < j → (H (i + 1)).mc i := fun i hi => by rw [h.mcw i hi]
  have hrx : ∀ p', p' ≤ j → p' ≠ p → RX ty Wg C n Low (H p') w w' := fun p' hp' hne => hF.others G h.gh hL hp hp' hne
  have hps : pid m₀ p < gs.size := by rw [h.size]; unfold pid; split <;> omega
  have hops : ∀ op ∈ MemOp.ofEvents (pid m₀ p) fn pos es, ∃ e ∈ es, op = { g := pid m₀ p, fn, pos, act := .ofEvent e } := fun op hop => Go.Conc.mem_ofEvents hop
  have hops0 : ∀ op ∈ MemOp.ofEvents (pid m₀ p) fn pos es, op.g = pid m₀ p := fun op hop => by obtain ⟨e, _, rfl⟩ := hops op hop; rfl
  refine ⟨by simp [h.size], fun i x hi him hx => ?_, fun i hi => ?_, gh', fun i hi => ?_, ?_, h.kn.app fun op hop => ?_, by have := h.base; simp; omega, h.norel.app fun op hop e => ?_, fun p' hp' => ?_, fun k hk => ?_, fun i hi hs => ?_, fun i hi hs => ?_, hF.pay h.pay, fun i a ha => ?_, h.same.step G h.gh hp hF⟩
  · have hne : pid m₀ p ≠ i := by unfold pid; split <;> omega
    rw [get_map_set _ _ _ _ hne] at hx
    obtain ⟨y, hy, rfl⟩ := Option.map_eq_some_iff.1 hx
    have hq := h.old i y hi him hy
    rw [woken_quitsD hq, Deaf_other t hne _ hops0]
    exact hq
  · by_cases e : p = i + 1
    · subst e
      refine ⟨g', by rw [← pid_succ]; exact get_map_set_same _ _ _ hps, ?_⟩
      rw [upd_same, upd_same]
      exact hw i rfl
    · obtain ⟨y, hy, hsy⟩ := h.wk i hi
      have hne : pid m₀ p ≠ m₀ + i := fun he => e (pid_inj hm (he.trans (pid_succ m₀ i).symm))
      refine ⟨y, by rw [get_map_set _ _ _ _ hne, hy, Option.map_some, hsy.woken], ?_⟩
      rw [upd_ne S _ (Ne.symm e), upd_ne H _ (Ne.symm e)]
      exact hsy.rely (hmcw i hi) (hrx (i + 1) (by omega) (Ne.symm e))
  · by_cases e : i + 1 = p
    · rw [← e, upd_same, hmc, ← e, h.mcw i hi]
    · rw [upd_ne H _ e, h.mcw i hi]
  · have hch : TL (ShN Wg) (RoX Shun Wg C Low) (RtOf C m₀ j (upd H p γ')) (actOf m₀ j) t := by
      refine h.tl.change (fun g hg => hg) fun g l _ ⟨p', hp', hg, a, hl, ha⟩ => ?_
      by_cases e : p' = p
      · subst e
        rw [upd_same, hmc] at ha
        rcases ha with h1 | h1
        · rcases hgr _ h1 with h2 | ⟨h2, h3⟩
          · exact .inl ⟨p', hp', hg, a, hl, .inl h2⟩
          · refine .inr fun i b hb hbl => ?_
            have h4 := h.seen i b hb
            rw [hbl, hl] at h4
            have h5 : a.block < w.heap.size := h4
            omega
        · exact .inl ⟨p', hp', hg, a, hl, .inr h1⟩
      · rw [upd_ne H _ e] at ha
        exact .inl ⟨p', hp', hg, a, hl, ha⟩
    refine hch.app (lay_of G gh') ⟨p, hp, rfl⟩ fun op hop => ?_
    obtain ⟨e, he, rfl⟩ := hops op hop
    refine ⟨rfl, fun x hx => ?_⟩
    rcases (hev e he).1 x hx with ⟨h1, h2, h3⟩ | h1 | h1
    · refine .inl ⟨h1, h2, fun hk => ?_⟩
      have := h3 hk
      simp at this
      rw [this]; rfl
    · exact .inr (.inl ⟨p, hp, rfl, by rw [upd_same]; exact h1⟩)
    · exact .inr (.inr h1)
  · rw [hops0 op hop]
    unfold pid
    split
    · exact .inl rfl
    · exact .inr (.inl ⟨by omega, by omega⟩)
  · obtain ⟨e', he, rfl⟩ := hops op hop
    exact (hev e' he).2 (Go.ConcR.loc_of_ofEvent e)
  · by_cases e : p' = p
    · subst e; rw [Deaf_own, h.deaf p' hp', upd_same, hdf]
    · rw [Deaf_other t (fun he => e (pid_inj hm he.symm)) _ hops0, h.deaf p' hp', upd_ne H _ e]
  · rw [Deaf_other t (by unfold pid; split <;> omega) _ hops0]
    exact h.above k hk
  · by_cases e : p = i + 1
    · subst e
      rw [upd_same] at hs
      rw [pid_succ]
      exact hrel i rfl hs
    · rw [upd_ne S _ (Ne.symm e)] at hs
      obtain ⟨r, hr⟩ := h.rel i hi hs
      have hne : pid m₀ p ≠ m₀ + i := fun he => e (pid_inj hm (he.trans (pid_succ m₀ i).symm))
      exact ⟨r, hr.app (hr.toRelBy.appOther hops0 hne) fun op hop hg => absurd ((hops0 op hop).symm.trans hg) hne⟩
  · by_cases e : p = i + 1
    · subst e
      rw [upd_same] at hs
      rw [upd_same]
      exact hfin i rfl hs
    · rw [upd_ne S _ (Ne.symm e)] at hs
      rw [upd_ne H _ (Ne.symm e)]
      exact hFS _ _ _ _ (hrx (i + 1) (by omega) (Ne.symm e)) (hmcw i hi) (h.fin i hi hs)
  · obtain ⟨x, hx, hxa⟩ := touch_of ha
    rcases getElem?_append_cases hx with ⟨_, hx'⟩ | ⟨_, hxu⟩
    · exact Loc.low_mono hF.size (h.seen i a (by rw [touchAt_of hx']; exact hxa))
    · obtain ⟨e, he, rfl⟩ := hops x hxu
      refine touch_ev (by have := hF.size; omega) G.hW G.hC (hev e he) hxa fun b hb => ?_
      have := gh'.lo p hp b (by rw [upd_same]; exact hb)
      omega

/-- An old goroutine slips. -/
theorem CX.slip (h : CX P Shun ty m₀ b₀ Wg C n Low Fin W j gs w t S H q) {i k : Nat} (hm : 1 ≤ m₀) (hi : 0 < i) (him : i < m₀) {g g' : Goroutine} {fn : FuncId} {pos : String} {es : Array Event}
    (hmu : ∀ e ∈ es, e.mute = true) (hq : QuitsD P k (deafBehind (Deaf t i) es) g') :
    CX P Shun ty m₀ b₀ Wg C n Low Fin W j ((gs.map (woken P g g' w)).setIfInBounds i g') w (t ++ MemOp.ofEvents i fn pos es) S H (upd q i k) := by
  have hops : ∀ op ∈ MemOp.ofEvents i fn pos es, ∃ e ∈ es, op = { g := i, fn, pos, act := .ofEvent e } := fun op hop => Go.Conc.mem_ofEvents hop
  have hops0 : ∀ op ∈ MemOp.ofEvents i fn pos es, op.g = i := fun op hop => by obtain ⟨e, _, rfl⟩ := hops op hop; rfl
  have hnt : ∀ op ∈ MemOp.ofEvents i fn pos es, op.act.touch? = none := fun op hop => by obtain ⟨e, he, rfl⟩ := hops op hop; exact touch_mute (hmu e he)
  have hnp : ∀ p, p ≤ j → i ≠ pid m₀ p := fun p hp => by unfold pid; split <;> omega
  refine ⟨by simp [h.size], fun i' x hi' him' hx => ?_, fun i' hi' => ?_, h.gh, h.mcw, h.tl.mute hops0 hnt, h.kn.app fun op hop => .inr (.inr (hnt op hop)), by have := h.base; simp; omega, h.norel.app fun op hop e => ?_, fun p hp => by rw [Deaf_other t (hnp p hp) _ hops0, h.deaf p hp],
    fun k' hk' => by rw [Deaf_other t (by omega) _ hops0, h.above k' hk'], fun i' hi' hs => ?_, h.fin, h.pay, fun i' a ha => ?_, h.same⟩
  · by_cases e : i = i'
    · subst e
      rw [get_map_set_same _ _ _ (by rw [h.size]; omega)] at hx
      obtain rfl := Option.some.inj hx
      rw [upd_same, Deaf_own]
      exact hq
    · rw [get_map_set _ _ _ _ e] at hx
      obtain ⟨y, hy, rfl⟩ := Option.map_eq_some_iff.1 hx
      have hq' := h.old i' y hi' him' hy
      rw [woken_quitsD hq', upd_ne q _ (Ne.symm e), Deaf_other t e _ hops0]
      exact hq'
  · obtain ⟨y, hy, hsy⟩ := h.wk i' hi'
    exact ⟨y, by rw [get_map_set _ _ _ _ (by omega), hy, Option.map_some, hsy.woken], hsy⟩
  · obtain ⟨e', he, rfl⟩ := hops op hop
    have h1 := Go.ConcR.loc_of_ofEvent e
    have h2 := hmu e' he
    obtain ⟨l, b1, b2⟩ := e'
    obtain rfl : l = _ := h1
    simp [Event.mute] at h2
  · obtain ⟨r, hr⟩ := h.rel i' hi' hs
    exact ⟨r, hr.app (hr.toRelBy.appOther hops0 (by omega)) fun op hop hg => absurd ((hops0 op hop).symm.trans hg) (by omega)⟩
  · obtain ⟨x, hx, hxa⟩ := touch_of ha
    rcases getElem?_append_cases hx with ⟨_, hx'⟩ | ⟨_, hxu⟩
    · exact h.seen i' a (by rw [touchAt_of hx']; exact hxa)
    · rw [hnt x hxu] at hxa; cases hxa

/-- The go statement: worker j is started; it gets what the starter holds, and cell j. -/
theorem CX.spawn (G : GeoX m₀ Wg C Low W) (h : CX P Shun ty m₀ b₀ Wg C n Low Fin W j gs w t S H q) {a' child : Goroutine} {x y : MemOp} {m : Nat} (hx : x.g = 0 ∧ x.act = .go (m₀ + j)) (hy : y.g = m₀ + j ∧ y.act = .start)
    (hd0 : (H 0).deaf = 0) (hmc0 : (H 0).mc = fun i => j ≤ i)
    (hc : GX P false (RX ty Wg C n Low) (DX Shun ty Wg C n Low false) (StopR P ty Wg C n Low Fin j) m ⟨(H 0).own, fun k => k = j, 0⟩ child w) :
    CX P Shun ty m₀ b₀ Wg C n Low Fin W (j + 1) ((gs.setIfInBounds 0 a').push child) w (t ++ #[x, y]) (upd S (j + 1) (7, m)) (upd (upd H (j + 1) ⟨(H 0).own, fun k => k = j, 0⟩) 0 ⟨fun _ => False, fun i => j + 1 ≤ i, 0⟩) q := by
  have hm := G.hm
  have hmem : ∀ op ∈ #[x, y], op = x ∨ op = y := by intro op hop; simpa using hop
  have hst : ∀ op ∈ #[x, y], op.act ≠ .mark .disable ∧ op.act ≠ .mark .enable := by
    intro op hop
    rcases hmem op hop with rfl | rfl
    · rw [hx.2]; exact ⟨by simp, by simp⟩
    · rw [hy.2]; exact ⟨by simp, by simp⟩
  have hnt : ∀ op ∈ #[x, y], op.act.touch? = none := by
    intro op hop
    rcases hmem op hop with rfl | rfl
    · rw [hx.2]; rfl
    · rw [hy.2]; rfl
  have hH : ∀ p, p ≤ j → p ≠ 0 → upd (upd H (j + 1) ⟨(H 0).own, fun k => k = j, 0⟩) 0 ⟨fun _ => False, fun i => j + 1 ≤ i, 0⟩ p = H p := fun p hp h0 => by rw [upd_ne _ _ h0, upd_ne H _ (by omega)]
  have hHn : upd (upd H (j + 1) ⟨(H 0).own, fun k => k = j, 0⟩) 0 ⟨fun _ => False, fun i => j + 1 ≤ i, 0⟩ (j + 1) = ⟨(H 0).own, fun k => k = j, 0⟩ := by rw [upd_ne _ _ (by omega), upd_same]
  have hH0 : upd (upd H (j + 1) ⟨(H 0).own, fun k => k = j, 0⟩) 0 ⟨fun _ => False, fun i => j + 1 ≤ i, 0⟩ 0 = ⟨fun _ => False, fun i => j + 1 ≤ i, 0⟩ := upd_same _ _ _
  have cases3 : ∀ p, p ≤ j + 1 → p = 0 ∨ p = j + 1 ∨ (p ≤ j ∧ p ≠ 0) := fun p hp => by omega
  generalize hHd : upd (upd H (j + 1) ⟨(H 0).own, fun k => k = j, 0⟩) 0 ⟨fun _ => False, fun i => j + 1 ≤ i, 0⟩ = H' at hH hHn hH0 ⊢
  have hsz : (gs.setIfInBounds 0 a').size = m₀ + j := by simp [h.size]
  refine ⟨by simp [h.size]; omega, fun i g hi him hg => ?_, fun i hi => ?_, ⟨fun p hp b hb => ?_, fun p p' hp hp' hne b hb hb' => ?_, fun p p' hp hp' hne i hb hb' => ?_⟩, fun i hi => ?_, ?_, ?_, by have := h.base; simp; omega,
    h.norel.app fun op hop => ?_, fun p hp => ?_, fun k hk => by rw [Deaf_still t k _ hst, h.above k (by omega)], fun i hi hs => ?_, fun i hi hs => ?_, h.pay, fun i a ha => ?_, h.same⟩
  · rw [Array.getElem?_push_lt (by omega), ← Array.getElem?_eq_getElem, Array.getElem?_setIfInBounds_ne (by omega)] at hg
    rw [Deaf_still t i _ hst]
    exact h.old i g hi him hg
  · rcases Nat.lt_or_ge i j with hlt | hge
    · obtain ⟨g, hg, hsg⟩ := h.wk i hlt
      refine ⟨g, ?_, by rw [upd_ne S _ (by omega), hH (i + 1) (by omega) (by omega)]; exact hsg⟩
      rw [Array.getElem?_push_lt (by omega), ← Array.getElem?_eq_getElem, Array.getElem?_setIfInBounds_ne (by omega)]
      exact hg
    · obtain rfl : i = j := by omega
      exact ⟨child, by rw [← hsz, Array.getElem?_push_size], by rw [upd_same, hHn]; exact .r0 hc⟩
  · rcases cases3 p hp with rfl | rfl | ⟨h1, h2⟩
    · rw [hH0] at hb; exact hb.elim
    · rw [hHn] at hb; exact h.gh.lo 0 (by omega) b hb
    · rw [hH p h1 h2] at hb; exact h.gh.lo p h1 b hb
  · rcases cases3 p hp with rfl | rfl | ⟨h1, h2⟩ <;> rcases cases3 p' hp' with rfl | rfl | ⟨h3, h4⟩
    · exact hne rfl
    · rw [hH0] at hb; exact hb
    · rw [hH0] at hb; exact hb
    · rw [hH0] at hb'; exact hb'
    · exact hne rfl
    · rw [hHn] at hb; rw [hH p' h3 h4] at hb'
      exact h.gh.ap 0 p' (by omega) h3 (Ne.symm h4) b hb hb'
    · rw [hH0] at hb'; exact hb'
    · rw [hHn] at hb'; rw [hH p h1 h2] at hb
      exact h.gh.ap p 0 h1 (by omega) h2 b hb hb'
    · rw [hH p h1 h2] at hb; rw [hH p' h3 h4] at hb'
      exact h.gh.ap p p' h1 h3 hne b hb hb'
  · have mcp : ∀ p, p ≤ j → p ≠ 0 → ∀ i, (H p).mc i → i < j := fun p h1 h2 i hi => by
      obtain ⟨k, rfl⟩ := Nat.exists_eq_succ_of_ne_zero h2
      rw [h.mcw k (by omega)] at hi
      have : i = k := hi
      omega
    rcases cases3 p hp with rfl | rfl | ⟨h1, h2⟩ <;> rcases cases3 p' hp' with rfl | rfl | ⟨h3, h4⟩
    · exact hne rfl
    · rw [hH0] at hb; rw [hHn] at hb'
      have e1 : j + 1 ≤ i := hb
      have e2 : i = j := hb'
      omega
    · rw [hH0] at hb; rw [hH p' h3 h4] at hb'
      have e1 : j + 1 ≤ i := hb
      have := mcp p' h3 h4 i hb'
      omega
    · rw [hHn] at hb; rw [hH0] at hb'
      have e1 : j + 1 ≤ i := hb'
      have e2 : i = j := hb
      omega
    · exact hne rfl
    · rw [hHn] at hb; rw [hH p' h3 h4] at hb'
      have e2 : i = j := hb
      have := mcp p' h3 h4 i hb'
      omega
    · rw [hH p h1 h2] at hb; rw [hH0] at hb'
      have e1 : j + 1 ≤ i := hb'
      have := mcp p h1 h2 i hb
      omega
    · rw [hH p h1 h2] at hb; rw [hHn] at hb'
      have e2 : i = j := hb'
      have := mcp p h1 h2 i hb
      omega
    · rw [hH p h1 h2] at hb; rw [hH p' h3 h4] at hb'
      exact h.gh.mp p p' h1 h3 hne i hb hb'
  · rcases Nat.lt_or_ge i j with hlt | hge
    · rw [hH (i + 1) (by omega) (by omega)]; exact h.mcw i hlt
    · obtain rfl : i = j := by omega
      rw [hHn]
  · refine h.tl.fork hx hy ((h.deaf 0 (by omega)).trans hd0) (h.above _ (Nat.le_refl _)) ⟨0, by omega, rfl⟩ ?_ ?_ ?_ ?_
    · rintro g ⟨p, hp, rfl⟩
      rcases cases3 p hp with rfl | rfl | ⟨h1, h2⟩
      · exact .inl ⟨0, by omega, rfl⟩
      · exact .inr (pid_succ _ _)
      · exact .inl ⟨p, h1, rfl⟩
    · rintro g l ⟨p0, hp0, rfl⟩ ⟨p, hp, e, a, rfl, ha⟩
      obtain rfl := pid_inj hm e
      refine ⟨p0, hp0, rfl, a, rfl, ?_⟩
      rcases cases3 p0 hp with rfl | rfl | ⟨h1, h2⟩
      · rw [hH0] at ha
        rcases ha with h1 | ⟨h1, h2⟩
        · exact h1.elim
        · refine .inr ⟨h1, ?_⟩
          rw [hmc0]
          have e1 : j + 1 ≤ a.off := h2
          show j ≤ a.off
          omega
      · omega
      · rw [hH p0 h1 h2] at ha; exact ha
    · rintro l ⟨p, hp, e, a, rfl, ha⟩
      obtain rfl : j + 1 = p := pid_inj hm ((pid_succ _ _).trans e)
      rw [hHn] at ha
      refine ⟨0, by omega, rfl, a, rfl, ha.imp id fun ⟨h1, h2⟩ => ⟨h1, ?_⟩⟩
      rw [hmc0]
      have e1 : a.off = j := h2
      show j ≤ a.off
      omega
    · rintro ⟨p, hp, e⟩
      unfold pid at e
      split at e <;> omega
  · refine (h.kn.more fun g hg => ⟨hg.1, by omega⟩).app fun op hop => .inr (.inr (hnt op hop))
  · rcases hmem op hop with rfl | rfl
    · rw [hx.2]; simp
    · rw [hy.2]; simp
  · rw [Deaf_still t _ _ hst]
    rcases cases3 p hp with rfl | rfl | ⟨h1, h2⟩
    · rw [hH0, h.deaf 0 (by omega), hd0]
    · rw [hHn, pid_succ, h.above _ (Nat.le_refl _)]
    · rw [hH p h1 h2, h.deaf p h1]
  · rcases Nat.lt_or_ge i j with hlt | hge
    · rw [upd_ne S _ (by omega)] at hs
      obtain ⟨r, hr⟩ := h.rel i hlt hs
      refine ⟨r, hr.app (hr.toRelBy.appNot fun op hop => ?_) fun op hop _ x hx => by rw [hnt op hop] at hx; cases hx⟩
      rcases hmem op hop with rfl | rfl
      · rw [hx.1]; omega
      · rw [hy.1]; omega
    · obtain rfl : i = j := by omega
      rw [upd_same] at hs
      simp at hs
  · rcases Nat.lt_or_ge i j with hlt | hge
    · rw [upd_ne S _ (by omega)] at hs
      rw [hH (i + 1) (by omega) (by omega)]
      exact h.fin i hlt hs
    · obtain rfl : i = j := by omega
      rw [upd_same] at hs
      simp at hs
  · obtain ⟨x', hx', hxa⟩ := touch_of ha
    rcases getElem?_append_cases hx' with ⟨_, hx'⟩ | ⟨_, hxu⟩
    · exact h.seen i a (by rw [touchAt_of hx']; exact hxa)
    · rw [hnt x' hxu] at hxa; cases hxa
end
end Go.Proofs.YtafhpbghogdipaaGreatDoor
