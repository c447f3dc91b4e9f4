/- One goroutine's own walk in company, with what it holds: blocks of its own making, cells of the payload, how deaf it is. -/
import Derived.Test.YtafhpbghogdipaaGreatDoorCw1
namespace Go.Proofs.YtafhpbghogdipaaGreatDoor
open Go.Conc Go.ConcN
open Go.ConcR (KK wgBlock WgAt stA smA rd wr mk Payload DC0 Bk g_of_ofEvents)
set_option maxHeartbeats 2000000
set_option linter.unusedVariables false

/-- What a goroutine holds. -/
structure Gh where
  own : Nat → Prop
  mc : Nat → Prop
  deaf : Nat

section
variable [Payload] (Shun : Loc → Prop) (ty : TypeId) (Wg C n Low : Nat)
/-- What it suffers. -/
structure RX (γ : Gh) (w w₁ : World) : Prop where
  size : w.heap.size ≤ w₁.heap.size
  low : ∀ b, b < Low → b ≠ Wg → b ≠ C → w₁.heap[b]? = w.heap[b]?
  own : ∀ b, γ.own b → w₁.heap[b]? = w.heap[b]?
  live : WgLive ty Wg w → WgLive ty Wg w₁
  pay : PayAt C n w → PayAt C n w₁
  cell : ∀ i, γ.mc i → w₁.cell? ⟨C, i, none⟩ = w.cell? ⟨C, i, none⟩
omit [Payload] in
def RtX (γ : Gh) (l : Loc) : Prop := ∃ a, l = .cell a ∧ (γ.own a.block ∨ (a.block = C ∧ γ.mc a.off))
omit [Payload] in
def RoX (l : Loc) : Prop := ∃ a, l = .cell a ∧ a.block < Low ∧ a.block ≠ Wg ∧ a.block ≠ C ∧ ¬ Shun l
omit [Payload] in
def EvX (main : Bool) (γ : Gh) (e : Event) : Prop :=
  (∀ x, (MemAct.ofEvent e).touch? = some x → (ShN Wg x.loc ∧ x.kind ≠ .plain ∧ (x.kind = .said → main = true)) ∨ RtX C γ x.loc ∨ (RoX Shun Wg C Low x.loc ∧ x.write = false)) ∧ e.loc ≠ .mark (.release (stA Wg))
/-- What a step of its own does to the world. -/
structure FX (γ : Gh) (w w' : World) : Prop where
  tape : w'.tape = w.tape
  os : w'.os = w.os
  output : w'.output = w.output
  size : w.heap.size ≤ w'.heap.size
  block : ∀ b, b < w.heap.size → b ≠ C → b ≠ Wg → ¬ γ.own b → w'.heap[b]? = w.heap[b]?
  live : WgLive ty Wg w → WgLive ty Wg w'
  pay : PayAt C n w → PayAt C n w'
  cells : ∀ i, ¬ γ.mc i → w'.cell? ⟨C, i, none⟩ = w.cell? ⟨C, i, none⟩
/-- .. an idle step, the group's block standing. -/
structure DX (main : Bool) (γ : Gh) (w w' : World) (es : Array Event) (γ' : Gh) : Prop where
  fx : FX ty Wg C n γ w w'
  wg : w'.heap[Wg]? = w.heap[Wg]?
  grow : ∀ b, γ'.own b → γ.own b ∨ (w.heap.size ≤ b ∧ b < w'.heap.size)
  mc : γ'.mc = γ.mc
  deaf : γ'.deaf = deafBehind γ.deaf es
  evs : ∀ e ∈ es, EvX Shun Wg C Low main γ' e
end

/-- 'g', in world 'w', holding γ, is at most n own steps from a stop. -/
def GX (P : Program) (main : Bool) (R : Gh → World → World → Prop) (D : Gh → World → World → Array Event → Gh → Prop) (Stop : Gh → Goroutine → World → Prop) : Nat → Gh → Goroutine → World → Prop
  | 0, γ, g, w => ∀ w₁, R γ w w₁ → Stop γ g w₁
  | n + 1, γ, g, w => (∀ w₁, R γ w w₁ → Stop γ g w₁) ∨ (g.status = .running ∧ ∀ w₁, R γ w w₁ → (stepG P main g w₁).goes fun g' w' es => ∃ γ', D γ w₁ w' es γ' ∧ GX P main R D Stop n γ' g' w')

section
variable {P : Program} {main : Bool} {R : Gh → World → World → Prop} {D : Gh → World → World → Array Event → Gh → Prop} {Stop Stop' : Gh → Goroutine → World → Prop}
theorem goes_mono' {s : GStep} {K K' : Goroutine → World → Array Event → Prop} (h : s.goes K) (hk : ∀ g w es, K g w es → K' g w es) : s.goes K' := by
  cases s <;> simp only [GStep.goes] at h ⊢
  exact hk _ _ _ h
theorem goes_elim' {s : GStep} {K : Goroutine → World → Array Event → Prop} (h : s.goes K) : ∃ g w es, s = .go g w es ∧ K g w es := by
  cases s <;> simp only [GStep.goes] at h
  exact ⟨_, _, _, rfl, h⟩
theorem GX.stop {n : Nat} {γ : Gh} {g : Goroutine} {w : World} (h : ∀ w₁, R γ w w₁ → Stop γ g w₁) : GX P main R D Stop n γ g w := by
  cases n with
  | zero => exact h
  | succ n => exact .inl h
theorem GX.step {n : Nat} {γ : Gh} {g : Goroutine} {w : World} (hs : g.status = .running)
    (h : ∀ w₁, R γ w w₁ → (stepG P main g w₁).goes fun g' w' es => ∃ γ', D γ w₁ w' es γ' ∧ GX P main R D Stop n γ' g' w') : GX P main R D Stop (n + 1) γ g w := .inr ⟨hs, h⟩
theorem GX.rely (trans : ∀ γ a b c, R γ a b → R γ b c → R γ a c) {n : Nat} {γ : Gh} {g : Goroutine} {w w₁ : World} (h : GX P main R D Stop n γ g w) (hr : R γ w w₁) : GX P main R D Stop n γ g w₁ := by
  cases n with
  | zero => exact fun w₂ h₂ => h w₂ (trans _ _ _ _ hr h₂)
  | succ n =>
    rcases h with h | ⟨hs, h⟩
    · exact .inl fun w₂ h₂ => h w₂ (trans _ _ _ _ hr h₂)
    · exact .inr ⟨hs, fun w₂ h₂ => h w₂ (trans _ _ _ _ hr h₂)⟩
theorem GX.more {n : Nat} {γ : Gh} {g : Goroutine} {w : World} (h : GX P main R D Stop n γ g w) : GX P main R D Stop (n + 1) γ g w := by
  induction n generalizing γ g w with
  | zero => exact .inl h
  | succ n ih =>
    rcases h with h | ⟨hs, h⟩
    · exact .inl h
    · exact .inr ⟨hs, fun w₁ h₁ => goes_mono' (h w₁ h₁) fun g' w' es ⟨γ', d, x⟩ => ⟨γ', d, ih x⟩⟩
theorem GX.le {n m : Nat} {γ : Gh} {g : Goroutine} {w : World} (h : GX P main R D Stop n γ g w) (hm : n ≤ m) : GX P main R D Stop m γ g w := by
  induction hm with
  | refl => exact h
  | step _ ih => exact ih.more
theorem GX.mono (hS : ∀ γ g w, Stop γ g w → Stop' γ g w) {n : Nat} {γ : Gh} {g : Goroutine} {w : World} (h : GX P main R D Stop n γ g w) : GX P main R D Stop' n γ g w := by
  induction n generalizing γ g w with
  | zero => exact fun w₁ h₁ => hS _ _ _ (h w₁ h₁)
  | succ n ih =>
    rcases h with h | ⟨hs, h⟩
    · exact .inl fun w₁ h₁ => hS _ _ _ (h w₁ h₁)
    · exact .inr ⟨hs, fun w₁ h₁ => goes_mono' (h w₁ h₁) fun g' w' es ⟨γ', d, x⟩ => ⟨γ', d, ih x⟩⟩
theorem GX.running (hS : ∀ γ g w, Stop γ g w → g.status = .running) (hr : ∀ γ w, R γ w w) {n : Nat} {γ : Gh} {g : Goroutine} {w : World} (h : GX P main R D Stop n γ g w) : g.status = .running := by
  cases n with
  | zero => exact hS _ _ _ (h w (hr _ _))
  | succ n => exact h.elim (fun x => hS _ _ _ (x w (hr _ _))) (·.1)
/-- One walk behind another. -/
theorem GX.seq (hr : ∀ γ w, R γ w w) {m : Nat} : ∀ {n : Nat} {γ : Gh} {g : Goroutine} {w : World}, GX P main R D (fun γ g w => GX P main R D Stop m γ g w) n γ g w → GX P main R D Stop (n + m) γ g w
  | 0, γ, g, w, h => (h w (hr _ _)).le (by omega)
  | n + 1, γ, g, w, h => by
    rcases h with h | ⟨hs, h⟩
    · exact (h w (hr _ _)).le (by omega)
    · have : n + 1 + m = (n + m) + 1 := by omega
      rw [this]
      exact .inr ⟨hs, fun w₁ h₁ => goes_mono' (h w₁ h₁) fun g' w' es ⟨γ', d, x⟩ => ⟨γ', d, GX.seq hr x⟩⟩
/-- A walk of the library's, during which what is held does not change. -/
theorem GX.of_goes {R0 : World → World → Prop} {D0 : World → World → Array Event → Prop} {S0 : Goroutine → World → Prop} {F : World → Prop} {γ : Gh} (hR : ∀ w w₁, R γ w w₁ → R0 w w₁) (hFR : ∀ w w₁, F w → R γ w w₁ → F w₁)
    (hD : ∀ w w' es, F w → D0 w w' es → D γ w w' es γ ∧ F w') (hS : ∀ g w, F w → S0 g w → Stop γ g w) : ∀ {m : Nat} {g : Goroutine} {w : World}, F w → Goes P main R0 D0 S0 m g w → GX P main R D Stop m γ g w
  | 0, g, w, f, h => fun w₁ h₁ => hS _ _ (hFR _ _ f h₁) (h w₁ (hR _ _ h₁))
  | m + 1, g, w, f, h => by
    rcases h with h | ⟨hs, h⟩
    · exact .inl fun w₁ h₁ => hS _ _ (hFR _ _ f h₁) (h w₁ (hR _ _ h₁))
    · refine .inr ⟨hs, fun w₁ h₁ => goes_mono' (h w₁ (hR _ _ h₁)) fun g' w' es ⟨d, x⟩ => ?_⟩
      obtain ⟨d', f'⟩ := hD _ _ _ (hFR _ _ f h₁) d
      exact ⟨γ, d', GX.of_goes hR hFR hD hS f' x⟩
end

section
variable [Payload] {Shun : Loc → Prop} {ty : TypeId} {Wg C n Low : Nat} {γ : Gh} {w w₁ w₂ : World}
theorem RX.refl (γ : Gh) (w : World) : RX ty Wg C n Low γ w w := ⟨Nat.le_refl _, fun _ _ _ _ => rfl, fun _ _ => rfl, id, id, fun _ _ => rfl⟩
theorem RX.trans (h : RX ty Wg C n Low γ w w₁) (h' : RX ty Wg C n Low γ w₁ w₂) : RX ty Wg C n Low γ w w₂ :=
  ⟨Nat.le_trans h.size h'.size, fun b a c d => (h'.low b a c d).trans (h.low b a c d), fun b a => (h'.own b a).trans (h.own b a), h'.live ∘ h.live, h'.pay ∘ h.pay, fun i a => (h'.cell i a).trans (h.cell i a)⟩
theorem RX.at (γ : Gh) (w : World) (d : Nat) : RX ty Wg C n Low γ w (w.at d) := ⟨Nat.le_refl _, fun _ _ _ _ => rfl, fun _ _ => rfl, id, id, fun _ _ => rfl⟩
theorem RX.rw (h : RX ty Wg C n Low γ w w₁) {i : Nat} (hi : γ.mc i) : RW ty Wg C n Low i w w₁ := ⟨h.low, h.live, h.pay, h.cell i hi⟩
theorem FX.refl (γ : Gh) (w : World) : FX ty Wg C n γ w w := ⟨rfl, rfl, rfl, Nat.le_refl _, fun _ _ _ _ _ => rfl, id, id, fun _ _ => rfl⟩
/-- A turn of the group's block. -/
theorem FX.of_wg (h : Aside Wg w w₁) (hl : WgLive ty Wg w₁) (hCW : C ≠ Wg) : FX ty Wg C n γ w w₁ :=
  ⟨h.tape, h.os, h.output, Nat.le_of_eq h.size.symm, fun b _ _ hb _ => h.block b hb, fun _ => hl, fun ⟨cs, hc, hn⟩ => ⟨cs, (h.block C hCW).trans hc, hn⟩, fun i _ => cell_of_block (h.block C hCW) i⟩
/-- A silent step. -/
theorem DX.still (main : Bool) (γ : Gh) (w : World) : DX Shun ty Wg C n Low main γ w w #[] γ := ⟨FX.refl γ w, rfl, fun _ h => .inl h, rfl, rfl, fun e he => by simp at he⟩
theorem DX.of_dc0 {main : Bool} {es : Array Event} (h : DC0 w w₁ es) : DX Shun ty Wg C n Low main γ w w₁ es γ := by
  obtain ⟨rfl, rfl⟩ := h
  exact DX.still main γ _
/-- A step that lists entries and leaves the world. -/
theorem DX.quiet {main : Bool} {γ' : Gh} {es : Array Event} (ho : γ'.own = γ.own) (hm : γ'.mc = γ.mc) (hd : γ'.deaf = deafBehind γ.deaf es) (he : ∀ e ∈ es, EvX Shun Wg C Low main γ' e) : DX Shun ty Wg C n Low main γ w w es γ' :=
  ⟨FX.refl γ w, rfl, fun b h => .inl (ho ▸ h), hm, hd, he⟩
end
end Go.Proofs.YtafhpbghogdipaaGreatDoor
