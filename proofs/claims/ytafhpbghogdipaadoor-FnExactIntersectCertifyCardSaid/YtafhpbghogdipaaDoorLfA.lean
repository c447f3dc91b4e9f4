/- Lf1 Lf2 Lf3 Lf4 Lf5 (merge.py). -/
import Derived.Conc.Beside
import Derived.Conc.Events
/- Trees of the model's operations: a tree that is 'Nice' does not look at dead blocks, hangs on the tape as far as it draws, and lists nothing that hurts. -/
namespace Go.Proofs.YtafhpbghogdipaaDoor
open Go.Conc
set_option maxHeartbeats 2000000
set_option linter.unusedVariables false

/-- What stands in a dead block's place: whatever looks at it is stuck. -/
def poison : Obj := .view ⟨0, 0, some 0⟩ 0
/-- The dead blocks, and what stands in them. -/
structure DS where
  dead : Nat → Prop
  keep : Nat → Option Obj
instance : CoeFun DS (fun _ => Nat → Prop) := ⟨DS.dead⟩
def DS.nil : DS := ⟨fun _ => False, fun _ => none⟩
@[simp] theorem DS.nil_dead (b : Nat) : DS.nil b ↔ False := Iff.rfl
/-- u is w with the dead blocks poisoned. -/
structure Pz (D : DS) (u w : World) : Prop where
  tape : u.tape = w.tape
  drawn : u.drawn = w.drawn
  os : u.os = w.os
  output : u.output = w.output
  size : u.heap.size = w.heap.size
  same : ∀ b, ¬ D b → u.heap[b]? = w.heap[b]?
  lo : ∀ b, D b → b < w.heap.size
  dead : ∀ b, D b → u.heap[b]? = some poison
  real : ∀ b, D b → w.heap[b]? = D.keep b ∧ ((∃ c e, w.heap[b]? = some (.cells c e (0, 0))) ∨ ∃ c e, w.heap[b]? = some (.pending c e))
/-- No variable waits for its initialisation. -/
def NP (w : World) : Prop := ∀ (b : Nat) (c : Array Value) (e : TypeId), w.heap[b]? ≠ some (Obj.pending c e)
def Dull : Halt → Prop
  | .panic _ | .stuck _ => True
  | .unsupported (.initOrder _) => False
  | .unsupported _ => True
  | _ => False
/-- An entry that is well: no dead cell, no mark but one. -/
def Cl (D : DS) (e : Event) : Prop :=
  match e.loc with
  | .cell a => ¬ D a.block
  | .mark m => m = .noRoom ∨ ∃ f, m = Mark.extern f
  | _ => True
def Sim (P : Program) (D : DS) {α : Type} (s : Sem α) : Prop :=
  ∀ u w, Pz D u w → NP u →
    match s.run P u with
    | .ok a u' => NP u' ∧ ∃ w', s.run P w = .ok a w' ∧ Pz D u' w' ∧ ∀ e ∈ s.events P w #[], Cl D e
    | .halt h _ => Dull h
def Lcl (P : Program) {α : Type} (s : Sem α) : Prop :=
  ∀ w a w', s.run P w = .ok a w' → w'.tape = w.tape ∧ w.drawn ≤ w'.drawn ∧
    ∀ T d, (∀ i, i < w'.drawn - w.drawn → T (d + i) = w.tape (w.drawn + i)) → s.run P { w with tape := T, drawn := d } = .ok a { w' with tape := T, drawn := d + (w'.drawn - w.drawn) }
structure Nice (P : Program) (D : DS) {α : Type} (s : Sem α) : Prop where
  sim : Sim P D s
  loc : Lcl P s

section
variable {P : Program} {D : DS} {α β : Type}
theorem Nice.pure (a : α) : Nice P D (Pure.pure a : Sem α) :=
  ⟨fun u w h hn => ⟨hn, w, rfl, h, fun e he => by simp at he⟩, fun w b w' h => by
    simp only [Sem.run_pure, Result.ok.injEq] at h
    obtain ⟨rfl, rfl⟩ := h
    exact ⟨rfl, Nat.le_refl _, fun T d _ => by simp⟩⟩
theorem Nice.pure' (a : α) : Nice P D (Sem.pure a) := Nice.pure a
theorem Nice.halt {h : Halt} (hd : Dull h) : Nice P D (Sem.halt h : Sem α) :=
  ⟨fun u w _ _ => hd, fun w b w' h => by simp [Sem.run] at h⟩
theorem Nice.stuck (s : String) : Nice P D (Go.stuck s : Sem α) := .halt trivial
theorem Nice.goPanic (v : Value) : Nice P D (Go.goPanic v : Sem α) := .halt trivial
theorem Nice.unsupported {x : Unsupported} (h : Dull (.unsupported x)) : Nice P D (Go.unsupported x : Sem α) := .halt h
theorem Nice.bind {s : Sem α} {f : α → Sem β} (hs : Nice P D s) (hf : ∀ a, Nice P D (f a)) : Nice P D (s >>= f) := by
  refine ⟨fun u w h hn => ?_, fun w b w'' hr => ?_⟩
  · have h1 := hs.sim u w h hn
    rw [Sem.run_bind]
    cases hu : s.run P u with
    | halt x u' => rw [hu] at h1; exact h1
    | ok a u' =>
      rw [hu] at h1
      obtain ⟨hn', w', hw', hp', he'⟩ := h1
      have h2 := (hf a).sim u' w' hp' hn'
      simp only [Result.andThen_ok]
      cases hu2 : (f a).run P u' with
      | halt x u2 => rw [hu2] at h2; exact h2
      | ok b u2 =>
        rw [hu2] at h2
        obtain ⟨hn2, w2, hw2, hp2, he2⟩ := h2
        refine ⟨hn2, w2, by rw [Sem.run_bind, hw']; exact hw2, hp2, fun e he => ?_⟩
        rw [Sem.events_bind, hw'] at he
        simp only [Result.evThen_ok] at he
        rw [Sem.events_acc] at he
        rcases Array.mem_append.1 he with h3 | h3
        · exact he' e h3
        · exact he2 e h3
  · rw [Sem.run_bind] at hr
    cases h1 : s.run P w with
    | halt x u' => rw [h1] at hr; simp at hr
    | ok a w' =>
      rw [h1] at hr
      simp only [Result.andThen_ok] at hr
      obtain ⟨t1, d1, l1⟩ := hs.loc w a w' h1
      obtain ⟨t2, d2, l2⟩ := (hf a).loc w' b w'' hr
      refine ⟨t2.trans t1, by omega, fun T d hT => ?_⟩
      rw [Sem.run_bind, l1 T d fun i hi => hT i (by omega)]
      simp only [Result.andThen_ok]
      have := l2 T (d + (w'.drawn - w.drawn)) fun i hi => by
        have := hT (w'.drawn - w.drawn + i) (by omega)
        have e1 : d + (w'.drawn - w.drawn) + i = d + (w'.drawn - w.drawn + i) := by omega
        have e2 : w'.drawn + i = w.drawn + (w'.drawn - w.drawn + i) := by omega
        rw [t1, e1, e2]; exact this
      have e : d + (w''.drawn - w.drawn) = d + (w'.drawn - w.drawn) + (w''.drawn - w'.drawn) := by omega
      rw [e]
      exact this
theorem Nice.map {s : Sem α} {f : α → β} (hs : Nice P D s) : Nice P D (Functor.map f s) := hs.bind fun a => .pure (f a)
theorem Nice.ite {c : Prop} [Decidable c] {x y : Sem α} (hx : Nice P D x) (hy : Nice P D y) : Nice P D (if c then x else y) := by split <;> assumption

/-! ### the primitives -/
theorem Nice.program : Nice P D Go.program :=
  ⟨fun u w h hn => ⟨hn, w, rfl, h, fun e he => by simp at he⟩, fun w b w' h => by
    simp only [run_program, Result.ok.injEq] at h
    obtain ⟨rfl, rfl⟩ := h
    exact ⟨rfl, Nat.le_refl _, fun T d _ => by simp⟩⟩
theorem Nice.choose (q : Question) : Nice P D (Go.choose q) := by
  by_cases hq : q.forced
  · have e : ∀ w, (Go.choose q).run P w = .ok 0 w := fun w => by unfold Go.choose; simp only [Sem.run]; rw [if_pos hq]
    refine ⟨fun u w h hn => ?_, fun w b w' hr => ?_⟩
    · rw [e]
      exact ⟨hn, w, e w, h, fun x hx => by simp [Go.choose, Sem.events, Sem.runT, hq] at hx⟩
    · rw [e, Result.ok.injEq] at hr
      obtain ⟨rfl, rfl⟩ := hr
      exact ⟨rfl, Nat.le_refl _, fun T d _ => by rw [e]; simp⟩
  · have e : ∀ w : World, (Go.choose q).run P w = .ok (q.cut (w.tape w.drawn q)) { w with drawn := w.drawn + 1 } := fun w => by unfold Go.choose; simp only [Sem.run]; rw [if_neg hq]
    refine ⟨fun u w h hn => ?_, fun w b w' hr => ?_⟩
    · rw [e]
      refine ⟨hn, World.mk w.heap w.tape (w.drawn + 1) w.os w.output, (e w).trans (by rw [h.tape, h.drawn]), ⟨h.tape, by show u.drawn + 1 = w.drawn + 1; rw [h.drawn], h.os, h.output, h.size, h.same, h.lo, h.dead, h.real⟩, fun x hx => by simp [Go.choose, Sem.events, Sem.runT, hq] at hx⟩
    · rw [e, Result.ok.injEq] at hr
      obtain ⟨rfl, rfl⟩ := hr
      refine ⟨rfl, Nat.le_succ _, fun T d hT => ?_⟩
      have := hT 0 (by show 0 < w.drawn + 1 - w.drawn; omega)
      rw [Nat.add_zero, Nat.add_zero] at this
      rw [e]
      show Result.ok (q.cut (T d q)) _ = _
      rw [this]
      have e3 : d + (w.drawn + 1 - w.drawn) = d + 1 := by omega
      show Result.ok _ (World.mk w.heap T (d + 1) w.os w.output) = Result.ok _ (World.mk w.heap T (d + (w.drawn + 1 - w.drawn)) w.os w.output)
      rw [e3]
theorem Nice.newObj {o : Obj} (ho : ∀ c e, o ≠ Obj.pending c e) : Nice P D (Go.newObj o) := by
  have e : ∀ w : World, (Go.newObj o).run P w = .ok w.heap.size (World.mk (w.heap.push o) w.tape w.drawn w.os w.output) := fun w => rfl
  refine ⟨fun u w h hn => ?_, fun w b w' hr => ?_⟩
  · rw [e]
    refine ⟨fun b c x hb => ?_, _, by rw [e, h.size], ?_, fun x hx => by simp [Go.newObj, Sem.events, Sem.runT] at hx⟩
    · simp only [Array.getElem?_push] at hb
      split at hb
      · exact ho c x (Option.some.inj hb)
      · exact hn b c x hb
    · refine ⟨h.tape, h.drawn, h.os, h.output, by simp [h.size], fun b hb => ?_, fun b hb => ?_, fun b hb => ?_, fun b hb => ?_⟩
      · simp only [Array.getElem?_push, h.size]
        split
        · rfl
        · exact h.same b hb
      · simp; have := h.lo b hb; omega
      · have := h.lo b hb
        simp only [Array.getElem?_push, h.size]
        rw [if_neg (by omega)]
        exact h.dead b hb
      · have := h.lo b hb
        simp only [Array.getElem?_push]
        rw [if_neg (by omega)]
        exact h.real b hb
  · rw [e, Result.ok.injEq] at hr
    obtain ⟨rfl, rfl⟩ := hr
    exact ⟨rfl, Nat.le_refl _, fun T d _ => by rw [e]; simp⟩
theorem Nice.noRoom : Nice P D (Go.mark .noRoom) := by
  have e : ∀ w : World, (Go.mark .noRoom).run P w = .ok () w := fun w => rfl
  refine ⟨fun u w h hn => ⟨hn, w, rfl, h, fun x hx => ?_⟩, fun w b w' hr => ?_⟩
  · simp [Go.mark, Sem.events, Sem.runT] at hx
    subst hx
    exact .inl rfl
  · rw [e, Result.ok.injEq] at hr
    obtain ⟨rfl, rfl⟩ := hr
    exact ⟨rfl, Nat.le_refl _, fun T d _ => by rw [e]; simp⟩
theorem Nice.askRoom (n : Nat) : Nice P D (Go.askRoom n) := by
  unfold Go.askRoom
  exact Nice.ite .noRoom (.pure ())

theorem frozen_pz {u w : World} (h : Pz D u w) (a : Addr) : u.frozen? a = w.frozen? a := by
  by_cases hd : D a.block
  · have h1 := h.dead _ hd
    rcases (h.real _ hd).2 with ⟨c, e, h2⟩ | ⟨c, e, h2⟩ <;> simp [World.frozen?, h1, h2, poison]
  · simp [World.frozen?, h.same _ hd]
theorem Nice.frozen (a : Addr) : Nice P D (Go.frozen a) := by
  refine ⟨fun u w h hn => ⟨hn, w, by simp [Go.frozen, Sem.run, frozen_pz h], h, fun e he => by simp [Go.frozen, Sem.events, Sem.runT] at he⟩, fun w b w' hr => ?_⟩
  simp only [Go.frozen, Sem.run, Result.ok.injEq] at hr
  obtain ⟨rfl, rfl⟩ := hr
  refine ⟨rfl, Nat.le_refl _, fun T d _ => ?_⟩
  simp only [Go.frozen, Sem.run, Nat.sub_self, Nat.add_zero]
  rfl

/-! #### loads -/
theorem seen_poison {u : World} {at_ : Addr} (hd : u.heap[at_.block]? = some poison) (t : TypeId) (a : Addr) (m : Bool) : ∃ why, World.seen P u at_ t a m = .error why := by
  unfold World.seen
  rw [hd]
  simp only [poison]
  by_cases h1 : (a.spot.isSome || at_.spot.isSome) = true
  · rw [if_pos h1]; exact ⟨_, rfl⟩
  · rw [if_neg h1]
    cases h2 : plainCell P P.depth t a.off with
    | none => exact ⟨_, rfl⟩
    | some like =>
      cases h3 : Option.map (fun x => x.length) like.bytes? with
      | none => simp only [h3]; exact ⟨_, rfl⟩
      | some size =>
        simp only [h3]
        cases h4 : byteOfCell P P.depth t a.off with
        | none => exact ⟨_, rfl⟩
        | some β => exact ⟨_, rfl⟩
theorem viewLoad_poison {u : World} {at_ : Addr} (hd : u.heap[at_.block]? = some poison) (t : TypeId) (a : Addr) (m : Bool) : ∃ why, World.viewLoad P u at_ t a m = .error why := by
  obtain ⟨why, e⟩ := seen_poison (P := P) hd t a m
  unfold World.viewLoad
  rw [e]
  exact ⟨_, rfl⟩
theorem viewLoad_same {u w : World} {at_ : Addr} (hs : u.heap[at_.block]? = w.heap[at_.block]?) (t : TypeId) (a : Addr) (m : Bool) : World.viewLoad P u at_ t a m = World.viewLoad P w at_ t a m := by
  unfold World.viewLoad World.seen
  rw [hs]
theorem viewLoad_block {w : World} {at_ : Addr} {t : TypeId} {a : Addr} {m : Bool} {v : Value} {l : List Addr} (h : World.viewLoad P w at_ t a m = .ok (v, l)) : ∀ x ∈ l, x.block = at_.block := by
  unfold World.viewLoad at h
  cases hs : World.seen P w at_ t a m with
  | error e => rw [hs] at h; cases h
  | ok r =>
    rw [hs] at h
    obtain ⟨c, e, fr, first, like, cells⟩ := r
    simp only [bind, Except.bind, pure, Except.pure] at h
    split at h
    · simp only [Except.ok.injEq, Prod.mk.injEq] at h
      obtain ⟨_, rfl⟩ := h
      intro x hx
      obtain ⟨y, _, rfl⟩ := List.mem_map.1 hx
      rfl
    · cases h
theorem farLoad_same {u w : World} (h : Pz D u w) (hn : NP u) {a : Addr} (ha : ¬ D a.block) (m : Bool) :
    match u.farLoad P a m with
    | .ok (v, l) => w.farLoad P a m = .ok (v, l) ∧ ∀ x ∈ l, ¬ D x.block
    | .error h => Dull h := by
  have hs := h.same _ ha
  unfold World.farLoad
  rw [← hs]
  cases ho : u.heap[a.block]? with
  | none => simp [World.noCell, ho, Dull]
  | some o =>
    cases o with
    | view at_ t =>
      simp only
      by_cases hd : D at_.block
      · obtain ⟨why, e⟩ := viewLoad_poison (P := P) (h.dead _ hd) t a m
        rw [e]
        trivial
      · rw [viewLoad_same (h.same _ hd) t a m]
        cases hv : World.viewLoad P w at_ t a m with
        | error e => trivial
        | ok r =>
          obtain ⟨v, l⟩ := r
          refine ⟨rfl, fun x hx => ?_⟩
          rw [viewLoad_block hv x hx]
          exact hd
    | pending c e => exact absurd ho (hn _ _ _)
    | _ => simp [World.noCell, ho, Dull]
theorem Nice.load (a : Addr) (m : Mode) : Nice P D (Go.load a m) := by
  refine ⟨fun u w h hn => ?_, fun w b w' hr => ?_⟩
  · by_cases hd : D a.block
    · have hc : u.cell? a = none := by simp [World.cell?, h.dead _ hd, poison]
      have hf : ∃ why, u.farLoad P a (m == .atomic) = .error (.unsupported (.unsafePointer why)) := by
        unfold World.farLoad
        rw [h.dead _ hd]
        simp only [poison]
        obtain ⟨why, e⟩ : ∃ why, World.viewLoad P u ⟨0, 0, some 0⟩ 0 a (m == .atomic) = .error why := by
          unfold World.viewLoad World.seen
          rw [if_pos (by simp)]
          exact ⟨_, rfl⟩
        rw [e]
        exact ⟨_, rfl⟩
      obtain ⟨why, e⟩ := hf
      simp only [Go.load, Sem.run, hc, e]
      trivial
    · have hc : u.cell? a = w.cell? a := by simp [World.cell?, h.same _ hd]
      cases hw : w.cell? a with
      | some v =>
        simp only [Go.load, Sem.run, hc, hw]
        refine ⟨hn, w, rfl, h, fun e he => ?_⟩
        have he' : e ∈ ((Sem.load m a Sem.pure).runT P w #[]).2 := he
        simp only [Sem.runT, hw] at he'
        simp at he'
        subst he'
        exact hd
      | none =>
        have hf := farLoad_same (P := P) h hn hd (m == .atomic)
        simp only [Go.load, Sem.run, hc, hw]
        cases hu : u.farLoad P a (m == .atomic) with
        | error x => rw [hu] at hf; exact hf
        | ok r =>
          obtain ⟨v, l⟩ := r
          rw [hu] at hf
          obtain ⟨h1, h2⟩ := hf
          refine ⟨hn, w, by rw [h1], h, fun e he => ?_⟩
          have he' : e ∈ ((Sem.load m a Sem.pure).runT P w #[]).2 := he
          simp only [Sem.runT, hw, h1] at he'
          simp at he'
          obtain ⟨x, hx, rfl⟩ := he'
          exact h2 x hx
  · simp only [Go.load, Sem.run] at hr
    have key : ∀ T d, ({ w with tape := T, drawn := d } : World).cell? a = w.cell? a ∧ ({ w with tape := T, drawn := d } : World).farLoad P a (m == .atomic) = w.farLoad P a (m == .atomic) := fun T d => ⟨rfl, rfl⟩
    split at hr
    · rename_i v hv
      simp only [Result.ok.injEq] at hr
      obtain ⟨rfl, rfl⟩ := hr
      refine ⟨rfl, Nat.le_refl _, fun T d _ => ?_⟩
      simp [Go.load, Sem.run, (key T d).1, hv]
    · rename_i hv
      split at hr
      · rename_i v l hf
        simp only [Result.ok.injEq] at hr
        obtain ⟨rfl, rfl⟩ := hr
        refine ⟨rfl, Nat.le_refl _, fun T d _ => ?_⟩
        simp [Go.load, Sem.run, (key T d).1, (key T d).2, hv, hf]
      · cases hr
end
end Go.Proofs.YtafhpbghogdipaaDoor

/- Stores, the program's tables, and the operations that a plain function uses: nice trees. -/
namespace Go.Proofs.YtafhpbghogdipaaDoor
open Go.Conc
set_option maxHeartbeats 4000000
set_option linter.unusedVariables false
set_option linter.unusedSimpArgs false

section
variable {P : Program} {D : DS} {α β : Type}
/-! #### stores -/
theorem pz_modify {u w : World} (h : Pz D u w) {b : Nat} (hb : ¬ D b) (f : Obj → Obj) : Pz D (World.mk (u.heap.modify b f) u.tape u.drawn u.os u.output) (World.mk (w.heap.modify b f) w.tape w.drawn w.os w.output) := by
  refine ⟨h.tape, h.drawn, h.os, h.output, by simp [h.size], fun b' hb' => ?_, fun b' hb' => by simpa using h.lo b' hb', fun b' hb' => ?_, fun b' hb' => ?_⟩
  · simp only [Array.getElem?_modify, h.same b' hb']
  · have hne : b ≠ b' := fun e => hb (e ▸ hb')
    simp only [Array.getElem?_modify, if_neg hne]
    exact h.dead b' hb'
  · have hne : b ≠ b' := fun e => hb (e ▸ hb')
    simp only [Array.getElem?_modify, if_neg hne]
    exact h.real b' hb'
theorem np_modify {u : World} (h : NP u) (b : Nat) {f : Obj → Obj} (hf : ∀ x c e, f x = Obj.pending c e → ∃ c' e', x = Obj.pending c' e') : NP (World.mk (u.heap.modify b f) u.tape u.drawn u.os u.output) := by
  intro b' c e hb
  simp only [Array.getElem?_modify] at hb
  split at hb
  · obtain ⟨x, hx, hfx⟩ := Option.map_eq_some_iff.1 hb
    obtain ⟨c', e', rfl⟩ := hf x c e hfx
    exact h _ _ _ hx
  · exact h _ _ _ hb
theorem pz_set {u w : World} (h : Pz D u w) {b : Nat} (hb : ¬ D b) (x : Obj) : Pz D (World.mk (u.heap.setIfInBounds b x) u.tape u.drawn u.os u.output) (World.mk (w.heap.setIfInBounds b x) w.tape w.drawn w.os w.output) := by
  refine ⟨h.tape, h.drawn, h.os, h.output, by simp [h.size], fun b' hb' => ?_, fun b' hb' => by simpa using h.lo b' hb', fun b' hb' => ?_, fun b' hb' => ?_⟩
  · simp only [Array.getElem?_setIfInBounds, h.same b' hb', h.size]
  · have hne : b ≠ b' := fun e => hb (e ▸ hb')
    rw [Array.getElem?_setIfInBounds_ne hne]
    exact h.dead b' hb'
  · have hne : b ≠ b' := fun e => hb (e ▸ hb')
    rw [Array.getElem?_setIfInBounds_ne hne]
    exact h.real b' hb'
theorem np_set {u : World} (h : NP u) (b : Nat) {x : Obj} (hx : ∀ c e, x ≠ Obj.pending c e) : NP (World.mk (u.heap.setIfInBounds b x) u.tape u.drawn u.os u.output) := by
  intro b' c e hb
  simp only [Array.getElem?_setIfInBounds] at hb
  split at hb
  · split at hb
    · exact hx c e (Option.some.inj hb)
    · cases hb
  · exact h _ _ _ hb
theorem viewStore_poison {u : World} {at_ : Addr} (hd : u.heap[at_.block]? = some poison) (t : TypeId) (a : Addr) (v : Value) (m : Bool) : ∃ why, World.viewStore P u at_ t a v m = .error why := by
  obtain ⟨why, e⟩ := seen_poison (P := P) hd t a m
  unfold World.viewStore
  rw [e]
  by_cases h0 : (!tight P P.depth t) = true
  · rw [if_pos h0]; exact ⟨_, rfl⟩
  · rw [if_neg h0]; exact ⟨_, rfl⟩
theorem viewStore_run {u w : World} {at_ : Addr} (hs : u.heap[at_.block]? = w.heap[at_.block]?) (t : TypeId) (a : Addr) (v : Value) (m : Bool) :
    (∃ why, World.viewStore P u at_ t a v m = .error why) ∨ ∃ c e fr l, World.viewStore P u at_ t a v m = .ok (World.mk (u.heap.setIfInBounds at_.block (.cells c e fr)) u.tape u.drawn u.os u.output, l) ∧
      World.viewStore P w at_ t a v m = .ok (World.mk (w.heap.setIfInBounds at_.block (.cells c e fr)) w.tape w.drawn w.os w.output, l) ∧ ∀ x ∈ l, x.block = at_.block := by
  unfold World.viewStore
  have e : World.seen P u at_ t a m = World.seen P w at_ t a m := by unfold World.seen; rw [hs]
  rw [e]
  by_cases h0 : (!tight P P.depth t) = true
  · rw [if_pos h0]; exact .inl ⟨_, rfl⟩
  · rw [if_neg h0, if_neg h0]
    cases hs : World.seen P w at_ t a m with
    | error x => exact .inl ⟨_, rfl⟩
    | ok r =>
      obtain ⟨c, e, fr, first, like, cells⟩ := r
      cases hb : v.bytes? with
      | none => exact .inl ⟨_, rfl⟩
      | some bytes =>
        simp only [bind, Except.bind, pure, Except.pure]
        by_cases h1 : some bytes.length ≠ like.bytes?.map (·.length)
        · rw [if_pos h1]; exact .inl ⟨_, rfl⟩
        · rw [if_neg h1, if_neg h1]
          split
          · exact .inl ⟨_, rfl⟩
          · rename_i c' hc'
            exact .inr ⟨_, _, _, _, rfl, rfl, fun x hx => by obtain ⟨y, _, rfl⟩ := List.mem_map.1 hx; rfl⟩
theorem Nice.store (a : Addr) (v : Value) (m : Mode) : Nice P D (Go.store a v m) := by
  by_cases hv : v.oneCell' = true
  · have e0 : ∀ w : World, (Go.store a v m).run P w = match w.cell? a with
        | some _ => if w.frozen? a then .halt (.unsupported (.unsafePointer "a write to bytes that a string shares")) w else .ok () (w.setCell a v)
        | none => match w.farStore P a v (m == .atomic) with
          | .ok (w, _) => .ok () w
          | .error h => .halt h w := by
      intro w
      cases v <;> first | (simp [Value.oneCell'] at hv; done) | (unfold Go.store; simp only [Sem.run]; rfl)
    have e1 : ∀ (w : World) (x : Event), x ∈ (Go.store a v m).events P w #[] → x.loc = .cell a ∧ (w.cell? a).isSome ∨ ∃ w' l, w.farStore P a v (m == .atomic) = .ok (w', l) ∧ ∃ y ∈ l, x.loc = .cell y := by
      intro w x hx
      have hx' : x ∈ ((Sem.store m a v (.pure ())).runT P w #[]).2 := hx
      cases v <;> first
        | (simp [Value.oneCell'] at hv; done)
        | (simp only [Sem.runT] at hx'
           split at hx'
           · rename_i y hy
             split at hx'
             · simp at hx'
             · simp at hx'
               subst hx'
               exact .inl ⟨rfl, by rw [hy]; rfl⟩
           · split at hx'
             · rename_i w' l hl
               simp at hx'
               obtain ⟨y, hy, rfl⟩ := hx'
               exact .inr ⟨_, _, hl, y, hy, rfl⟩
             · simp at hx')
    refine ⟨fun u w h hn => ?_, fun w b w' hr => ?_⟩
    · rw [e0]
      by_cases hd : D a.block
      · have hc : u.cell? a = none := by simp [World.cell?, h.dead _ hd, poison]
        have hf : ∃ x, u.farStore P a v (m == .atomic) = .error x ∧ Dull x := by
          unfold World.farStore
          rw [h.dead _ hd]
          simp only [poison]
          obtain ⟨why, e⟩ : ∃ why, World.viewStore P u ⟨0, 0, some 0⟩ 0 a v (m == .atomic) = .error why := by
            unfold World.viewStore World.seen
            by_cases h0 : (!tight P P.depth 0) = true
            · rw [if_pos h0]; exact ⟨_, rfl⟩
            · rw [if_neg h0, if_pos (by simp)]; exact ⟨_, rfl⟩
          rw [e]
          exact ⟨_, rfl, trivial⟩
        obtain ⟨x, e, hx⟩ := hf
        rw [hc]
        simp only [e]
        exact hx
      · have hc : u.cell? a = w.cell? a := by simp [World.cell?, h.same _ hd]
        have hfz := frozen_pz h a
        cases hw : w.cell? a with
        | some y =>
          rw [hc, hw]
          simp only
          rw [hfz]
          by_cases hf : w.frozen? a = true
          · rw [if_pos hf]; trivial
          · rw [if_neg hf]
            refine ⟨np_modify hn _ fun x c e hx => ?_, w.setCell a v, by rw [e0, hw]; simp only; rw [if_neg hf], pz_modify h hd _, fun x hx => ?_⟩
            · cases x <;> first | exact ⟨_, _, rfl⟩ | cases hx
            · rcases e1 w x hx with ⟨h1, _⟩ | ⟨w', l, h1, y, hy, h2⟩
              · unfold Cl; rw [h1]; exact hd
              · exfalso
                unfold World.farStore at h1
                unfold World.cell? at hw
                split at hw
                · rename_i o ho
                  rw [ho] at h1
                  cases h1
                · cases hw
        | none =>
          rw [hc, hw]
          simp only
          unfold World.farStore
          rw [h.same _ hd]
          cases ho : w.heap[a.block]? with
          | none => simp [World.noCell, h.same _ hd, ho, Dull]
          | some obj =>
            cases obj with
            | view at_ t =>
              simp only
              by_cases hd' : D at_.block
              · obtain ⟨why, e⟩ := viewStore_poison (P := P) (h.dead _ hd') t a v (m == .atomic)
                rw [e]
                trivial
              · rcases viewStore_run (P := P) (h.same _ hd') t a v (m == .atomic) with ⟨why, e⟩ | ⟨c, e, fr, l, e2, e3, hl⟩
                · rw [e]; trivial
                · rw [e2]
                  have hfw : w.farStore P a v (m == .atomic) = .ok (World.mk (w.heap.setIfInBounds at_.block (.cells c e fr)) w.tape w.drawn w.os w.output, l) := by
                    unfold World.farStore
                    rw [ho]
                    simp only
                    rw [e3]
                  refine ⟨np_set hn _ (fun _ _ h => by cases h), _, by rw [e0, hw]; simp only; rw [hfw], pz_set h hd' _, fun x hx => ?_⟩
                  rcases e1 w x hx with ⟨_, h1⟩ | ⟨w', l', h1, y, hy, h2⟩
                  · rw [hw] at h1; cases h1
                  · rw [hfw] at h1
                    cases h1
                    unfold Cl
                    rw [h2]
                    show ¬ D y.block
                    rw [hl y hy]
                    exact hd'
            | pending c e => exact absurd ((h.same _ hd).trans ho) (hn _ _ _)
            | _ => simp [World.noCell, h.same _ hd, ho, Dull]
    · rw [e0] at hr
      have k1 : ∀ T d, (World.mk w.heap T d w.os w.output).cell? a = w.cell? a := fun _ _ => rfl
      have k2 : ∀ T d, (World.mk w.heap T d w.os w.output).frozen? a = w.frozen? a := fun _ _ => rfl
      split at hr
      · rename_i y hy
        split at hr
        · cases hr
        · rename_i hf
          simp only [Result.ok.injEq] at hr
          obtain ⟨-, rfl⟩ := hr
          refine ⟨rfl, Nat.le_refl _, fun T d _ => ?_⟩
          rw [e0, k1, hy]
          simp only
          rw [k2, if_neg hf]
          have : d + ((w.setCell a v).drawn - w.drawn) = d := by show d + (w.drawn - w.drawn) = d; omega
          rw [this]
          rfl
      · rename_i hy
        split at hr
        · rename_i w1 l hl
          simp only [Result.ok.injEq] at hr
          obtain ⟨-, rfl⟩ := hr
          unfold World.farStore at hl
          split at hl
          · rename_i at_ t ho
            have hh := fun T d => viewStore_run (P := P) (u := w) (w := World.mk w.heap T d w.os w.output) (at_ := at_) rfl t a v (m == .atomic)
            rcases hh w.tape w.drawn with ⟨why, e⟩ | ⟨c, e, fr, l2, e2, _, _⟩
            · rw [e] at hl; cases hl
            · rw [e2] at hl
              simp only [Except.ok.injEq, Prod.mk.injEq] at hl
              obtain ⟨rfl, rfl⟩ := hl
              refine ⟨rfl, Nat.le_refl _, fun T d _ => ?_⟩
              rcases hh T d with ⟨why, e'⟩ | ⟨c', e', fr', l2', e2', e3', _⟩
              · rw [e2] at e'; cases e'
              · rw [e2] at e2'
                simp only [Except.ok.injEq, Prod.mk.injEq, World.mk.injEq] at e2'
                rw [e0, k1, hy]
                simp only
                have hfw : (World.mk w.heap T d w.os w.output).farStore P a v (m == .atomic) = .ok (World.mk (w.heap.setIfInBounds at_.block (.cells c' e' fr')) T d w.os w.output, l2') := by
                  unfold World.farStore
                  show (match w.heap[a.block]? with | some (.view at_ u) => _ | _ => _) = _
                  rw [ho]
                  simp only
                  rw [e3']
                rw [hfw]
                simp [e2'.1.1]
          · cases hl
        · cases hr
  · have e0 : ∀ w : World, (Go.store a v m).run P w = .halt (.stuck "store: not the value of one cell") w := by
      intro w
      cases v <;> first | (simp [Value.oneCell'] at hv; done) | rfl
    exact ⟨fun u w h hn => by rw [e0]; trivial, fun w b w' hr => by rw [e0] at hr; cases hr⟩

end
end Go.Proofs.YtafhpbghogdipaaDoor

/- The program's tables, and the operations that a plain function uses: nice trees. -/
namespace Go.Proofs.YtafhpbghogdipaaDoor
open Go.Conc
set_option maxHeartbeats 8000000
set_option linter.unusedVariables false
set_option linter.unusedSimpArgs false

section
variable {P : Program} {D : DS} {α β : Type}
theorem Nice.typeInfo (t : TypeId) : Nice P D (Go.typeInfo t) := by
  unfold Go.typeInfo
  repeat' (first
    | with_reducible exact Nice.pure _
    | with_reducible exact Nice.pure' _
    | with_reducible exact Nice.stuck _
    | with_reducible exact Nice.goPanic _
    | (with_reducible refine Nice.unsupported ?_); trivial
    | with_reducible exact Nice.program
    | with_reducible exact Nice.choose _
    | with_reducible exact Nice.load _ _
    | with_reducible exact Nice.store _ _ _
    | with_reducible exact Nice.frozen _
    | with_reducible exact Nice.askRoom _
    | with_reducible exact Nice.noRoom
    | exact Nice.newObj (fun _ _ h => by cases h)
    | (with_reducible refine Nice.bind ?_ (fun _ => ?_))
    | (with_reducible refine Nice.ite ?_ ?_)
    | (refine Nice.map ?_)
    | split
    | dsimp only)
theorem Nice.underlying (t : TypeId) : Nice P D (Go.underlying t) := by
  unfold Go.underlying
  repeat' (first
    | with_reducible exact Nice.pure _
    | with_reducible exact Nice.pure' _
    | with_reducible exact Nice.stuck _
    | with_reducible exact Nice.goPanic _
    | (with_reducible refine Nice.unsupported ?_); trivial
    | with_reducible exact Nice.program
    | with_reducible exact Nice.choose _
    | with_reducible exact Nice.load _ _
    | with_reducible exact Nice.store _ _ _
    | with_reducible exact Nice.frozen _
    | with_reducible exact Nice.askRoom _
    | with_reducible exact Nice.noRoom
    | exact Nice.newObj (fun _ _ h => by cases h)
    | with_reducible exact Nice.typeInfo _
    | (with_reducible refine Nice.bind ?_ (fun _ => ?_))
    | (with_reducible refine Nice.ite ?_ ?_)
    | (refine Nice.map ?_)
    | split
    | dsimp only)
theorem Nice.typeStr (t : TypeId) : Nice P D (Go.typeStr t) := by
  unfold Go.typeStr
  repeat' (first
    | with_reducible exact Nice.pure _
    | with_reducible exact Nice.pure' _
    | with_reducible exact Nice.stuck _
    | with_reducible exact Nice.goPanic _
    | (with_reducible refine Nice.unsupported ?_); trivial
    | with_reducible exact Nice.program
    | with_reducible exact Nice.choose _
    | with_reducible exact Nice.load _ _
    | with_reducible exact Nice.store _ _ _
    | with_reducible exact Nice.frozen _
    | with_reducible exact Nice.askRoom _
    | with_reducible exact Nice.noRoom
    | exact Nice.newObj (fun _ _ h => by cases h)
    | with_reducible exact Nice.typeInfo _
    | with_reducible exact Nice.underlying _
    | (with_reducible refine Nice.bind ?_ (fun _ => ?_))
    | (with_reducible refine Nice.ite ?_ ?_)
    | (refine Nice.map ?_)
    | split
    | dsimp only)
theorem Nice.zeroValue (t : TypeId) : Nice P D (Go.zeroValue t) := by
  unfold Go.zeroValue
  repeat' (first
    | with_reducible exact Nice.pure _
    | with_reducible exact Nice.pure' _
    | with_reducible exact Nice.stuck _
    | with_reducible exact Nice.goPanic _
    | (with_reducible refine Nice.unsupported ?_); trivial
    | with_reducible exact Nice.program
    | with_reducible exact Nice.choose _
    | with_reducible exact Nice.load _ _
    | with_reducible exact Nice.store _ _ _
    | with_reducible exact Nice.frozen _
    | with_reducible exact Nice.askRoom _
    | with_reducible exact Nice.noRoom
    | exact Nice.newObj (fun _ _ h => by cases h)
    | with_reducible exact Nice.typeInfo _
    | with_reducible exact Nice.underlying _
    | with_reducible exact Nice.typeStr _
    | (with_reducible refine Nice.bind ?_ (fun _ => ?_))
    | (with_reducible refine Nice.ite ?_ ?_)
    | (refine Nice.map ?_)
    | split
    | dsimp only)
theorem Nice.sizeOf (t : TypeId) : Nice P D (Go.sizeOf t) := by
  unfold Go.sizeOf
  repeat' (first
    | with_reducible exact Nice.pure _
    | with_reducible exact Nice.pure' _
    | with_reducible exact Nice.stuck _
    | with_reducible exact Nice.goPanic _
    | (with_reducible refine Nice.unsupported ?_); trivial
    | with_reducible exact Nice.program
    | with_reducible exact Nice.choose _
    | with_reducible exact Nice.load _ _
    | with_reducible exact Nice.store _ _ _
    | with_reducible exact Nice.frozen _
    | with_reducible exact Nice.askRoom _
    | with_reducible exact Nice.noRoom
    | exact Nice.newObj (fun _ _ h => by cases h)
    | with_reducible exact Nice.typeInfo _
    | with_reducible exact Nice.underlying _
    | with_reducible exact Nice.typeStr _
    | with_reducible exact Nice.zeroValue _
    | (with_reducible refine Nice.bind ?_ (fun _ => ?_))
    | (with_reducible refine Nice.ite ?_ ?_)
    | (refine Nice.map ?_)
    | split
    | dsimp only)
theorem Nice.isAgg (t : TypeId) : Nice P D (Go.isAgg t) := by
  unfold Go.isAgg
  repeat' (first
    | with_reducible exact Nice.pure _
    | with_reducible exact Nice.pure' _
    | with_reducible exact Nice.stuck _
    | with_reducible exact Nice.goPanic _
    | (with_reducible refine Nice.unsupported ?_); trivial
    | with_reducible exact Nice.program
    | with_reducible exact Nice.choose _
    | with_reducible exact Nice.load _ _
    | with_reducible exact Nice.store _ _ _
    | with_reducible exact Nice.frozen _
    | with_reducible exact Nice.askRoom _
    | with_reducible exact Nice.noRoom
    | exact Nice.newObj (fun _ _ h => by cases h)
    | with_reducible exact Nice.typeInfo _
    | with_reducible exact Nice.underlying _
    | with_reducible exact Nice.typeStr _
    | with_reducible exact Nice.zeroValue _
    | with_reducible exact Nice.sizeOf _
    | (with_reducible refine Nice.bind ?_ (fun _ => ?_))
    | (with_reducible refine Nice.ite ?_ ?_)
    | (refine Nice.map ?_)
    | split
    | dsimp only)
theorem Nice.loadCellsFrom (a : Addr) : ∀ (n i : Nat) (acc : Array Value), Nice P D (Go.loadCellsFrom a i n acc)
  | 0, _, _ => .pure _
  | n + 1, i, acc => by
    unfold Go.loadCellsFrom
    exact (Nice.load _ _).bind fun v => Nice.loadCellsFrom a n (i + 1) _
theorem Nice.loadCells (a : Addr) (n : Nat) : Nice P D (Go.loadCells a n) := Nice.loadCellsFrom a n 0 #[]
theorem Nice.storeCells (a : Addr) : ∀ (vs : List Value) (i : Nat), Nice P D (Go.storeCells a vs i)
  | [], _ => by unfold Go.storeCells; exact .pure _
  | v :: vs, i => by
    unfold Go.storeCells
    exact (Nice.store _ _ _).bind fun _ => Nice.storeCells a vs (i + 1)
theorem Nice.loadVar (t : TypeId) (a : Addr) : Nice P D (Go.loadVar t a) := by
  unfold Go.loadVar
  repeat' (first
    | with_reducible exact Nice.pure _
    | with_reducible exact Nice.pure' _
    | with_reducible exact Nice.stuck _
    | with_reducible exact Nice.goPanic _
    | (with_reducible refine Nice.unsupported ?_); trivial
    | with_reducible exact Nice.program
    | with_reducible exact Nice.choose _
    | with_reducible exact Nice.load _ _
    | with_reducible exact Nice.store _ _ _
    | with_reducible exact Nice.frozen _
    | with_reducible exact Nice.askRoom _
    | with_reducible exact Nice.noRoom
    | exact Nice.newObj (fun _ _ h => by cases h)
    | with_reducible exact Nice.typeInfo _
    | with_reducible exact Nice.underlying _
    | with_reducible exact Nice.typeStr _
    | with_reducible exact Nice.zeroValue _
    | with_reducible exact Nice.sizeOf _
    | with_reducible exact Nice.isAgg _
    | with_reducible exact Nice.loadCells _ _
    | with_reducible exact Nice.storeCells _ _ _
    | (with_reducible refine Nice.bind ?_ (fun _ => ?_))
    | (with_reducible refine Nice.ite ?_ ?_)
    | (refine Nice.map ?_)
    | split
    | dsimp only)
theorem Nice.storeVar (t : TypeId) (a : Addr) (v : Value) : Nice P D (Go.storeVar t a v) := by
  unfold Go.storeVar
  repeat' (first
    | with_reducible exact Nice.pure _
    | with_reducible exact Nice.pure' _
    | with_reducible exact Nice.stuck _
    | with_reducible exact Nice.goPanic _
    | (with_reducible refine Nice.unsupported ?_); trivial
    | with_reducible exact Nice.program
    | with_reducible exact Nice.choose _
    | with_reducible exact Nice.load _ _
    | with_reducible exact Nice.store _ _ _
    | with_reducible exact Nice.frozen _
    | with_reducible exact Nice.askRoom _
    | with_reducible exact Nice.noRoom
    | exact Nice.newObj (fun _ _ h => by cases h)
    | with_reducible exact Nice.typeInfo _
    | with_reducible exact Nice.underlying _
    | with_reducible exact Nice.typeStr _
    | with_reducible exact Nice.zeroValue _
    | with_reducible exact Nice.sizeOf _
    | with_reducible exact Nice.isAgg _
    | with_reducible exact Nice.loadCells _ _
    | with_reducible exact Nice.storeCells _ _ _
    | with_reducible exact Nice.loadVar _ _
    | (with_reducible refine Nice.bind ?_ (fun _ => ?_))
    | (with_reducible refine Nice.ite ?_ ?_)
    | (refine Nice.map ?_)
    | split
    | dsimp only)
theorem Nice.newRow (t : TypeId) (c : Array Value) : Nice P D (Go.newRow t c) := by
  unfold Go.newRow
  repeat' (first
    | with_reducible exact Nice.pure _
    | with_reducible exact Nice.pure' _
    | with_reducible exact Nice.stuck _
    | with_reducible exact Nice.goPanic _
    | (with_reducible refine Nice.unsupported ?_); trivial
    | with_reducible exact Nice.program
    | with_reducible exact Nice.choose _
    | with_reducible exact Nice.load _ _
    | with_reducible exact Nice.store _ _ _
    | with_reducible exact Nice.frozen _
    | with_reducible exact Nice.askRoom _
    | with_reducible exact Nice.noRoom
    | exact Nice.newObj (fun _ _ h => by cases h)
    | with_reducible exact Nice.typeInfo _
    | with_reducible exact Nice.underlying _
    | with_reducible exact Nice.typeStr _
    | with_reducible exact Nice.zeroValue _
    | with_reducible exact Nice.sizeOf _
    | with_reducible exact Nice.isAgg _
    | with_reducible exact Nice.loadCells _ _
    | with_reducible exact Nice.storeCells _ _ _
    | with_reducible exact Nice.loadVar _ _
    | with_reducible exact Nice.storeVar _ _ _
    | (with_reducible refine Nice.bind ?_ (fun _ => ?_))
    | (with_reducible refine Nice.ite ?_ ?_)
    | (refine Nice.map ?_)
    | split
    | dsimp only)
theorem Nice.newVar (t : TypeId) (v : Value) : Nice P D (Go.newVar t v) := by
  unfold Go.newVar
  repeat' (first
    | with_reducible exact Nice.pure _
    | with_reducible exact Nice.pure' _
    | with_reducible exact Nice.stuck _
    | with_reducible exact Nice.goPanic _
    | (with_reducible refine Nice.unsupported ?_); trivial
    | with_reducible exact Nice.program
    | with_reducible exact Nice.choose _
    | with_reducible exact Nice.load _ _
    | with_reducible exact Nice.store _ _ _
    | with_reducible exact Nice.frozen _
    | with_reducible exact Nice.askRoom _
    | with_reducible exact Nice.noRoom
    | exact Nice.newObj (fun _ _ h => by cases h)
    | with_reducible exact Nice.typeInfo _
    | with_reducible exact Nice.underlying _
    | with_reducible exact Nice.typeStr _
    | with_reducible exact Nice.zeroValue _
    | with_reducible exact Nice.sizeOf _
    | with_reducible exact Nice.isAgg _
    | with_reducible exact Nice.loadCells _ _
    | with_reducible exact Nice.storeCells _ _ _
    | with_reducible exact Nice.loadVar _ _
    | with_reducible exact Nice.storeVar _ _ _
    | with_reducible exact Nice.newRow _ _
    | (with_reducible refine Nice.bind ?_ (fun _ => ?_))
    | (with_reducible refine Nice.ite ?_ ?_)
    | (refine Nice.map ?_)
    | split
    | dsimp only)
theorem Nice.elemOf (t : TypeId) : Nice P D (Go.elemOf t) := by
  unfold Go.elemOf
  repeat' (first
    | with_reducible exact Nice.pure _
    | with_reducible exact Nice.pure' _
    | with_reducible exact Nice.stuck _
    | with_reducible exact Nice.goPanic _
    | (with_reducible refine Nice.unsupported ?_); trivial
    | with_reducible exact Nice.program
    | with_reducible exact Nice.choose _
    | with_reducible exact Nice.load _ _
    | with_reducible exact Nice.store _ _ _
    | with_reducible exact Nice.frozen _
    | with_reducible exact Nice.askRoom _
    | with_reducible exact Nice.noRoom
    | exact Nice.newObj (fun _ _ h => by cases h)
    | with_reducible exact Nice.typeInfo _
    | with_reducible exact Nice.underlying _
    | with_reducible exact Nice.typeStr _
    | with_reducible exact Nice.zeroValue _
    | with_reducible exact Nice.sizeOf _
    | with_reducible exact Nice.isAgg _
    | with_reducible exact Nice.loadCells _ _
    | with_reducible exact Nice.storeCells _ _ _
    | with_reducible exact Nice.loadVar _ _
    | with_reducible exact Nice.storeVar _ _ _
    | with_reducible exact Nice.newRow _ _
    | with_reducible exact Nice.newVar _ _
    | (with_reducible refine Nice.bind ?_ (fun _ => ?_))
    | (with_reducible refine Nice.ite ?_ ?_)
    | (refine Nice.map ?_)
    | split
    | dsimp only)
theorem Nice.part (t : TypeId) (cs : Array Value) (off : Nat) : Nice P D (Go.part t cs off) := by
  unfold Go.part
  repeat' (first
    | with_reducible exact Nice.pure _
    | with_reducible exact Nice.pure' _
    | with_reducible exact Nice.stuck _
    | with_reducible exact Nice.goPanic _
    | (with_reducible refine Nice.unsupported ?_); trivial
    | with_reducible exact Nice.program
    | with_reducible exact Nice.choose _
    | with_reducible exact Nice.load _ _
    | with_reducible exact Nice.store _ _ _
    | with_reducible exact Nice.frozen _
    | with_reducible exact Nice.askRoom _
    | with_reducible exact Nice.noRoom
    | exact Nice.newObj (fun _ _ h => by cases h)
    | with_reducible exact Nice.typeInfo _
    | with_reducible exact Nice.underlying _
    | with_reducible exact Nice.typeStr _
    | with_reducible exact Nice.zeroValue _
    | with_reducible exact Nice.sizeOf _
    | with_reducible exact Nice.isAgg _
    | with_reducible exact Nice.loadCells _ _
    | with_reducible exact Nice.storeCells _ _ _
    | with_reducible exact Nice.loadVar _ _
    | with_reducible exact Nice.storeVar _ _ _
    | with_reducible exact Nice.newRow _ _
    | with_reducible exact Nice.newVar _ _
    | with_reducible exact Nice.elemOf _
    | (with_reducible refine Nice.bind ?_ (fun _ => ?_))
    | (with_reducible refine Nice.ite ?_ ?_)
    | (refine Nice.map ?_)
    | split
    | dsimp only)
theorem Nice.runtimePanic (e : RuntimeError) : Nice P D (Go.runtimePanic e : Sem α) := by
  unfold Go.runtimePanic
  repeat' (first
    | with_reducible exact Nice.pure _
    | with_reducible exact Nice.pure' _
    | with_reducible exact Nice.stuck _
    | with_reducible exact Nice.goPanic _
    | (with_reducible refine Nice.unsupported ?_); trivial
    | with_reducible exact Nice.program
    | with_reducible exact Nice.choose _
    | with_reducible exact Nice.load _ _
    | with_reducible exact Nice.store _ _ _
    | with_reducible exact Nice.frozen _
    | with_reducible exact Nice.askRoom _
    | with_reducible exact Nice.noRoom
    | exact Nice.newObj (fun _ _ h => by cases h)
    | with_reducible exact Nice.typeInfo _
    | with_reducible exact Nice.underlying _
    | with_reducible exact Nice.typeStr _
    | with_reducible exact Nice.zeroValue _
    | with_reducible exact Nice.sizeOf _
    | with_reducible exact Nice.isAgg _
    | with_reducible exact Nice.loadCells _ _
    | with_reducible exact Nice.storeCells _ _ _
    | with_reducible exact Nice.loadVar _ _
    | with_reducible exact Nice.storeVar _ _ _
    | with_reducible exact Nice.newRow _ _
    | with_reducible exact Nice.newVar _ _
    | with_reducible exact Nice.elemOf _
    | with_reducible exact Nice.part _ _ _
    | (with_reducible refine Nice.bind ?_ (fun _ => ?_))
    | (with_reducible refine Nice.ite ?_ ?_)
    | (refine Nice.map ?_)
    | split
    | dsimp only)
theorem Nice.boundsPanic (k : IntKind) (x y : Int) (c : BoundsCode) : Nice P D (Go.boundsPanic k x y c : Sem α) := by
  unfold Go.boundsPanic
  repeat' (first
    | with_reducible exact Nice.pure _
    | with_reducible exact Nice.pure' _
    | with_reducible exact Nice.stuck _
    | with_reducible exact Nice.goPanic _
    | (with_reducible refine Nice.unsupported ?_); trivial
    | with_reducible exact Nice.program
    | with_reducible exact Nice.choose _
    | with_reducible exact Nice.load _ _
    | with_reducible exact Nice.store _ _ _
    | with_reducible exact Nice.frozen _
    | with_reducible exact Nice.askRoom _
    | with_reducible exact Nice.noRoom
    | exact Nice.newObj (fun _ _ h => by cases h)
    | with_reducible exact Nice.typeInfo _
    | with_reducible exact Nice.underlying _
    | with_reducible exact Nice.typeStr _
    | with_reducible exact Nice.zeroValue _
    | with_reducible exact Nice.sizeOf _
    | with_reducible exact Nice.isAgg _
    | with_reducible exact Nice.loadCells _ _
    | with_reducible exact Nice.storeCells _ _ _
    | with_reducible exact Nice.loadVar _ _
    | with_reducible exact Nice.storeVar _ _ _
    | with_reducible exact Nice.newRow _ _
    | with_reducible exact Nice.newVar _ _
    | with_reducible exact Nice.elemOf _
    | with_reducible exact Nice.part _ _ _
    | with_reducible exact Nice.runtimePanic _
    | (with_reducible refine Nice.bind ?_ (fun _ => ?_))
    | (with_reducible refine Nice.ite ?_ ?_)
    | (refine Nice.map ?_)
    | split
    | dsimp only)
theorem Nice.asIntOf (v : Value) : Nice P D (Go.asIntOf v) := by
  unfold Go.asIntOf
  repeat' (first
    | with_reducible exact Nice.pure _
    | with_reducible exact Nice.pure' _
    | with_reducible exact Nice.stuck _
    | with_reducible exact Nice.goPanic _
    | (with_reducible refine Nice.unsupported ?_); trivial
    | with_reducible exact Nice.program
    | with_reducible exact Nice.choose _
    | with_reducible exact Nice.load _ _
    | with_reducible exact Nice.store _ _ _
    | with_reducible exact Nice.frozen _
    | with_reducible exact Nice.askRoom _
    | with_reducible exact Nice.noRoom
    | exact Nice.newObj (fun _ _ h => by cases h)
    | with_reducible exact Nice.typeInfo _
    | with_reducible exact Nice.underlying _
    | with_reducible exact Nice.typeStr _
    | with_reducible exact Nice.zeroValue _
    | with_reducible exact Nice.sizeOf _
    | with_reducible exact Nice.isAgg _
    | with_reducible exact Nice.loadCells _ _
    | with_reducible exact Nice.storeCells _ _ _
    | with_reducible exact Nice.loadVar _ _
    | with_reducible exact Nice.storeVar _ _ _
    | with_reducible exact Nice.newRow _ _
    | with_reducible exact Nice.newVar _ _
    | with_reducible exact Nice.elemOf _
    | with_reducible exact Nice.part _ _ _
    | with_reducible exact Nice.runtimePanic _
    | with_reducible exact Nice.boundsPanic _ _ _ _
    | (with_reducible refine Nice.bind ?_ (fun _ => ?_))
    | (with_reducible refine Nice.ite ?_ ?_)
    | (refine Nice.map ?_)
    | split
    | dsimp only)
theorem Nice.asInt (v : Value) : Nice P D (Go.asInt v) := by
  unfold Go.asInt
  repeat' (first
    | with_reducible exact Nice.pure _
    | with_reducible exact Nice.pure' _
    | with_reducible exact Nice.stuck _
    | with_reducible exact Nice.goPanic _
    | (with_reducible refine Nice.unsupported ?_); trivial
    | with_reducible exact Nice.program
    | with_reducible exact Nice.choose _
    | with_reducible exact Nice.load _ _
    | with_reducible exact Nice.store _ _ _
    | with_reducible exact Nice.frozen _
    | with_reducible exact Nice.askRoom _
    | with_reducible exact Nice.noRoom
    | exact Nice.newObj (fun _ _ h => by cases h)
    | with_reducible exact Nice.typeInfo _
    | with_reducible exact Nice.underlying _
    | with_reducible exact Nice.typeStr _
    | with_reducible exact Nice.zeroValue _
    | with_reducible exact Nice.sizeOf _
    | with_reducible exact Nice.isAgg _
    | with_reducible exact Nice.loadCells _ _
    | with_reducible exact Nice.storeCells _ _ _
    | with_reducible exact Nice.loadVar _ _
    | with_reducible exact Nice.storeVar _ _ _
    | with_reducible exact Nice.newRow _ _
    | with_reducible exact Nice.newVar _ _
    | with_reducible exact Nice.elemOf _
    | with_reducible exact Nice.part _ _ _
    | with_reducible exact Nice.runtimePanic _
    | with_reducible exact Nice.boundsPanic _ _ _ _
    | with_reducible exact Nice.asIntOf _
    | (with_reducible refine Nice.bind ?_ (fun _ => ?_))
    | (with_reducible refine Nice.ite ?_ ?_)
    | (refine Nice.map ?_)
    | split
    | dsimp only)
theorem Nice.asBool (v : Value) : Nice P D (Go.asBool v) := by
  unfold Go.asBool
  repeat' (first
    | with_reducible exact Nice.pure _
    | with_reducible exact Nice.pure' _
    | with_reducible exact Nice.stuck _
    | with_reducible exact Nice.goPanic _
    | (with_reducible refine Nice.unsupported ?_); trivial
    | with_reducible exact Nice.program
    | with_reducible exact Nice.choose _
    | with_reducible exact Nice.load _ _
    | with_reducible exact Nice.store _ _ _
    | with_reducible exact Nice.frozen _
    | with_reducible exact Nice.askRoom _
    | with_reducible exact Nice.noRoom
    | exact Nice.newObj (fun _ _ h => by cases h)
    | with_reducible exact Nice.typeInfo _
    | with_reducible exact Nice.underlying _
    | with_reducible exact Nice.typeStr _
    | with_reducible exact Nice.zeroValue _
    | with_reducible exact Nice.sizeOf _
    | with_reducible exact Nice.isAgg _
    | with_reducible exact Nice.loadCells _ _
    | with_reducible exact Nice.storeCells _ _ _
    | with_reducible exact Nice.loadVar _ _
    | with_reducible exact Nice.storeVar _ _ _
    | with_reducible exact Nice.newRow _ _
    | with_reducible exact Nice.newVar _ _
    | with_reducible exact Nice.elemOf _
    | with_reducible exact Nice.part _ _ _
    | with_reducible exact Nice.runtimePanic _
    | with_reducible exact Nice.boundsPanic _ _ _ _
    | with_reducible exact Nice.asIntOf _
    | with_reducible exact Nice.asInt _
    | (with_reducible refine Nice.bind ?_ (fun _ => ?_))
    | (with_reducible refine Nice.ite ?_ ?_)
    | (refine Nice.map ?_)
    | split
    | dsimp only)
theorem Nice.asAddr (v : Value) : Nice P D (Go.asAddr v) := by
  unfold Go.asAddr
  repeat' (first
    | with_reducible exact Nice.pure _
    | with_reducible exact Nice.pure' _
    | with_reducible exact Nice.stuck _
    | with_reducible exact Nice.goPanic _
    | (with_reducible refine Nice.unsupported ?_); trivial
    | with_reducible exact Nice.program
    | with_reducible exact Nice.choose _
    | with_reducible exact Nice.load _ _
    | with_reducible exact Nice.store _ _ _
    | with_reducible exact Nice.frozen _
    | with_reducible exact Nice.askRoom _
    | with_reducible exact Nice.noRoom
    | exact Nice.newObj (fun _ _ h => by cases h)
    | with_reducible exact Nice.typeInfo _
    | with_reducible exact Nice.underlying _
    | with_reducible exact Nice.typeStr _
    | with_reducible exact Nice.zeroValue _
    | with_reducible exact Nice.sizeOf _
    | with_reducible exact Nice.isAgg _
    | with_reducible exact Nice.loadCells _ _
    | with_reducible exact Nice.storeCells _ _ _
    | with_reducible exact Nice.loadVar _ _
    | with_reducible exact Nice.storeVar _ _ _
    | with_reducible exact Nice.newRow _ _
    | with_reducible exact Nice.newVar _ _
    | with_reducible exact Nice.elemOf _
    | with_reducible exact Nice.part _ _ _
    | with_reducible exact Nice.runtimePanic _
    | with_reducible exact Nice.boundsPanic _ _ _ _
    | with_reducible exact Nice.asIntOf _
    | with_reducible exact Nice.asInt _
    | with_reducible exact Nice.asBool _
    | (with_reducible refine Nice.bind ?_ (fun _ => ?_))
    | (with_reducible refine Nice.ite ?_ ?_)
    | (refine Nice.map ?_)
    | split
    | dsimp only)
theorem Nice.sureAddr (v : Value) : Nice P D (Instr.sureAddr v) := by
  unfold Instr.sureAddr
  repeat' (first
    | with_reducible exact Nice.pure _
    | with_reducible exact Nice.pure' _
    | with_reducible exact Nice.stuck _
    | with_reducible exact Nice.goPanic _
    | (with_reducible refine Nice.unsupported ?_); trivial
    | with_reducible exact Nice.program
    | with_reducible exact Nice.choose _
    | with_reducible exact Nice.load _ _
    | with_reducible exact Nice.store _ _ _
    | with_reducible exact Nice.frozen _
    | with_reducible exact Nice.askRoom _
    | with_reducible exact Nice.noRoom
    | exact Nice.newObj (fun _ _ h => by cases h)
    | with_reducible exact Nice.typeInfo _
    | with_reducible exact Nice.underlying _
    | with_reducible exact Nice.typeStr _
    | with_reducible exact Nice.zeroValue _
    | with_reducible exact Nice.sizeOf _
    | with_reducible exact Nice.isAgg _
    | with_reducible exact Nice.loadCells _ _
    | with_reducible exact Nice.storeCells _ _ _
    | with_reducible exact Nice.loadVar _ _
    | with_reducible exact Nice.storeVar _ _ _
    | with_reducible exact Nice.newRow _ _
    | with_reducible exact Nice.newVar _ _
    | with_reducible exact Nice.elemOf _
    | with_reducible exact Nice.part _ _ _
    | with_reducible exact Nice.runtimePanic _
    | with_reducible exact Nice.boundsPanic _ _ _ _
    | with_reducible exact Nice.asIntOf _
    | with_reducible exact Nice.asInt _
    | with_reducible exact Nice.asBool _
    | with_reducible exact Nice.asAddr _
    | (with_reducible refine Nice.bind ?_ (fun _ => ?_))
    | (with_reducible refine Nice.ite ?_ ?_)
    | (refine Nice.map ?_)
    | split
    | dsimp only)
theorem Nice.loadAt (t : TypeId) (v : Value) : Nice P D (Instr.loadAt t v) := by
  unfold Instr.loadAt
  repeat' (first
    | with_reducible exact Nice.pure _
    | with_reducible exact Nice.pure' _
    | with_reducible exact Nice.stuck _
    | with_reducible exact Nice.goPanic _
    | (with_reducible refine Nice.unsupported ?_); trivial
    | with_reducible exact Nice.program
    | with_reducible exact Nice.choose _
    | with_reducible exact Nice.load _ _
    | with_reducible exact Nice.store _ _ _
    | with_reducible exact Nice.frozen _
    | with_reducible exact Nice.askRoom _
    | with_reducible exact Nice.noRoom
    | exact Nice.newObj (fun _ _ h => by cases h)
    | with_reducible exact Nice.typeInfo _
    | with_reducible exact Nice.underlying _
    | with_reducible exact Nice.typeStr _
    | with_reducible exact Nice.zeroValue _
    | with_reducible exact Nice.sizeOf _
    | with_reducible exact Nice.isAgg _
    | with_reducible exact Nice.loadCells _ _
    | with_reducible exact Nice.storeCells _ _ _
    | with_reducible exact Nice.loadVar _ _
    | with_reducible exact Nice.storeVar _ _ _
    | with_reducible exact Nice.newRow _ _
    | with_reducible exact Nice.newVar _ _
    | with_reducible exact Nice.elemOf _
    | with_reducible exact Nice.part _ _ _
    | with_reducible exact Nice.runtimePanic _
    | with_reducible exact Nice.boundsPanic _ _ _ _
    | with_reducible exact Nice.asIntOf _
    | with_reducible exact Nice.asInt _
    | with_reducible exact Nice.asBool _
    | with_reducible exact Nice.asAddr _
    | with_reducible exact Nice.sureAddr _
    | (with_reducible refine Nice.bind ?_ (fun _ => ?_))
    | (with_reducible refine Nice.ite ?_ ?_)
    | (refine Nice.map ?_)
    | split
    | dsimp only)
theorem Nice.storeAt (t : TypeId) (v x : Value) : Nice P D (Instr.storeAt t v x) := by
  unfold Instr.storeAt
  repeat' (first
    | with_reducible exact Nice.pure _
    | with_reducible exact Nice.pure' _
    | with_reducible exact Nice.stuck _
    | with_reducible exact Nice.goPanic _
    | (with_reducible refine Nice.unsupported ?_); trivial
    | with_reducible exact Nice.program
    | with_reducible exact Nice.choose _
    | with_reducible exact Nice.load _ _
    | with_reducible exact Nice.store _ _ _
    | with_reducible exact Nice.frozen _
    | with_reducible exact Nice.askRoom _
    | with_reducible exact Nice.noRoom
    | exact Nice.newObj (fun _ _ h => by cases h)
    | with_reducible exact Nice.typeInfo _
    | with_reducible exact Nice.underlying _
    | with_reducible exact Nice.typeStr _
    | with_reducible exact Nice.zeroValue _
    | with_reducible exact Nice.sizeOf _
    | with_reducible exact Nice.isAgg _
    | with_reducible exact Nice.loadCells _ _
    | with_reducible exact Nice.storeCells _ _ _
    | with_reducible exact Nice.loadVar _ _
    | with_reducible exact Nice.storeVar _ _ _
    | with_reducible exact Nice.newRow _ _
    | with_reducible exact Nice.newVar _ _
    | with_reducible exact Nice.elemOf _
    | with_reducible exact Nice.part _ _ _
    | with_reducible exact Nice.runtimePanic _
    | with_reducible exact Nice.boundsPanic _ _ _ _
    | with_reducible exact Nice.asIntOf _
    | with_reducible exact Nice.asInt _
    | with_reducible exact Nice.asBool _
    | with_reducible exact Nice.asAddr _
    | with_reducible exact Nice.sureAddr _
    | with_reducible exact Nice.loadAt _ _
    | (with_reducible refine Nice.bind ?_ (fun _ => ?_))
    | (with_reducible refine Nice.ite ?_ ?_)
    | (refine Nice.map ?_)
    | split
    | dsimp only)
theorem Nice.indexAt (t : TypeId) (x i : Value) : Nice P D (Instr.indexAt t x i) := by
  unfold Instr.indexAt
  repeat' (first
    | with_reducible exact Nice.pure _
    | with_reducible exact Nice.pure' _
    | with_reducible exact Nice.stuck _
    | with_reducible exact Nice.goPanic _
    | (with_reducible refine Nice.unsupported ?_); trivial
    | with_reducible exact Nice.program
    | with_reducible exact Nice.choose _
    | with_reducible exact Nice.load _ _
    | with_reducible exact Nice.store _ _ _
    | with_reducible exact Nice.frozen _
    | with_reducible exact Nice.askRoom _
    | with_reducible exact Nice.noRoom
    | exact Nice.newObj (fun _ _ h => by cases h)
    | with_reducible exact Nice.typeInfo _
    | with_reducible exact Nice.underlying _
    | with_reducible exact Nice.typeStr _
    | with_reducible exact Nice.zeroValue _
    | with_reducible exact Nice.sizeOf _
    | with_reducible exact Nice.isAgg _
    | with_reducible exact Nice.loadCells _ _
    | with_reducible exact Nice.storeCells _ _ _
    | with_reducible exact Nice.loadVar _ _
    | with_reducible exact Nice.storeVar _ _ _
    | with_reducible exact Nice.newRow _ _
    | with_reducible exact Nice.newVar _ _
    | with_reducible exact Nice.elemOf _
    | with_reducible exact Nice.part _ _ _
    | with_reducible exact Nice.runtimePanic _
    | with_reducible exact Nice.boundsPanic _ _ _ _
    | with_reducible exact Nice.asIntOf _
    | with_reducible exact Nice.asInt _
    | with_reducible exact Nice.asBool _
    | with_reducible exact Nice.asAddr _
    | with_reducible exact Nice.sureAddr _
    | with_reducible exact Nice.loadAt _ _
    | with_reducible exact Nice.storeAt _ _ _
    | (with_reducible refine Nice.bind ?_ (fun _ => ?_))
    | (with_reducible refine Nice.ite ?_ ?_)
    | (refine Nice.map ?_)
    | split
    | dsimp only)
theorem Nice.sliceBound (x : Value) (y : Nat) (c : BoundsCode) : Nice P D (Instr.sliceBound x y c) := by
  unfold Instr.sliceBound
  repeat' (first
    | with_reducible exact Nice.pure _
    | with_reducible exact Nice.pure' _
    | with_reducible exact Nice.stuck _
    | with_reducible exact Nice.goPanic _
    | (with_reducible refine Nice.unsupported ?_); trivial
    | with_reducible exact Nice.program
    | with_reducible exact Nice.choose _
    | with_reducible exact Nice.load _ _
    | with_reducible exact Nice.store _ _ _
    | with_reducible exact Nice.frozen _
    | with_reducible exact Nice.askRoom _
    | with_reducible exact Nice.noRoom
    | exact Nice.newObj (fun _ _ h => by cases h)
    | with_reducible exact Nice.typeInfo _
    | with_reducible exact Nice.underlying _
    | with_reducible exact Nice.typeStr _
    | with_reducible exact Nice.zeroValue _
    | with_reducible exact Nice.sizeOf _
    | with_reducible exact Nice.isAgg _
    | with_reducible exact Nice.loadCells _ _
    | with_reducible exact Nice.storeCells _ _ _
    | with_reducible exact Nice.loadVar _ _
    | with_reducible exact Nice.storeVar _ _ _
    | with_reducible exact Nice.newRow _ _
    | with_reducible exact Nice.newVar _ _
    | with_reducible exact Nice.elemOf _
    | with_reducible exact Nice.part _ _ _
    | with_reducible exact Nice.runtimePanic _
    | with_reducible exact Nice.boundsPanic _ _ _ _
    | with_reducible exact Nice.asIntOf _
    | with_reducible exact Nice.asInt _
    | with_reducible exact Nice.asBool _
    | with_reducible exact Nice.asAddr _
    | with_reducible exact Nice.sureAddr _
    | with_reducible exact Nice.loadAt _ _
    | with_reducible exact Nice.storeAt _ _ _
    | with_reducible exact Nice.indexAt _ _ _
    | (with_reducible refine Nice.bind ?_ (fun _ => ?_))
    | (with_reducible refine Nice.ite ?_ ?_)
    | (refine Nice.map ?_)
    | split
    | dsimp only)
theorem Nice.sliceBounds (b : Bool) (l c : Nat) (lo hi mx : Option Value) : Nice P D (Instr.sliceBounds b l c lo hi mx) := by
  unfold Instr.sliceBounds
  repeat' (first
    | with_reducible exact Nice.pure _
    | with_reducible exact Nice.pure' _
    | with_reducible exact Nice.stuck _
    | with_reducible exact Nice.goPanic _
    | (with_reducible refine Nice.unsupported ?_); trivial
    | with_reducible exact Nice.program
    | with_reducible exact Nice.choose _
    | with_reducible exact Nice.load _ _
    | with_reducible exact Nice.store _ _ _
    | with_reducible exact Nice.frozen _
    | with_reducible exact Nice.askRoom _
    | with_reducible exact Nice.noRoom
    | exact Nice.newObj (fun _ _ h => by cases h)
    | with_reducible exact Nice.typeInfo _
    | with_reducible exact Nice.underlying _
    | with_reducible exact Nice.typeStr _
    | with_reducible exact Nice.zeroValue _
    | with_reducible exact Nice.sizeOf _
    | with_reducible exact Nice.isAgg _
    | with_reducible exact Nice.loadCells _ _
    | with_reducible exact Nice.storeCells _ _ _
    | with_reducible exact Nice.loadVar _ _
    | with_reducible exact Nice.storeVar _ _ _
    | with_reducible exact Nice.newRow _ _
    | with_reducible exact Nice.newVar _ _
    | with_reducible exact Nice.elemOf _
    | with_reducible exact Nice.part _ _ _
    | with_reducible exact Nice.runtimePanic _
    | with_reducible exact Nice.boundsPanic _ _ _ _
    | with_reducible exact Nice.asIntOf _
    | with_reducible exact Nice.asInt _
    | with_reducible exact Nice.asBool _
    | with_reducible exact Nice.asAddr _
    | with_reducible exact Nice.sureAddr _
    | with_reducible exact Nice.loadAt _ _
    | with_reducible exact Nice.storeAt _ _ _
    | with_reducible exact Nice.indexAt _ _ _
    | with_reducible exact Nice.sliceBound _ _ _
    | (with_reducible refine Nice.bind ?_ (fun _ => ?_))
    | (with_reducible refine Nice.ite ?_ ?_)
    | (refine Nice.map ?_)
    | split
    | dsimp only)
theorem Nice.slice (t : TypeId) (x : Value) (lo hi mx : Option Value) : Nice P D (Instr.slice t x lo hi mx) := by
  unfold Instr.slice
  repeat' (first
    | with_reducible exact Nice.pure _
    | with_reducible exact Nice.pure' _
    | with_reducible exact Nice.stuck _
    | with_reducible exact Nice.goPanic _
    | (with_reducible refine Nice.unsupported ?_); trivial
    | with_reducible exact Nice.program
    | with_reducible exact Nice.choose _
    | with_reducible exact Nice.load _ _
    | with_reducible exact Nice.store _ _ _
    | with_reducible exact Nice.frozen _
    | with_reducible exact Nice.askRoom _
    | with_reducible exact Nice.noRoom
    | exact Nice.newObj (fun _ _ h => by cases h)
    | with_reducible exact Nice.typeInfo _
    | with_reducible exact Nice.underlying _
    | with_reducible exact Nice.typeStr _
    | with_reducible exact Nice.zeroValue _
    | with_reducible exact Nice.sizeOf _
    | with_reducible exact Nice.isAgg _
    | with_reducible exact Nice.loadCells _ _
    | with_reducible exact Nice.storeCells _ _ _
    | with_reducible exact Nice.loadVar _ _
    | with_reducible exact Nice.storeVar _ _ _
    | with_reducible exact Nice.newRow _ _
    | with_reducible exact Nice.newVar _ _
    | with_reducible exact Nice.elemOf _
    | with_reducible exact Nice.part _ _ _
    | with_reducible exact Nice.runtimePanic _
    | with_reducible exact Nice.boundsPanic _ _ _ _
    | with_reducible exact Nice.asIntOf _
    | with_reducible exact Nice.asInt _
    | with_reducible exact Nice.asBool _
    | with_reducible exact Nice.asAddr _
    | with_reducible exact Nice.sureAddr _
    | with_reducible exact Nice.loadAt _ _
    | with_reducible exact Nice.storeAt _ _ _
    | with_reducible exact Nice.indexAt _ _ _
    | with_reducible exact Nice.sliceBound _ _ _
    | with_reducible exact Nice.sliceBounds _ _ _ _ _ _
    | (with_reducible refine Nice.bind ?_ (fun _ => ?_))
    | (with_reducible refine Nice.ite ?_ ?_)
    | (refine Nice.map ?_)
    | split
    | dsimp only)
theorem Nice.sliceAt (t : TypeId) (x : Value) (lo hi mx : Option Value) : Nice P D (Instr.sliceAt t x lo hi mx) := by
  unfold Instr.sliceAt
  repeat' (first
    | with_reducible exact Nice.pure _
    | with_reducible exact Nice.pure' _
    | with_reducible exact Nice.stuck _
    | with_reducible exact Nice.goPanic _
    | (with_reducible refine Nice.unsupported ?_); trivial
    | with_reducible exact Nice.program
    | with_reducible exact Nice.choose _
    | with_reducible exact Nice.load _ _
    | with_reducible exact Nice.store _ _ _
    | with_reducible exact Nice.frozen _
    | with_reducible exact Nice.askRoom _
    | with_reducible exact Nice.noRoom
    | exact Nice.newObj (fun _ _ h => by cases h)
    | with_reducible exact Nice.typeInfo _
    | with_reducible exact Nice.underlying _
    | with_reducible exact Nice.typeStr _
    | with_reducible exact Nice.zeroValue _
    | with_reducible exact Nice.sizeOf _
    | with_reducible exact Nice.isAgg _
    | with_reducible exact Nice.loadCells _ _
    | with_reducible exact Nice.storeCells _ _ _
    | with_reducible exact Nice.loadVar _ _
    | with_reducible exact Nice.storeVar _ _ _
    | with_reducible exact Nice.newRow _ _
    | with_reducible exact Nice.newVar _ _
    | with_reducible exact Nice.elemOf _
    | with_reducible exact Nice.part _ _ _
    | with_reducible exact Nice.runtimePanic _
    | with_reducible exact Nice.boundsPanic _ _ _ _
    | with_reducible exact Nice.asIntOf _
    | with_reducible exact Nice.asInt _
    | with_reducible exact Nice.asBool _
    | with_reducible exact Nice.asAddr _
    | with_reducible exact Nice.sureAddr _
    | with_reducible exact Nice.loadAt _ _
    | with_reducible exact Nice.storeAt _ _ _
    | with_reducible exact Nice.indexAt _ _ _
    | with_reducible exact Nice.sliceBound _ _ _
    | with_reducible exact Nice.sliceBounds _ _ _ _ _ _
    | with_reducible exact Nice.slice _ _ _ _ _
    | (with_reducible refine Nice.bind ?_ (fun _ => ?_))
    | (with_reducible refine Nice.ite ?_ ?_)
    | (refine Nice.map ?_)
    | split
    | dsimp only)
theorem Nice.makeSlice (t : TypeId) (l c : Value) : Nice P D (Instr.makeSlice t l c) := by
  unfold Instr.makeSlice
  repeat' (first
    | with_reducible exact Nice.pure _
    | with_reducible exact Nice.pure' _
    | with_reducible exact Nice.stuck _
    | with_reducible exact Nice.goPanic _
    | (with_reducible refine Nice.unsupported ?_); trivial
    | with_reducible exact Nice.program
    | with_reducible exact Nice.choose _
    | with_reducible exact Nice.load _ _
    | with_reducible exact Nice.store _ _ _
    | with_reducible exact Nice.frozen _
    | with_reducible exact Nice.askRoom _
    | with_reducible exact Nice.noRoom
    | exact Nice.newObj (fun _ _ h => by cases h)
    | with_reducible exact Nice.typeInfo _
    | with_reducible exact Nice.underlying _
    | with_reducible exact Nice.typeStr _
    | with_reducible exact Nice.zeroValue _
    | with_reducible exact Nice.sizeOf _
    | with_reducible exact Nice.isAgg _
    | with_reducible exact Nice.loadCells _ _
    | with_reducible exact Nice.storeCells _ _ _
    | with_reducible exact Nice.loadVar _ _
    | with_reducible exact Nice.storeVar _ _ _
    | with_reducible exact Nice.newRow _ _
    | with_reducible exact Nice.newVar _ _
    | with_reducible exact Nice.elemOf _
    | with_reducible exact Nice.part _ _ _
    | with_reducible exact Nice.runtimePanic _
    | with_reducible exact Nice.boundsPanic _ _ _ _
    | with_reducible exact Nice.asIntOf _
    | with_reducible exact Nice.asInt _
    | with_reducible exact Nice.asBool _
    | with_reducible exact Nice.asAddr _
    | with_reducible exact Nice.sureAddr _
    | with_reducible exact Nice.loadAt _ _
    | with_reducible exact Nice.storeAt _ _ _
    | with_reducible exact Nice.indexAt _ _ _
    | with_reducible exact Nice.sliceBound _ _ _
    | with_reducible exact Nice.sliceBounds _ _ _ _ _ _
    | with_reducible exact Nice.slice _ _ _ _ _
    | with_reducible exact Nice.sliceAt _ _ _ _ _
    | (with_reducible refine Nice.bind ?_ (fun _ => ?_))
    | (with_reducible refine Nice.ite ?_ ?_)
    | (refine Nice.map ?_)
    | split
    | dsimp only)
theorem Nice.buildSlice (t : TypeId) (n : Nat) (ps : Array (Nat × Value)) : Nice P D (Instr.buildSlice t n ps) := by
  unfold Instr.buildSlice
  repeat' (first
    | with_reducible exact Nice.pure _
    | with_reducible exact Nice.pure' _
    | with_reducible exact Nice.stuck _
    | with_reducible exact Nice.goPanic _
    | (with_reducible refine Nice.unsupported ?_); trivial
    | with_reducible exact Nice.program
    | with_reducible exact Nice.choose _
    | with_reducible exact Nice.load _ _
    | with_reducible exact Nice.store _ _ _
    | with_reducible exact Nice.frozen _
    | with_reducible exact Nice.askRoom _
    | with_reducible exact Nice.noRoom
    | exact Nice.newObj (fun _ _ h => by cases h)
    | with_reducible exact Nice.typeInfo _
    | with_reducible exact Nice.underlying _
    | with_reducible exact Nice.typeStr _
    | with_reducible exact Nice.zeroValue _
    | with_reducible exact Nice.sizeOf _
    | with_reducible exact Nice.isAgg _
    | with_reducible exact Nice.loadCells _ _
    | with_reducible exact Nice.storeCells _ _ _
    | with_reducible exact Nice.loadVar _ _
    | with_reducible exact Nice.storeVar _ _ _
    | with_reducible exact Nice.newRow _ _
    | with_reducible exact Nice.newVar _ _
    | with_reducible exact Nice.elemOf _
    | with_reducible exact Nice.part _ _ _
    | with_reducible exact Nice.runtimePanic _
    | with_reducible exact Nice.boundsPanic _ _ _ _
    | with_reducible exact Nice.asIntOf _
    | with_reducible exact Nice.asInt _
    | with_reducible exact Nice.asBool _
    | with_reducible exact Nice.asAddr _
    | with_reducible exact Nice.sureAddr _
    | with_reducible exact Nice.loadAt _ _
    | with_reducible exact Nice.storeAt _ _ _
    | with_reducible exact Nice.indexAt _ _ _
    | with_reducible exact Nice.sliceBound _ _ _
    | with_reducible exact Nice.sliceBounds _ _ _ _ _ _
    | with_reducible exact Nice.slice _ _ _ _ _
    | with_reducible exact Nice.sliceAt _ _ _ _ _
    | with_reducible exact Nice.makeSlice _ _ _
    | (with_reducible refine Nice.bind ?_ (fun _ => ?_))
    | (with_reducible refine Nice.ite ?_ ?_)
    | (refine Nice.map ?_)
    | split
    | dsimp only)
theorem Nice.box (t : TypeId) (v : Value) : Nice P D (Instr.box t v) := by
  unfold Instr.box
  repeat' (first
    | with_reducible exact Nice.pure _
    | with_reducible exact Nice.pure' _
    | with_reducible exact Nice.stuck _
    | with_reducible exact Nice.goPanic _
    | (with_reducible refine Nice.unsupported ?_); trivial
    | with_reducible exact Nice.program
    | with_reducible exact Nice.choose _
    | with_reducible exact Nice.load _ _
    | with_reducible exact Nice.store _ _ _
    | with_reducible exact Nice.frozen _
    | with_reducible exact Nice.askRoom _
    | with_reducible exact Nice.noRoom
    | exact Nice.newObj (fun _ _ h => by cases h)
    | with_reducible exact Nice.typeInfo _
    | with_reducible exact Nice.underlying _
    | with_reducible exact Nice.typeStr _
    | with_reducible exact Nice.zeroValue _
    | with_reducible exact Nice.sizeOf _
    | with_reducible exact Nice.isAgg _
    | with_reducible exact Nice.loadCells _ _
    | with_reducible exact Nice.storeCells _ _ _
    | with_reducible exact Nice.loadVar _ _
    | with_reducible exact Nice.storeVar _ _ _
    | with_reducible exact Nice.newRow _ _
    | with_reducible exact Nice.newVar _ _
    | with_reducible exact Nice.elemOf _
    | with_reducible exact Nice.part _ _ _
    | with_reducible exact Nice.runtimePanic _
    | with_reducible exact Nice.boundsPanic _ _ _ _
    | with_reducible exact Nice.asIntOf _
    | with_reducible exact Nice.asInt _
    | with_reducible exact Nice.asBool _
    | with_reducible exact Nice.asAddr _
    | with_reducible exact Nice.sureAddr _
    | with_reducible exact Nice.loadAt _ _
    | with_reducible exact Nice.storeAt _ _ _
    | with_reducible exact Nice.indexAt _ _ _
    | with_reducible exact Nice.sliceBound _ _ _
    | with_reducible exact Nice.sliceBounds _ _ _ _ _ _
    | with_reducible exact Nice.slice _ _ _ _ _
    | with_reducible exact Nice.sliceAt _ _ _ _ _
    | with_reducible exact Nice.makeSlice _ _ _
    | with_reducible exact Nice.buildSlice _ _ _
    | (with_reducible refine Nice.bind ?_ (fun _ => ?_))
    | (with_reducible refine Nice.ite ?_ ?_)
    | (refine Nice.map ?_)
    | split
    | dsimp only)
theorem Nice.alloc (t : TypeId) (b : Bool) (v : Value) : Nice P D (Instr.alloc t b v) := by
  unfold Instr.alloc
  repeat' (first
    | with_reducible exact Nice.pure _
    | with_reducible exact Nice.pure' _
    | with_reducible exact Nice.stuck _
    | with_reducible exact Nice.goPanic _
    | (with_reducible refine Nice.unsupported ?_); trivial
    | with_reducible exact Nice.program
    | with_reducible exact Nice.choose _
    | with_reducible exact Nice.load _ _
    | with_reducible exact Nice.store _ _ _
    | with_reducible exact Nice.frozen _
    | with_reducible exact Nice.askRoom _
    | with_reducible exact Nice.noRoom
    | exact Nice.newObj (fun _ _ h => by cases h)
    | with_reducible exact Nice.typeInfo _
    | with_reducible exact Nice.underlying _
    | with_reducible exact Nice.typeStr _
    | with_reducible exact Nice.zeroValue _
    | with_reducible exact Nice.sizeOf _
    | with_reducible exact Nice.isAgg _
    | with_reducible exact Nice.loadCells _ _
    | with_reducible exact Nice.storeCells _ _ _
    | with_reducible exact Nice.loadVar _ _
    | with_reducible exact Nice.storeVar _ _ _
    | with_reducible exact Nice.newRow _ _
    | with_reducible exact Nice.newVar _ _
    | with_reducible exact Nice.elemOf _
    | with_reducible exact Nice.part _ _ _
    | with_reducible exact Nice.runtimePanic _
    | with_reducible exact Nice.boundsPanic _ _ _ _
    | with_reducible exact Nice.asIntOf _
    | with_reducible exact Nice.asInt _
    | with_reducible exact Nice.asBool _
    | with_reducible exact Nice.asAddr _
    | with_reducible exact Nice.sureAddr _
    | with_reducible exact Nice.loadAt _ _
    | with_reducible exact Nice.storeAt _ _ _
    | with_reducible exact Nice.indexAt _ _ _
    | with_reducible exact Nice.sliceBound _ _ _
    | with_reducible exact Nice.sliceBounds _ _ _ _ _ _
    | with_reducible exact Nice.slice _ _ _ _ _
    | with_reducible exact Nice.sliceAt _ _ _ _ _
    | with_reducible exact Nice.makeSlice _ _ _
    | with_reducible exact Nice.buildSlice _ _ _
    | with_reducible exact Nice.box _ _
    | (with_reducible refine Nice.bind ?_ (fun _ => ?_))
    | (with_reducible refine Nice.ite ?_ ?_)
    | (refine Nice.map ?_)
    | split
    | dsimp only)
theorem Nice.extract (v : Value) (n : Nat) : Nice P D (Instr.extract v n) := by
  unfold Instr.extract
  repeat' (first
    | with_reducible exact Nice.pure _
    | with_reducible exact Nice.pure' _
    | with_reducible exact Nice.stuck _
    | with_reducible exact Nice.goPanic _
    | (with_reducible refine Nice.unsupported ?_); trivial
    | with_reducible exact Nice.program
    | with_reducible exact Nice.choose _
    | with_reducible exact Nice.load _ _
    | with_reducible exact Nice.store _ _ _
    | with_reducible exact Nice.frozen _
    | with_reducible exact Nice.askRoom _
    | with_reducible exact Nice.noRoom
    | exact Nice.newObj (fun _ _ h => by cases h)
    | with_reducible exact Nice.typeInfo _
    | with_reducible exact Nice.underlying _
    | with_reducible exact Nice.typeStr _
    | with_reducible exact Nice.zeroValue _
    | with_reducible exact Nice.sizeOf _
    | with_reducible exact Nice.isAgg _
    | with_reducible exact Nice.loadCells _ _
    | with_reducible exact Nice.storeCells _ _ _
    | with_reducible exact Nice.loadVar _ _
    | with_reducible exact Nice.storeVar _ _ _
    | with_reducible exact Nice.newRow _ _
    | with_reducible exact Nice.newVar _ _
    | with_reducible exact Nice.elemOf _
    | with_reducible exact Nice.part _ _ _
    | with_reducible exact Nice.runtimePanic _
    | with_reducible exact Nice.boundsPanic _ _ _ _
    | with_reducible exact Nice.asIntOf _
    | with_reducible exact Nice.asInt _
    | with_reducible exact Nice.asBool _
    | with_reducible exact Nice.asAddr _
    | with_reducible exact Nice.sureAddr _
    | with_reducible exact Nice.loadAt _ _
    | with_reducible exact Nice.storeAt _ _ _
    | with_reducible exact Nice.indexAt _ _ _
    | with_reducible exact Nice.sliceBound _ _ _
    | with_reducible exact Nice.sliceBounds _ _ _ _ _ _
    | with_reducible exact Nice.slice _ _ _ _ _
    | with_reducible exact Nice.sliceAt _ _ _ _ _
    | with_reducible exact Nice.makeSlice _ _ _
    | with_reducible exact Nice.buildSlice _ _ _
    | with_reducible exact Nice.box _ _
    | with_reducible exact Nice.alloc _ _ _
    | (with_reducible refine Nice.bind ?_ (fun _ => ?_))
    | (with_reducible refine Nice.ite ?_ ?_)
    | (refine Nice.map ?_)
    | split
    | dsimp only)
theorem Nice.makeInterface (t : TypeId) (v : Value) : Nice P D (Instr.makeInterface t v) := by
  unfold Instr.makeInterface
  repeat' (first
    | with_reducible exact Nice.pure _
    | with_reducible exact Nice.pure' _
    | with_reducible exact Nice.stuck _
    | with_reducible exact Nice.goPanic _
    | (with_reducible refine Nice.unsupported ?_); trivial
    | with_reducible exact Nice.program
    | with_reducible exact Nice.choose _
    | with_reducible exact Nice.load _ _
    | with_reducible exact Nice.store _ _ _
    | with_reducible exact Nice.frozen _
    | with_reducible exact Nice.askRoom _
    | with_reducible exact Nice.noRoom
    | exact Nice.newObj (fun _ _ h => by cases h)
    | with_reducible exact Nice.typeInfo _
    | with_reducible exact Nice.underlying _
    | with_reducible exact Nice.typeStr _
    | with_reducible exact Nice.zeroValue _
    | with_reducible exact Nice.sizeOf _
    | with_reducible exact Nice.isAgg _
    | with_reducible exact Nice.loadCells _ _
    | with_reducible exact Nice.storeCells _ _ _
    | with_reducible exact Nice.loadVar _ _
    | with_reducible exact Nice.storeVar _ _ _
    | with_reducible exact Nice.newRow _ _
    | with_reducible exact Nice.newVar _ _
    | with_reducible exact Nice.elemOf _
    | with_reducible exact Nice.part _ _ _
    | with_reducible exact Nice.runtimePanic _
    | with_reducible exact Nice.boundsPanic _ _ _ _
    | with_reducible exact Nice.asIntOf _
    | with_reducible exact Nice.asInt _
    | with_reducible exact Nice.asBool _
    | with_reducible exact Nice.asAddr _
    | with_reducible exact Nice.sureAddr _
    | with_reducible exact Nice.loadAt _ _
    | with_reducible exact Nice.storeAt _ _ _
    | with_reducible exact Nice.indexAt _ _ _
    | with_reducible exact Nice.sliceBound _ _ _
    | with_reducible exact Nice.sliceBounds _ _ _ _ _ _
    | with_reducible exact Nice.slice _ _ _ _ _
    | with_reducible exact Nice.sliceAt _ _ _ _ _
    | with_reducible exact Nice.makeSlice _ _ _
    | with_reducible exact Nice.buildSlice _ _ _
    | with_reducible exact Nice.box _ _
    | with_reducible exact Nice.alloc _ _ _
    | with_reducible exact Nice.extract _ _
    | (with_reducible refine Nice.bind ?_ (fun _ => ?_))
    | (with_reducible refine Nice.ite ?_ ?_)
    | (refine Nice.map ?_)
    | split
    | dsimp only)
end
end Go.Proofs.YtafhpbghogdipaaDoor

/- Trees that look at one block; len, cap, append, panic: nice. -/
namespace Go.Proofs.YtafhpbghogdipaaDoor
open Go.Conc
set_option maxHeartbeats 8000000
set_option linter.unusedVariables false
set_option linter.unusedSimpArgs false

section
variable {P : Program} {D : DS} {α β : Type}
/-- It never comes to a result. -/
def Dead (P : Program) (s : Sem α) (w : World) : Prop := ∃ h w', s.run P w = .halt h w' ∧ Dull h
theorem Nice.of_dead {s : Sem α} (h : ∀ w, Dead P s w) : Nice P D s :=
  ⟨fun u w _ _ => by obtain ⟨x, u', e, hx⟩ := h u; rw [e]; exact hx, fun w a w' hr => by obtain ⟨x, u', e, _⟩ := h w; rw [e] at hr; cases hr⟩
theorem nice_of {s : Sem α} (r : Nat) (h1 : ∀ D : DS, ¬ D r → Nice P D s) (h2 : ∀ u : World, u.heap[r]? = some poison → Dead P s u) : Nice P D s := by
  by_cases hd : D r
  · refine ⟨fun u w h _ => ?_, (h1 DS.nil (by simp)).loc⟩
    obtain ⟨x, u', e, hx⟩ := h2 u (h.dead r hd)
    rw [e]
    exact hx
  · exact h1 D hd
theorem shape_eq {u w : World} (h : Pz D u w) {r : Nat} (hr : ¬ D r) : u.shape? r = w.shape? r := by simp [World.shape?, h.same r hr]
theorem Nice.shape {r : Nat} (hr : ¬ D r) : Nice P D (Go.shape r) := by
  have e : ∀ w : World, (Go.shape r).run P w = .ok (w.shape? r) w := fun w => rfl
  refine ⟨fun u w h hn => ⟨hn, w, by rw [e, shape_eq h hr], h, fun x hx => by simp [Go.shape, Sem.events, Sem.runT] at hx⟩, fun w b w' h => ?_⟩
  rw [e, Result.ok.injEq] at h
  obtain ⟨rfl, rfl⟩ := h
  exact ⟨rfl, Nat.le_refl _, fun T d _ => by rw [e, Nat.sub_self]; rfl⟩
theorem getObj_run (r : Nat) (w : World) : (Go.getObj r).run P w = match w.heap[r]? with
      | some (.cells ..) => .halt (.stuck "getObj: a row of cells") w
      | some o => .ok o w
      | none => .halt (.stuck "getObj: no such block") w := by
  unfold Go.getObj
  simp only [Sem.run]
  cases h : w.heap[r]? with
  | none => rfl
  | some x => cases x <;> rfl
theorem Nice.getObj {r : Nat} (hr : ¬ D r) : Nice P D (Go.getObj r) := by
  have e : ∀ w : World, (Go.getObj r).run P w = match w.heap[r]? with
      | some (.cells ..) => .halt (.stuck "getObj: a row of cells") w
      | some o => .ok o w
      | none => .halt (.stuck "getObj: no such block") w := getObj_run r
  refine ⟨fun u w h hn => ?_, fun w b w' h => ?_⟩
  · rw [e, h.same r hr]
    cases ho : w.heap[r]? with
    | none => trivial
    | some x =>
      have ev : ∀ y ∈ (Go.getObj r).events P w #[], Cl D y := by
        intro y hy
        have hy' : y ∈ ((Sem.getObj r Sem.pure).runT P w #[]).2 := hy
        simp only [Sem.runT, ho] at hy'
        cases x <;> simp at hy' <;> (subst hy'; trivial)
      cases x <;> first | trivial | exact ⟨hn, w, by rw [e, ho], h, ev⟩
  · rw [e] at h
    have k : ∀ T d, (World.mk w.heap T d w.os w.output).heap = w.heap := fun _ _ => rfl
    split at h
    · cases h
    · rename_i x hx hno
      rw [Result.ok.injEq] at h
      obtain ⟨rfl, rfl⟩ := h
      refine ⟨rfl, Nat.le_refl _, fun T d _ => ?_⟩
      rw [e]
      simp only [hno, Nat.sub_self, Nat.add_zero]
    · cases h
theorem Nice.getObj_bind {r : Nat} {f : Obj → Sem α} (hf : ∀ o, Nice P D (f o)) (hf0 : ∀ o, Nice P DS.nil (f o)) (hp : ∀ w, Dead P (f poison) w) : Nice P D (Go.getObj r >>= f) := by
  by_cases hd : D r
  · refine ⟨fun u w h _ => ?_, ((Nice.getObj (D := DS.nil) (by simp)).bind hf0).loc⟩
    have e : (Go.getObj r).run P u = .ok poison u := by
      rw [getObj_run, h.dead r hd]
      simp only [poison]
    rw [Sem.run_bind, e]
    obtain ⟨x, u', e', hx⟩ := hp u
    simp only [Result.andThen_ok, e']
    exact hx
  · exact (Nice.getObj hd).bind hf
theorem Nice.len_ (ts : Array TypeId) (t : TypeId) (vs : Array Value) : Nice P D (Builtin.len_ ts t vs) := by
  unfold Builtin.len_
  repeat' (first
    | (refine Nice.getObj_bind (fun _ => ?_) (fun _ => ?_) (fun w => ⟨_, w, rfl, trivial⟩))
    | with_reducible exact Nice.pure _
    | with_reducible exact Nice.pure' _
    | with_reducible exact Nice.stuck _
    | with_reducible exact Nice.goPanic _
    | (with_reducible refine Nice.unsupported ?_); trivial
    | with_reducible exact Nice.program
    | with_reducible exact Nice.choose _
    | with_reducible exact Nice.load _ _
    | with_reducible exact Nice.store _ _ _
    | with_reducible exact Nice.frozen _
    | with_reducible exact Nice.askRoom _
    | with_reducible exact Nice.noRoom
    | exact Nice.newObj (fun _ _ h => by cases h)
    | with_reducible exact Nice.typeInfo _
    | with_reducible exact Nice.underlying _
    | with_reducible exact Nice.typeStr _
    | with_reducible exact Nice.zeroValue _
    | with_reducible exact Nice.sizeOf _
    | with_reducible exact Nice.isAgg _
    | with_reducible exact Nice.loadCells _ _
    | with_reducible exact Nice.storeCells _ _ _
    | with_reducible exact Nice.loadVar _ _
    | with_reducible exact Nice.storeVar _ _ _
    | with_reducible exact Nice.newRow _ _
    | with_reducible exact Nice.newVar _ _
    | with_reducible exact Nice.elemOf _
    | with_reducible exact Nice.part _ _ _
    | with_reducible exact Nice.runtimePanic _
    | with_reducible exact Nice.boundsPanic _ _ _ _
    | with_reducible exact Nice.asIntOf _
    | with_reducible exact Nice.asInt _
    | with_reducible exact Nice.asBool _
    | with_reducible exact Nice.asAddr _
    | with_reducible exact Nice.sureAddr _
    | with_reducible exact Nice.loadAt _ _
    | with_reducible exact Nice.storeAt _ _ _
    | with_reducible exact Nice.indexAt _ _ _
    | with_reducible exact Nice.sliceBound _ _ _
    | with_reducible exact Nice.sliceBounds _ _ _ _ _ _
    | with_reducible exact Nice.slice _ _ _ _ _
    | with_reducible exact Nice.sliceAt _ _ _ _ _
    | with_reducible exact Nice.makeSlice _ _ _
    | with_reducible exact Nice.buildSlice _ _ _
    | with_reducible exact Nice.box _ _
    | with_reducible exact Nice.alloc _ _ _
    | with_reducible exact Nice.extract _ _
    | with_reducible exact Nice.makeInterface _ _
    | (with_reducible refine Nice.bind ?_ (fun _ => ?_))
    | (with_reducible refine Nice.ite ?_ ?_)
    | (refine Nice.map ?_)
    | split
    | dsimp only)
theorem Nice.cap_ (ts : Array TypeId) (t : TypeId) (vs : Array Value) : Nice P D (Builtin.cap_ ts t vs) := by
  unfold Builtin.cap_
  repeat' (first
    | (refine Nice.getObj_bind (fun _ => ?_) (fun _ => ?_) (fun w => ⟨_, w, rfl, trivial⟩))
    | with_reducible exact Nice.pure _
    | with_reducible exact Nice.pure' _
    | with_reducible exact Nice.stuck _
    | with_reducible exact Nice.goPanic _
    | (with_reducible refine Nice.unsupported ?_); trivial
    | with_reducible exact Nice.program
    | with_reducible exact Nice.choose _
    | with_reducible exact Nice.load _ _
    | with_reducible exact Nice.store _ _ _
    | with_reducible exact Nice.frozen _
    | with_reducible exact Nice.askRoom _
    | with_reducible exact Nice.noRoom
    | exact Nice.newObj (fun _ _ h => by cases h)
    | with_reducible exact Nice.typeInfo _
    | with_reducible exact Nice.underlying _
    | with_reducible exact Nice.typeStr _
    | with_reducible exact Nice.zeroValue _
    | with_reducible exact Nice.sizeOf _
    | with_reducible exact Nice.isAgg _
    | with_reducible exact Nice.loadCells _ _
    | with_reducible exact Nice.storeCells _ _ _
    | with_reducible exact Nice.loadVar _ _
    | with_reducible exact Nice.storeVar _ _ _
    | with_reducible exact Nice.newRow _ _
    | with_reducible exact Nice.newVar _ _
    | with_reducible exact Nice.elemOf _
    | with_reducible exact Nice.part _ _ _
    | with_reducible exact Nice.runtimePanic _
    | with_reducible exact Nice.boundsPanic _ _ _ _
    | with_reducible exact Nice.asIntOf _
    | with_reducible exact Nice.asInt _
    | with_reducible exact Nice.asBool _
    | with_reducible exact Nice.asAddr _
    | with_reducible exact Nice.sureAddr _
    | with_reducible exact Nice.loadAt _ _
    | with_reducible exact Nice.storeAt _ _ _
    | with_reducible exact Nice.indexAt _ _ _
    | with_reducible exact Nice.sliceBound _ _ _
    | with_reducible exact Nice.sliceBounds _ _ _ _ _ _
    | with_reducible exact Nice.slice _ _ _ _ _
    | with_reducible exact Nice.sliceAt _ _ _ _ _
    | with_reducible exact Nice.makeSlice _ _ _
    | with_reducible exact Nice.buildSlice _ _ _
    | with_reducible exact Nice.box _ _
    | with_reducible exact Nice.alloc _ _ _
    | with_reducible exact Nice.extract _ _
    | with_reducible exact Nice.makeInterface _ _
    | with_reducible exact Nice.len_ _ _ _
    | (with_reducible refine Nice.bind ?_ (fun _ => ?_))
    | (with_reducible refine Nice.ite ?_ ?_)
    | (refine Nice.map ?_)
    | split
    | dsimp only)
/-- It comes to a result or halts dully. -/
def Mild (P : Program) (s : Sem α) : Prop := ∀ w, (∃ a w', s.run P w = .ok a w') ∨ Dead P s w
theorem Mild.pure (a : α) : Mild P (Pure.pure a : Sem α) := fun w => .inl ⟨a, w, rfl⟩
theorem Mild.shape (r : Nat) : Mild P (Go.shape r) := fun w => .inl ⟨_, w, rfl⟩
theorem Mild.frozen (a : Addr) : Mild P (Go.frozen a) := fun w => .inl ⟨_, w, rfl⟩
theorem Mild.program : Mild P Go.program := fun w => .inl ⟨_, w, rfl⟩
theorem Mild.stuck (s : String) : Mild P (Go.stuck s : Sem α) := fun w => .inr ⟨_, w, rfl, trivial⟩
theorem Mild.goPanic (v : Value) : Mild P (Go.goPanic v : Sem α) := fun w => .inr ⟨_, w, rfl, trivial⟩
theorem Mild.mark : Mild P (Go.mark .noRoom) := fun w => .inl ⟨_, w, rfl⟩
theorem Mild.newObj (o : Obj) : Mild P (Go.newObj o) := fun w => .inl ⟨_, _, rfl⟩
theorem Mild.sys (c : Sys) : Mild P (Go.sys c) := fun w => .inl ⟨_, _, rfl⟩
theorem Mild.bind {s : Sem α} {f : α → Sem β} (hs : Mild P s) (hf : ∀ a, Mild P (f a)) : Mild P (s >>= f) := by
  intro w
  rcases hs w with ⟨a, w', e⟩ | ⟨h, w', e, hh⟩
  · rcases hf a w' with ⟨b, w2, e2⟩ | ⟨h, w2, e2, hh⟩
    · exact .inl ⟨b, w2, by rw [Sem.run_bind, e]; exact e2⟩
    · exact .inr ⟨h, w2, by rw [Sem.run_bind, e]; exact e2, hh⟩
  · exact .inr ⟨h, w', by rw [Sem.run_bind, e]; rfl, hh⟩
theorem Dead.bind {s : Sem α} {f : α → Sem β} (hs : Mild P s) (hf : ∀ a w, Dead P (f a) w) (w : World) : Dead P (s >>= f) w := by
  rcases hs w with ⟨a, w', e⟩ | ⟨h, w', e, hh⟩
  · obtain ⟨h, w2, e2, hh⟩ := hf a w'
    exact ⟨h, w2, by rw [Sem.run_bind, e]; exact e2, hh⟩
  · exact ⟨h, w', by rw [Sem.run_bind, e]; rfl, hh⟩
theorem dead_unsupported {x : Unsupported} (h : Dull (.unsupported x)) (w : World) : Dead P (Go.unsupported x : Sem α) w := ⟨_, w, rfl, h⟩
theorem dead_limit (s : String) (w : World) : Dead P (Go.unsupported (.resourceLimit s) : Sem α) w := ⟨.unsupported (.resourceLimit s), w, rfl, trivial⟩
theorem dead_stuck (s : String) (w : World) : Dead P (Go.stuck s : Sem α) w := ⟨_, w, rfl, trivial⟩
theorem dead_goPanic (v : Value) (w : World) : Dead P (Go.goPanic v : Sem α) w := ⟨_, w, rfl, trivial⟩
theorem mild_typeInfo (t : TypeId) : Mild P (Go.typeInfo t) := by
  unfold Go.typeInfo
  refine Mild.program.bind fun p => ?_
  split <;> first | exact Mild.pure _ | exact Mild.stuck _
theorem mild_underlying (t : TypeId) : Mild P (Go.underlying t) := by
  unfold Go.underlying
  refine Mild.program.bind fun p => ?_
  split <;> first | exact Mild.pure _ | exact Mild.stuck _
theorem mild_elemOf (t : TypeId) : Mild P (Go.elemOf t) := by
  unfold Go.elemOf
  refine (mild_underlying t).bind fun d => ?_
  split <;> first | exact Mild.pure _ | exact Mild.stuck _
theorem mild_newVar (t : TypeId) (v : Value) : Mild P (Go.newVar t v) := by
  unfold Go.newVar Go.newRow
  exact (Mild.newObj _).bind fun _ => Mild.pure _
theorem dead_runtimePanic (e : RuntimeError) (w : World) : Dead P (Go.runtimePanic e : Sem α) w := by
  unfold Go.runtimePanic
  refine Dead.bind Mild.program (fun p w => ?_) w
  dsimp only
  split <;> first
    | exact dead_goPanic _ _
    | exact Dead.bind (mild_elemOf _) (fun _ w => Dead.bind (mild_newVar _ _) (fun _ w => dead_goPanic _ w) w) w
theorem Nice.panic (x : Value) : Nice P D (Instr.panic x) := by
  refine Nice.of_dead fun w => ?_
  unfold Instr.panic
  split
  · exact dead_goPanic _ _
  · refine Dead.bind ?_ (fun n w => ?_) w
    · unfold Instr.panicnil
      refine (Mild.sys _).bind fun r => ?_
      dsimp only
      split
      · exact Mild.program.bind fun _ => Mild.pure _
      · exact Mild.stuck _
    · split
      · exact dead_goPanic _ _
      · exact dead_runtimePanic _ _
  · exact dead_stuck _ _
theorem mild_holdsCells (a : Addr) (n : Nat) : Mild P (Builtin.holdsCells a n) := by
  unfold Builtin.holdsCells
  refine (Mild.shape _).bind fun s => ?_
  split <;> exact Mild.pure _
theorem mild_mayShare (a b n : Nat) (c : Option Addr) (x : Value) : Mild P (Builtin.mayShare a b n c x) := by
  unfold Builtin.mayShare
  repeat' (first
    | exact Mild.pure _ | exact mild_holdsCells _ _ | exact Mild.frozen _
    | (refine Mild.bind ?_ (fun _ => ?_))
    | split
    | dsimp only)
theorem Nice.noMem {a b n : Nat} {c : Option Addr} {x : Value} {f : Bool → Sem α} (hf : ∀ b w, Dead P (f b) w) : Nice P D (Builtin.mayShare a b n c x >>= f) := Nice.of_dead (Dead.bind (mild_mayShare a b n c x) hf)
theorem Nice.firstCells (a n : Nat) (v : Value) : Nice P D (Builtin.firstCells a n v) := by
  unfold Builtin.firstCells
  repeat' (first
    | with_reducible exact Nice.pure _
    | with_reducible exact Nice.pure' _
    | with_reducible exact Nice.stuck _
    | with_reducible exact Nice.goPanic _
    | (with_reducible refine Nice.unsupported ?_); trivial
    | with_reducible exact Nice.program
    | with_reducible exact Nice.choose _
    | with_reducible exact Nice.load _ _
    | with_reducible exact Nice.store _ _ _
    | with_reducible exact Nice.frozen _
    | with_reducible exact Nice.askRoom _
    | with_reducible exact Nice.noRoom
    | exact Nice.newObj (fun _ _ h => by cases h)
    | with_reducible exact Nice.typeInfo _
    | with_reducible exact Nice.underlying _
    | with_reducible exact Nice.typeStr _
    | with_reducible exact Nice.zeroValue _
    | with_reducible exact Nice.sizeOf _
    | with_reducible exact Nice.isAgg _
    | with_reducible exact Nice.loadCells _ _
    | with_reducible exact Nice.storeCells _ _ _
    | with_reducible exact Nice.loadVar _ _
    | with_reducible exact Nice.storeVar _ _ _
    | with_reducible exact Nice.newRow _ _
    | with_reducible exact Nice.newVar _ _
    | with_reducible exact Nice.elemOf _
    | with_reducible exact Nice.part _ _ _
    | with_reducible exact Nice.runtimePanic _
    | with_reducible exact Nice.boundsPanic _ _ _ _
    | with_reducible exact Nice.asIntOf _
    | with_reducible exact Nice.asInt _
    | with_reducible exact Nice.asBool _
    | with_reducible exact Nice.asAddr _
    | with_reducible exact Nice.sureAddr _
    | with_reducible exact Nice.loadAt _ _
    | with_reducible exact Nice.storeAt _ _ _
    | with_reducible exact Nice.indexAt _ _ _
    | with_reducible exact Nice.sliceBound _ _ _
    | with_reducible exact Nice.sliceBounds _ _ _ _ _ _
    | with_reducible exact Nice.slice _ _ _ _ _
    | with_reducible exact Nice.sliceAt _ _ _ _ _
    | with_reducible exact Nice.makeSlice _ _ _
    | with_reducible exact Nice.buildSlice _ _ _
    | with_reducible exact Nice.box _ _
    | with_reducible exact Nice.alloc _ _ _
    | with_reducible exact Nice.extract _ _
    | with_reducible exact Nice.makeInterface _ _
    | with_reducible exact Nice.len_ _ _ _
    | with_reducible exact Nice.cap_ _ _ _
    | with_reducible exact Nice.panic _
    | (with_reducible refine Nice.bind ?_ (fun _ => ?_))
    | (with_reducible refine Nice.ite ?_ ?_)
    | (refine Nice.map ?_)
    | split
    | dsimp only)
theorem Nice.lenOf (v : Value) : Nice P D (Builtin.lenOf v) := by
  unfold Builtin.lenOf
  repeat' (first
    | with_reducible exact Nice.pure _
    | with_reducible exact Nice.pure' _
    | with_reducible exact Nice.stuck _
    | with_reducible exact Nice.goPanic _
    | (with_reducible refine Nice.unsupported ?_); trivial
    | with_reducible exact Nice.program
    | with_reducible exact Nice.choose _
    | with_reducible exact Nice.load _ _
    | with_reducible exact Nice.store _ _ _
    | with_reducible exact Nice.frozen _
    | with_reducible exact Nice.askRoom _
    | with_reducible exact Nice.noRoom
    | exact Nice.newObj (fun _ _ h => by cases h)
    | with_reducible exact Nice.typeInfo _
    | with_reducible exact Nice.underlying _
    | with_reducible exact Nice.typeStr _
    | with_reducible exact Nice.zeroValue _
    | with_reducible exact Nice.sizeOf _
    | with_reducible exact Nice.isAgg _
    | with_reducible exact Nice.loadCells _ _
    | with_reducible exact Nice.storeCells _ _ _
    | with_reducible exact Nice.loadVar _ _
    | with_reducible exact Nice.storeVar _ _ _
    | with_reducible exact Nice.newRow _ _
    | with_reducible exact Nice.newVar _ _
    | with_reducible exact Nice.elemOf _
    | with_reducible exact Nice.part _ _ _
    | with_reducible exact Nice.runtimePanic _
    | with_reducible exact Nice.boundsPanic _ _ _ _
    | with_reducible exact Nice.asIntOf _
    | with_reducible exact Nice.asInt _
    | with_reducible exact Nice.asBool _
    | with_reducible exact Nice.asAddr _
    | with_reducible exact Nice.sureAddr _
    | with_reducible exact Nice.loadAt _ _
    | with_reducible exact Nice.storeAt _ _ _
    | with_reducible exact Nice.indexAt _ _ _
    | with_reducible exact Nice.sliceBound _ _ _
    | with_reducible exact Nice.sliceBounds _ _ _ _ _ _
    | with_reducible exact Nice.slice _ _ _ _ _
    | with_reducible exact Nice.sliceAt _ _ _ _ _
    | with_reducible exact Nice.makeSlice _ _ _
    | with_reducible exact Nice.buildSlice _ _ _
    | with_reducible exact Nice.box _ _
    | with_reducible exact Nice.alloc _ _ _
    | with_reducible exact Nice.extract _ _
    | with_reducible exact Nice.makeInterface _ _
    | with_reducible exact Nice.len_ _ _ _
    | with_reducible exact Nice.cap_ _ _ _
    | with_reducible exact Nice.panic _
    | with_reducible exact Nice.firstCells _ _ _
    | (with_reducible refine Nice.bind ?_ (fun _ => ?_))
    | (with_reducible refine Nice.ite ?_ ?_)
    | (refine Nice.map ?_)
    | split
    | dsimp only)
theorem Nice.append_ (ts : Array TypeId) (t : TypeId) (vs : Array Value) : Nice P D (Builtin.append_ ts t vs) := by
  unfold Builtin.append_
  repeat' (first
    | (with_reducible refine Nice.noMem (fun _ _ => ?_)); ((try dsimp only); split; exact Dead.bind Mild.mark (fun _ w => dead_limit _ w) _; exact dead_limit _ _)
    | with_reducible exact Nice.pure _
    | with_reducible exact Nice.pure' _
    | with_reducible exact Nice.stuck _
    | with_reducible exact Nice.goPanic _
    | (with_reducible refine Nice.unsupported ?_); trivial
    | with_reducible exact Nice.program
    | with_reducible exact Nice.choose _
    | with_reducible exact Nice.load _ _
    | with_reducible exact Nice.store _ _ _
    | with_reducible exact Nice.frozen _
    | with_reducible exact Nice.askRoom _
    | with_reducible exact Nice.noRoom
    | exact Nice.newObj (fun _ _ h => by cases h)
    | with_reducible exact Nice.typeInfo _
    | with_reducible exact Nice.underlying _
    | with_reducible exact Nice.typeStr _
    | with_reducible exact Nice.zeroValue _
    | with_reducible exact Nice.sizeOf _
    | with_reducible exact Nice.isAgg _
    | with_reducible exact Nice.loadCells _ _
    | with_reducible exact Nice.storeCells _ _ _
    | with_reducible exact Nice.loadVar _ _
    | with_reducible exact Nice.storeVar _ _ _
    | with_reducible exact Nice.newRow _ _
    | with_reducible exact Nice.newVar _ _
    | with_reducible exact Nice.elemOf _
    | with_reducible exact Nice.part _ _ _
    | with_reducible exact Nice.runtimePanic _
    | with_reducible exact Nice.boundsPanic _ _ _ _
    | with_reducible exact Nice.asIntOf _
    | with_reducible exact Nice.asInt _
    | with_reducible exact Nice.asBool _
    | with_reducible exact Nice.asAddr _
    | with_reducible exact Nice.sureAddr _
    | with_reducible exact Nice.loadAt _ _
    | with_reducible exact Nice.storeAt _ _ _
    | with_reducible exact Nice.indexAt _ _ _
    | with_reducible exact Nice.sliceBound _ _ _
    | with_reducible exact Nice.sliceBounds _ _ _ _ _ _
    | with_reducible exact Nice.slice _ _ _ _ _
    | with_reducible exact Nice.sliceAt _ _ _ _ _
    | with_reducible exact Nice.makeSlice _ _ _
    | with_reducible exact Nice.buildSlice _ _ _
    | with_reducible exact Nice.box _ _
    | with_reducible exact Nice.alloc _ _ _
    | with_reducible exact Nice.extract _ _
    | with_reducible exact Nice.makeInterface _ _
    | with_reducible exact Nice.len_ _ _ _
    | with_reducible exact Nice.cap_ _ _ _
    | with_reducible exact Nice.panic _
    | with_reducible exact Nice.firstCells _ _ _
    | with_reducible exact Nice.lenOf _
    | (with_reducible refine Nice.bind ?_ (fun _ => ?_))
    | (with_reducible refine Nice.ite ?_ ?_)
    | (refine Nice.map ?_)
    | split
    | dsimp only)
end
end Go.Proofs.YtafhpbghogdipaaDoor

/- Arithmetic, comparison, equality: nice trees; whatever a plain operation does. -/
namespace Go.Proofs.YtafhpbghogdipaaDoor
open Go.Conc
set_option maxHeartbeats 8000000
set_option linter.unusedVariables false
set_option linter.unusedSimpArgs false

section
variable {P : Program} {D : DS} {α β : Type}
theorem nice_of' {s : Sem α} (r : Nat) (h1 : ¬ D r → Nice P D s) (hl : Lcl P s) (h2 : ∀ u : World, u.heap[r]? = some poison → Dead P s u) : Nice P D s := by
  by_cases hd : D r
  · refine ⟨fun u w h _ => ?_, hl⟩
    obtain ⟨x, u', e, hx⟩ := h2 u (h.dead r hd)
    rw [e]
    exact hx
  · exact h1 hd
theorem poison_shape {u : World} {r : Nat} (h : u.heap[r]? = some poison) : (Go.shape r).run P u = .ok none u := by
  show Result.ok (u.shape? r) u = _
  simp [World.shape?, h, poison]
theorem poison_getObj {u : World} {r : Nat} (h : u.heap[r]? = some poison) : (Go.getObj r).run P u = .ok poison u := by
  rw [getObj_run, h]
  simp only [poison]
theorem poison_viewAt {u : World} {r : Nat} (h : u.heap[r]? = some poison) : (Go.viewAt r).run P u = .ok (some (⟨0, 0, some 0⟩, 0)) u := by
  unfold Go.viewAt
  rw [Sem.run_bind, poison_shape h]
  simp only [Result.andThen_ok, Option.isSome_none, Bool.false_eq_true, if_false]
  rw [Sem.run_bind, poison_getObj h]
  simp only [Result.andThen_ok, poison]
  rfl
theorem dead_noView {u : World} {a : Addr} (h : u.heap[a.block]? = some poison) : Dead P (Go.noView a) u := by
  refine ⟨.unsupported (.unsafePointer "memory seen as another type"), u, ?_, trivial⟩
  unfold Go.noView
  rw [Sem.run_bind, poison_viewAt h]
  rfl
theorem Nice.noView (a : Addr) : Nice P D (Go.noView a) := by
  refine nice_of a.block (fun D hD => ?_) (fun u h => dead_noView h)
  unfold Go.noView Go.viewAt
  repeat' (first
    | with_reducible exact Nice.shape (by assumption)
    | with_reducible exact Nice.getObj (by assumption)
    | with_reducible exact Nice.pure _
    | with_reducible exact Nice.pure' _
    | with_reducible exact Nice.stuck _
    | with_reducible exact Nice.goPanic _
    | (with_reducible refine Nice.unsupported ?_); trivial
    | with_reducible exact Nice.program
    | with_reducible exact Nice.choose _
    | with_reducible exact Nice.load _ _
    | with_reducible exact Nice.store _ _ _
    | with_reducible exact Nice.frozen _
    | with_reducible exact Nice.askRoom _
    | with_reducible exact Nice.noRoom
    | exact Nice.newObj (fun _ _ h => by cases h)
    | with_reducible exact Nice.typeInfo _
    | with_reducible exact Nice.underlying _
    | with_reducible exact Nice.typeStr _
    | with_reducible exact Nice.zeroValue _
    | with_reducible exact Nice.sizeOf _
    | with_reducible exact Nice.isAgg _
    | with_reducible exact Nice.loadCells _ _
    | with_reducible exact Nice.storeCells _ _ _
    | with_reducible exact Nice.loadVar _ _
    | with_reducible exact Nice.storeVar _ _ _
    | with_reducible exact Nice.newRow _ _
    | with_reducible exact Nice.newVar _ _
    | with_reducible exact Nice.elemOf _
    | with_reducible exact Nice.part _ _ _
    | with_reducible exact Nice.runtimePanic _
    | with_reducible exact Nice.boundsPanic _ _ _ _
    | with_reducible exact Nice.asIntOf _
    | with_reducible exact Nice.asInt _
    | with_reducible exact Nice.asBool _
    | with_reducible exact Nice.asAddr _
    | with_reducible exact Nice.sureAddr _
    | with_reducible exact Nice.loadAt _ _
    | with_reducible exact Nice.storeAt _ _ _
    | with_reducible exact Nice.indexAt _ _ _
    | with_reducible exact Nice.sliceBound _ _ _
    | with_reducible exact Nice.sliceBounds _ _ _ _ _ _
    | with_reducible exact Nice.slice _ _ _ _ _
    | with_reducible exact Nice.sliceAt _ _ _ _ _
    | with_reducible exact Nice.makeSlice _ _ _
    | with_reducible exact Nice.buildSlice _ _ _
    | with_reducible exact Nice.box _ _
    | with_reducible exact Nice.alloc _ _ _
    | with_reducible exact Nice.extract _ _
    | with_reducible exact Nice.makeInterface _ _
    | with_reducible exact Nice.len_ _ _ _
    | with_reducible exact Nice.cap_ _ _ _
    | with_reducible exact Nice.panic _
    | with_reducible exact Nice.firstCells _ _ _
    | with_reducible exact Nice.lenOf _
    | with_reducible exact Nice.append_ _ _ _
    | (with_reducible refine Nice.bind ?_ (fun _ => ?_))
    | (with_reducible refine Nice.ite ?_ ?_)
    | (refine Nice.map ?_)
    | split
    | dsimp only)
theorem number_run {w : World} {r : Nat} (h : w.heap[r]? = some poison ∨ (∃ c e, w.heap[r]? = some (.cells c e (0, 0))) ∨ ∃ c e, w.heap[r]? = some (.pending c e)) : (Go.numberAt r).run P w = .ok none w ∧ ∀ D : DS, ∀ e ∈ (Go.numberAt r).events P w #[], Cl D e := by
  unfold Go.numberAt
  rcases h with h | ⟨c, e, h⟩ | ⟨c, e, h⟩
  · refine ⟨?_, fun D x hx => ?_⟩
    · rw [Sem.run_bind, poison_shape h]
      simp only [Result.andThen_ok, Option.isSome_none, Bool.false_eq_true, if_false]
      rw [Sem.run_bind, poison_getObj h]
      simp only [Result.andThen_ok, poison]
      rfl
    · rw [Sem.events_bind, poison_shape h] at hx
      simp only [Result.evThen_ok, Option.isSome_none, Bool.false_eq_true, if_false] at hx
      rw [Sem.events_bind, poison_getObj h] at hx
      simp only [Result.evThen_ok, poison, Sem.events_pure] at hx
      have hx' : x ∈ ((Sem.getObj r Sem.pure).runT P w ((Sem.shape r Sem.pure).runT P w #[]).2).2 := hx
      simp only [Sem.runT, h, poison] at hx'
      simp at hx'
      subst hx'
      trivial
  · have hs : (Go.shape r).run P w = .ok (some (e, c.size)) w := by
      show Result.ok (w.shape? r) w = _
      simp [World.shape?, h]
    refine ⟨?_, fun D x hx => ?_⟩
    · rw [Sem.run_bind, hs]
      rfl
    · rw [Sem.events_bind, hs] at hx
      simp only [Result.evThen_ok, Option.isSome_some, if_true, Sem.events_pure] at hx
      have hx' : x ∈ ((Sem.shape r Sem.pure).runT P w #[]).2 := hx
      simp only [Sem.runT] at hx'
      simp at hx'
  · have hs : (Go.shape r).run P w = .ok none w := by
      show Result.ok (w.shape? r) w = _
      simp [World.shape?, h]
    have hg : (Go.getObj r).run P w = .ok (.pending c e) w := by rw [getObj_run, h]
    refine ⟨?_, fun D x hx => ?_⟩
    · rw [Sem.run_bind, hs]
      simp only [Result.andThen_ok, Option.isSome_none, Bool.false_eq_true, if_false]
      rw [Sem.run_bind, hg]
      rfl
    · rw [Sem.events_bind, hs] at hx
      simp only [Result.evThen_ok, Option.isSome_none, Bool.false_eq_true, if_false] at hx
      rw [Sem.events_bind, hg] at hx
      simp only [Result.evThen_ok, Sem.events_pure] at hx
      have hx' : x ∈ ((Sem.getObj r Sem.pure).runT P w ((Sem.shape r Sem.pure).runT P w #[]).2).2 := hx
      simp only [Sem.runT, h] at hx'
      simp at hx'
      subst hx'
      trivial
theorem Nice.numberAt0 {r : Nat} (hr : ¬ D r) : Nice P D (Go.numberAt r) := by
  unfold Go.numberAt
  repeat' (first
    | with_reducible exact Nice.shape (by assumption)
    | with_reducible exact Nice.getObj (by assumption)
    | with_reducible exact Nice.pure _
    | with_reducible exact Nice.pure' _
    | with_reducible exact Nice.stuck _
    | with_reducible exact Nice.goPanic _
    | (with_reducible refine Nice.unsupported ?_); trivial
    | with_reducible exact Nice.program
    | with_reducible exact Nice.choose _
    | with_reducible exact Nice.load _ _
    | with_reducible exact Nice.store _ _ _
    | with_reducible exact Nice.frozen _
    | with_reducible exact Nice.askRoom _
    | with_reducible exact Nice.noRoom
    | exact Nice.newObj (fun _ _ h => by cases h)
    | with_reducible exact Nice.typeInfo _
    | with_reducible exact Nice.underlying _
    | with_reducible exact Nice.typeStr _
    | with_reducible exact Nice.zeroValue _
    | with_reducible exact Nice.sizeOf _
    | with_reducible exact Nice.isAgg _
    | with_reducible exact Nice.loadCells _ _
    | with_reducible exact Nice.storeCells _ _ _
    | with_reducible exact Nice.loadVar _ _
    | with_reducible exact Nice.storeVar _ _ _
    | with_reducible exact Nice.newRow _ _
    | with_reducible exact Nice.newVar _ _
    | with_reducible exact Nice.elemOf _
    | with_reducible exact Nice.part _ _ _
    | with_reducible exact Nice.runtimePanic _
    | with_reducible exact Nice.boundsPanic _ _ _ _
    | with_reducible exact Nice.asIntOf _
    | with_reducible exact Nice.asInt _
    | with_reducible exact Nice.asBool _
    | with_reducible exact Nice.asAddr _
    | with_reducible exact Nice.sureAddr _
    | with_reducible exact Nice.loadAt _ _
    | with_reducible exact Nice.storeAt _ _ _
    | with_reducible exact Nice.indexAt _ _ _
    | with_reducible exact Nice.sliceBound _ _ _
    | with_reducible exact Nice.sliceBounds _ _ _ _ _ _
    | with_reducible exact Nice.slice _ _ _ _ _
    | with_reducible exact Nice.sliceAt _ _ _ _ _
    | with_reducible exact Nice.makeSlice _ _ _
    | with_reducible exact Nice.buildSlice _ _ _
    | with_reducible exact Nice.box _ _
    | with_reducible exact Nice.alloc _ _ _
    | with_reducible exact Nice.extract _ _
    | with_reducible exact Nice.makeInterface _ _
    | with_reducible exact Nice.len_ _ _ _
    | with_reducible exact Nice.cap_ _ _ _
    | with_reducible exact Nice.panic _
    | with_reducible exact Nice.firstCells _ _ _
    | with_reducible exact Nice.lenOf _
    | with_reducible exact Nice.append_ _ _ _
    | with_reducible exact Nice.noView _
    | (with_reducible refine Nice.bind ?_ (fun _ => ?_))
    | (with_reducible refine Nice.ite ?_ ?_)
    | (refine Nice.map ?_)
    | split
    | dsimp only)
theorem Nice.numberAt (r : Nat) : Nice P D (Go.numberAt r) := by
  by_cases hd : D r
  · refine ⟨fun u w h hn => ?_, (Nice.numberAt0 (D := DS.nil) (by simp)).loc⟩
    rw [(number_run (.inl (h.dead r hd))).1]
    have := number_run (P := P) (.inr (h.real r hd).2)
    exact ⟨hn, w, this.1, h, this.2 D⟩
  · exact Nice.numberAt0 hd
theorem Nice.asNumber (a : Addr) (b : Bool) : Nice P D (Go.asNumber a b) := by
  unfold Go.asNumber
  repeat' (first
    | with_reducible exact Nice.pure _
    | with_reducible exact Nice.pure' _
    | with_reducible exact Nice.stuck _
    | with_reducible exact Nice.goPanic _
    | (with_reducible refine Nice.unsupported ?_); trivial
    | with_reducible exact Nice.program
    | with_reducible exact Nice.choose _
    | with_reducible exact Nice.load _ _
    | with_reducible exact Nice.store _ _ _
    | with_reducible exact Nice.frozen _
    | with_reducible exact Nice.askRoom _
    | with_reducible exact Nice.noRoom
    | exact Nice.newObj (fun _ _ h => by cases h)
    | with_reducible exact Nice.typeInfo _
    | with_reducible exact Nice.underlying _
    | with_reducible exact Nice.typeStr _
    | with_reducible exact Nice.zeroValue _
    | with_reducible exact Nice.sizeOf _
    | with_reducible exact Nice.isAgg _
    | with_reducible exact Nice.loadCells _ _
    | with_reducible exact Nice.storeCells _ _ _
    | with_reducible exact Nice.loadVar _ _
    | with_reducible exact Nice.storeVar _ _ _
    | with_reducible exact Nice.newRow _ _
    | with_reducible exact Nice.newVar _ _
    | with_reducible exact Nice.elemOf _
    | with_reducible exact Nice.part _ _ _
    | with_reducible exact Nice.runtimePanic _
    | with_reducible exact Nice.boundsPanic _ _ _ _
    | with_reducible exact Nice.asIntOf _
    | with_reducible exact Nice.asInt _
    | with_reducible exact Nice.asBool _
    | with_reducible exact Nice.asAddr _
    | with_reducible exact Nice.sureAddr _
    | with_reducible exact Nice.loadAt _ _
    | with_reducible exact Nice.storeAt _ _ _
    | with_reducible exact Nice.indexAt _ _ _
    | with_reducible exact Nice.sliceBound _ _ _
    | with_reducible exact Nice.sliceBounds _ _ _ _ _ _
    | with_reducible exact Nice.slice _ _ _ _ _
    | with_reducible exact Nice.sliceAt _ _ _ _ _
    | with_reducible exact Nice.makeSlice _ _ _
    | with_reducible exact Nice.buildSlice _ _ _
    | with_reducible exact Nice.box _ _
    | with_reducible exact Nice.alloc _ _ _
    | with_reducible exact Nice.extract _ _
    | with_reducible exact Nice.makeInterface _ _
    | with_reducible exact Nice.len_ _ _ _
    | with_reducible exact Nice.cap_ _ _ _
    | with_reducible exact Nice.panic _
    | with_reducible exact Nice.firstCells _ _ _
    | with_reducible exact Nice.lenOf _
    | with_reducible exact Nice.append_ _ _ _
    | with_reducible exact Nice.noView _
    | with_reducible exact Nice.numberAt _
    | (with_reducible refine Nice.bind ?_ (fun _ => ?_))
    | (with_reducible refine Nice.ite ?_ ?_)
    | (refine Nice.map ?_)
    | split
    | dsimp only)
theorem Nice.behindNumber (a : Addr) : Nice P D (Go.behindNumber a) := by
  unfold Go.behindNumber
  repeat' (first
    | with_reducible exact Nice.pure _
    | with_reducible exact Nice.pure' _
    | with_reducible exact Nice.stuck _
    | with_reducible exact Nice.goPanic _
    | (with_reducible refine Nice.unsupported ?_); trivial
    | with_reducible exact Nice.program
    | with_reducible exact Nice.choose _
    | with_reducible exact Nice.load _ _
    | with_reducible exact Nice.store _ _ _
    | with_reducible exact Nice.frozen _
    | with_reducible exact Nice.askRoom _
    | with_reducible exact Nice.noRoom
    | exact Nice.newObj (fun _ _ h => by cases h)
    | with_reducible exact Nice.typeInfo _
    | with_reducible exact Nice.underlying _
    | with_reducible exact Nice.typeStr _
    | with_reducible exact Nice.zeroValue _
    | with_reducible exact Nice.sizeOf _
    | with_reducible exact Nice.isAgg _
    | with_reducible exact Nice.loadCells _ _
    | with_reducible exact Nice.storeCells _ _ _
    | with_reducible exact Nice.loadVar _ _
    | with_reducible exact Nice.storeVar _ _ _
    | with_reducible exact Nice.newRow _ _
    | with_reducible exact Nice.newVar _ _
    | with_reducible exact Nice.elemOf _
    | with_reducible exact Nice.part _ _ _
    | with_reducible exact Nice.runtimePanic _
    | with_reducible exact Nice.boundsPanic _ _ _ _
    | with_reducible exact Nice.asIntOf _
    | with_reducible exact Nice.asInt _
    | with_reducible exact Nice.asBool _
    | with_reducible exact Nice.asAddr _
    | with_reducible exact Nice.sureAddr _
    | with_reducible exact Nice.loadAt _ _
    | with_reducible exact Nice.storeAt _ _ _
    | with_reducible exact Nice.indexAt _ _ _
    | with_reducible exact Nice.sliceBound _ _ _
    | with_reducible exact Nice.sliceBounds _ _ _ _ _ _
    | with_reducible exact Nice.slice _ _ _ _ _
    | with_reducible exact Nice.sliceAt _ _ _ _ _
    | with_reducible exact Nice.makeSlice _ _ _
    | with_reducible exact Nice.buildSlice _ _ _
    | with_reducible exact Nice.box _ _
    | with_reducible exact Nice.alloc _ _ _
    | with_reducible exact Nice.extract _ _
    | with_reducible exact Nice.makeInterface _ _
    | with_reducible exact Nice.len_ _ _ _
    | with_reducible exact Nice.cap_ _ _ _
    | with_reducible exact Nice.panic _
    | with_reducible exact Nice.firstCells _ _ _
    | with_reducible exact Nice.lenOf _
    | with_reducible exact Nice.append_ _ _ _
    | with_reducible exact Nice.noView _
    | with_reducible exact Nice.numberAt _
    | with_reducible exact Nice.asNumber _ _
    | (with_reducible refine Nice.bind ?_ (fun _ => ?_))
    | (with_reducible refine Nice.ite ?_ ?_)
    | (refine Nice.map ?_)
    | split
    | dsimp only)
theorem Nice.byteOf (a : Addr) : Nice P D (Go.byteOf a) := by
  cases hs : a.spot with
  | some s => unfold Go.byteOf; rw [hs]; exact .pure _
  | none =>
    refine nice_of a.block (fun D hD => ?_) (fun u h => ?_)
    · unfold Go.byteOf
      rw [hs]
      repeat' (first
        | with_reducible exact Nice.shape (by assumption)
        | with_reducible exact Nice.getObj (by assumption)
        | with_reducible exact Nice.pure _
        | with_reducible exact Nice.pure' _
        | with_reducible exact Nice.stuck _
        | with_reducible exact Nice.goPanic _
        | (with_reducible refine Nice.unsupported ?_); trivial
        | with_reducible exact Nice.program
        | with_reducible exact Nice.choose _
        | with_reducible exact Nice.load _ _
        | with_reducible exact Nice.store _ _ _
        | with_reducible exact Nice.frozen _
        | with_reducible exact Nice.askRoom _
        | with_reducible exact Nice.noRoom
        | exact Nice.newObj (fun _ _ h => by cases h)
        | with_reducible exact Nice.typeInfo _
        | with_reducible exact Nice.underlying _
        | with_reducible exact Nice.typeStr _
        | with_reducible exact Nice.zeroValue _
        | with_reducible exact Nice.sizeOf _
        | with_reducible exact Nice.isAgg _
        | with_reducible exact Nice.loadCells _ _
        | with_reducible exact Nice.storeCells _ _ _
        | with_reducible exact Nice.loadVar _ _
        | with_reducible exact Nice.storeVar _ _ _
        | with_reducible exact Nice.newRow _ _
        | with_reducible exact Nice.newVar _ _
        | with_reducible exact Nice.elemOf _
        | with_reducible exact Nice.part _ _ _
        | with_reducible exact Nice.runtimePanic _
        | with_reducible exact Nice.boundsPanic _ _ _ _
        | with_reducible exact Nice.asIntOf _
        | with_reducible exact Nice.asInt _
        | with_reducible exact Nice.asBool _
        | with_reducible exact Nice.asAddr _
        | with_reducible exact Nice.sureAddr _
        | with_reducible exact Nice.loadAt _ _
        | with_reducible exact Nice.storeAt _ _ _
        | with_reducible exact Nice.indexAt _ _ _
        | with_reducible exact Nice.sliceBound _ _ _
        | with_reducible exact Nice.sliceBounds _ _ _ _ _ _
        | with_reducible exact Nice.slice _ _ _ _ _
        | with_reducible exact Nice.sliceAt _ _ _ _ _
        | with_reducible exact Nice.makeSlice _ _ _
        | with_reducible exact Nice.buildSlice _ _ _
        | with_reducible exact Nice.box _ _
        | with_reducible exact Nice.alloc _ _ _
        | with_reducible exact Nice.extract _ _
        | with_reducible exact Nice.makeInterface _ _
        | with_reducible exact Nice.len_ _ _ _
        | with_reducible exact Nice.cap_ _ _ _
        | with_reducible exact Nice.panic _
        | with_reducible exact Nice.firstCells _ _ _
        | with_reducible exact Nice.lenOf _
        | with_reducible exact Nice.append_ _ _ _
        | with_reducible exact Nice.noView _
        | with_reducible exact Nice.numberAt _
        | with_reducible exact Nice.asNumber _ _
        | with_reducible exact Nice.behindNumber _
        | (with_reducible refine Nice.bind ?_ (fun _ => ?_))
        | (with_reducible refine Nice.ite ?_ ?_)
        | (refine Nice.map ?_)
        | split
        | dsimp only)
    · obtain ⟨x, u', e, hx⟩ := dead_noView (P := P) h
      refine ⟨x, u', ?_, hx⟩
      unfold Go.byteOf
      rw [hs]
      simp only [Sem.run_bind, run_program, Result.andThen_ok, e, Result.andThen_halt]
theorem Nice.stringish0 {a : Addr} (ha : ¬ D a.block) : Nice P D (Go.stringish a) := by
  unfold Go.stringish
  repeat' (first
    | with_reducible exact Nice.shape (by assumption)
    | with_reducible exact Nice.getObj (by assumption)
    | with_reducible exact Nice.pure _
    | with_reducible exact Nice.pure' _
    | with_reducible exact Nice.stuck _
    | with_reducible exact Nice.goPanic _
    | (with_reducible refine Nice.unsupported ?_); trivial
    | with_reducible exact Nice.program
    | with_reducible exact Nice.choose _
    | with_reducible exact Nice.load _ _
    | with_reducible exact Nice.store _ _ _
    | with_reducible exact Nice.frozen _
    | with_reducible exact Nice.askRoom _
    | with_reducible exact Nice.noRoom
    | exact Nice.newObj (fun _ _ h => by cases h)
    | with_reducible exact Nice.typeInfo _
    | with_reducible exact Nice.underlying _
    | with_reducible exact Nice.typeStr _
    | with_reducible exact Nice.zeroValue _
    | with_reducible exact Nice.sizeOf _
    | with_reducible exact Nice.isAgg _
    | with_reducible exact Nice.loadCells _ _
    | with_reducible exact Nice.storeCells _ _ _
    | with_reducible exact Nice.loadVar _ _
    | with_reducible exact Nice.storeVar _ _ _
    | with_reducible exact Nice.newRow _ _
    | with_reducible exact Nice.newVar _ _
    | with_reducible exact Nice.elemOf _
    | with_reducible exact Nice.part _ _ _
    | with_reducible exact Nice.runtimePanic _
    | with_reducible exact Nice.boundsPanic _ _ _ _
    | with_reducible exact Nice.asIntOf _
    | with_reducible exact Nice.asInt _
    | with_reducible exact Nice.asBool _
    | with_reducible exact Nice.asAddr _
    | with_reducible exact Nice.sureAddr _
    | with_reducible exact Nice.loadAt _ _
    | with_reducible exact Nice.storeAt _ _ _
    | with_reducible exact Nice.indexAt _ _ _
    | with_reducible exact Nice.sliceBound _ _ _
    | with_reducible exact Nice.sliceBounds _ _ _ _ _ _
    | with_reducible exact Nice.slice _ _ _ _ _
    | with_reducible exact Nice.sliceAt _ _ _ _ _
    | with_reducible exact Nice.makeSlice _ _ _
    | with_reducible exact Nice.buildSlice _ _ _
    | with_reducible exact Nice.box _ _
    | with_reducible exact Nice.alloc _ _ _
    | with_reducible exact Nice.extract _ _
    | with_reducible exact Nice.makeInterface _ _
    | with_reducible exact Nice.len_ _ _ _
    | with_reducible exact Nice.cap_ _ _ _
    | with_reducible exact Nice.panic _
    | with_reducible exact Nice.firstCells _ _ _
    | with_reducible exact Nice.lenOf _
    | with_reducible exact Nice.append_ _ _ _
    | with_reducible exact Nice.noView _
    | with_reducible exact Nice.numberAt _
    | with_reducible exact Nice.asNumber _ _
    | with_reducible exact Nice.behindNumber _
    | with_reducible exact Nice.byteOf _
    | (with_reducible refine Nice.bind ?_ (fun _ => ?_))
    | (with_reducible refine Nice.ite ?_ ?_)
    | (refine Nice.map ?_)
    | split
    | dsimp only)
theorem Nice.mayBeOne0 {a b : Addr} (ha : ¬ D a.block) (hb : ¬ D b.block) : Nice P D (Go.mayBeOne a b) := by
  unfold Go.mayBeOne
  repeat' (first
    | with_reducible exact Nice.shape (by assumption)
    | with_reducible exact Nice.getObj (by assumption)
    | with_reducible exact Nice.stringish0 (by assumption)
    | with_reducible exact Nice.pure _
    | with_reducible exact Nice.pure' _
    | with_reducible exact Nice.stuck _
    | with_reducible exact Nice.goPanic _
    | (with_reducible refine Nice.unsupported ?_); trivial
    | with_reducible exact Nice.program
    | with_reducible exact Nice.choose _
    | with_reducible exact Nice.load _ _
    | with_reducible exact Nice.store _ _ _
    | with_reducible exact Nice.frozen _
    | with_reducible exact Nice.askRoom _
    | with_reducible exact Nice.noRoom
    | exact Nice.newObj (fun _ _ h => by cases h)
    | with_reducible exact Nice.typeInfo _
    | with_reducible exact Nice.underlying _
    | with_reducible exact Nice.typeStr _
    | with_reducible exact Nice.zeroValue _
    | with_reducible exact Nice.sizeOf _
    | with_reducible exact Nice.isAgg _
    | with_reducible exact Nice.loadCells _ _
    | with_reducible exact Nice.storeCells _ _ _
    | with_reducible exact Nice.loadVar _ _
    | with_reducible exact Nice.storeVar _ _ _
    | with_reducible exact Nice.newRow _ _
    | with_reducible exact Nice.newVar _ _
    | with_reducible exact Nice.elemOf _
    | with_reducible exact Nice.part _ _ _
    | with_reducible exact Nice.runtimePanic _
    | with_reducible exact Nice.boundsPanic _ _ _ _
    | with_reducible exact Nice.asIntOf _
    | with_reducible exact Nice.asInt _
    | with_reducible exact Nice.asBool _
    | with_reducible exact Nice.asAddr _
    | with_reducible exact Nice.sureAddr _
    | with_reducible exact Nice.loadAt _ _
    | with_reducible exact Nice.storeAt _ _ _
    | with_reducible exact Nice.indexAt _ _ _
    | with_reducible exact Nice.sliceBound _ _ _
    | with_reducible exact Nice.sliceBounds _ _ _ _ _ _
    | with_reducible exact Nice.slice _ _ _ _ _
    | with_reducible exact Nice.sliceAt _ _ _ _ _
    | with_reducible exact Nice.makeSlice _ _ _
    | with_reducible exact Nice.buildSlice _ _ _
    | with_reducible exact Nice.box _ _
    | with_reducible exact Nice.alloc _ _ _
    | with_reducible exact Nice.extract _ _
    | with_reducible exact Nice.makeInterface _ _
    | with_reducible exact Nice.len_ _ _ _
    | with_reducible exact Nice.cap_ _ _ _
    | with_reducible exact Nice.panic _
    | with_reducible exact Nice.firstCells _ _ _
    | with_reducible exact Nice.lenOf _
    | with_reducible exact Nice.append_ _ _ _
    | with_reducible exact Nice.noView _
    | with_reducible exact Nice.numberAt _
    | with_reducible exact Nice.asNumber _ _
    | with_reducible exact Nice.behindNumber _
    | with_reducible exact Nice.byteOf _
    | (with_reducible refine Nice.bind ?_ (fun _ => ?_))
    | (with_reducible refine Nice.ite ?_ ?_)
    | (refine Nice.map ?_)
    | split
    | dsimp only)
theorem Nice.sameAddr0 {a b : Addr} (ha : ¬ D a.block) (hb : ¬ D b.block) : Nice P D (Go.sameAddr a b) := by
  unfold Go.sameAddr
  repeat' (first
    | with_reducible exact Nice.shape (by assumption)
    | with_reducible exact Nice.getObj (by assumption)
    | with_reducible exact Nice.mayBeOne0 (by assumption) (by assumption)
    | with_reducible exact Nice.pure _
    | with_reducible exact Nice.pure' _
    | with_reducible exact Nice.stuck _
    | with_reducible exact Nice.goPanic _
    | (with_reducible refine Nice.unsupported ?_); trivial
    | with_reducible exact Nice.program
    | with_reducible exact Nice.choose _
    | with_reducible exact Nice.load _ _
    | with_reducible exact Nice.store _ _ _
    | with_reducible exact Nice.frozen _
    | with_reducible exact Nice.askRoom _
    | with_reducible exact Nice.noRoom
    | exact Nice.newObj (fun _ _ h => by cases h)
    | with_reducible exact Nice.typeInfo _
    | with_reducible exact Nice.underlying _
    | with_reducible exact Nice.typeStr _
    | with_reducible exact Nice.zeroValue _
    | with_reducible exact Nice.sizeOf _
    | with_reducible exact Nice.isAgg _
    | with_reducible exact Nice.loadCells _ _
    | with_reducible exact Nice.storeCells _ _ _
    | with_reducible exact Nice.loadVar _ _
    | with_reducible exact Nice.storeVar _ _ _
    | with_reducible exact Nice.newRow _ _
    | with_reducible exact Nice.newVar _ _
    | with_reducible exact Nice.elemOf _
    | with_reducible exact Nice.part _ _ _
    | with_reducible exact Nice.runtimePanic _
    | with_reducible exact Nice.boundsPanic _ _ _ _
    | with_reducible exact Nice.asIntOf _
    | with_reducible exact Nice.asInt _
    | with_reducible exact Nice.asBool _
    | with_reducible exact Nice.asAddr _
    | with_reducible exact Nice.sureAddr _
    | with_reducible exact Nice.loadAt _ _
    | with_reducible exact Nice.storeAt _ _ _
    | with_reducible exact Nice.indexAt _ _ _
    | with_reducible exact Nice.sliceBound _ _ _
    | with_reducible exact Nice.sliceBounds _ _ _ _ _ _
    | with_reducible exact Nice.slice _ _ _ _ _
    | with_reducible exact Nice.sliceAt _ _ _ _ _
    | with_reducible exact Nice.makeSlice _ _ _
    | with_reducible exact Nice.buildSlice _ _ _
    | with_reducible exact Nice.box _ _
    | with_reducible exact Nice.alloc _ _ _
    | with_reducible exact Nice.extract _ _
    | with_reducible exact Nice.makeInterface _ _
    | with_reducible exact Nice.len_ _ _ _
    | with_reducible exact Nice.cap_ _ _ _
    | with_reducible exact Nice.panic _
    | with_reducible exact Nice.firstCells _ _ _
    | with_reducible exact Nice.lenOf _
    | with_reducible exact Nice.append_ _ _ _
    | with_reducible exact Nice.noView _
    | with_reducible exact Nice.numberAt _
    | with_reducible exact Nice.asNumber _ _
    | with_reducible exact Nice.behindNumber _
    | with_reducible exact Nice.byteOf _
    | (with_reducible refine Nice.bind ?_ (fun _ => ?_))
    | (with_reducible refine Nice.ite ?_ ?_)
    | (refine Nice.map ?_)
    | split
    | dsimp only)
theorem frozen_run (a : Addr) (w : World) : (Go.frozen a).run P w = .ok (w.frozen? a) w := rfl
theorem noView_run (a : Addr) (w : World) : (Go.noView a).run P w = .ok () w ∨ ∃ h, (Go.noView a).run P w = .halt h w ∧ Dull h := by
  unfold Go.noView Go.viewAt
  have hs : (Go.shape a.block).run P w = .ok (w.shape? a.block) w := rfl
  simp only [Sem.run_bind, hs, Result.andThen_ok]
  cases h1 : w.shape? a.block with
  | some x => exact .inl rfl
  | none =>
    simp only [Option.isSome_none, Bool.false_eq_true, if_false, Sem.run_bind]
    rw [getObj_run]
    cases ho : w.heap[a.block]? with
    | none => exact .inr ⟨_, rfl, trivial⟩
    | some x => cases x <;> first | exact .inr ⟨_, rfl, trivial⟩ | exact .inl rfl
theorem dead_sameAddr {a b : Addr} (hne : (a.block == b.block) = false) {u : World} (h : u.heap[a.block]? = some poison ∨ u.heap[b.block]? = some poison) : Dead P (Go.sameAddr a b) u := by
  unfold Go.sameAddr
  rw [hne]
  simp only [Bool.false_eq_true, if_false, Sem.run_bind, Dead, frozen_run, Result.andThen_ok]
  by_cases hc : (u.frozen? a && u.frozen? b) = true
  · rw [if_pos hc]
    exact ⟨_, u, rfl, trivial⟩
  · rw [if_neg hc]
    simp only [Sem.run_bind]
    rcases noView_run (P := P) a u with h1 | ⟨x, h1, hx⟩
    · rw [h1]
      simp only [Result.andThen_ok]
      rcases h with h | h
      · obtain ⟨x, u', e, _⟩ := dead_noView (P := P) h
        rw [e] at h1
        cases h1
      · obtain ⟨x, u', e, hx⟩ := dead_noView (P := P) h
        rw [e]
        exact ⟨x, u', rfl, hx⟩
    · rw [h1]
      exact ⟨x, u, rfl, hx⟩
theorem Nice.sameAddr (a b : Addr) : Nice P D (Go.sameAddr a b) := by
  by_cases he : (a.block == b.block) = true
  · unfold Go.sameAddr
    rw [if_pos he]
    exact .pure _
  · have hne : (a.block == b.block) = false := by simpa using he
    have hl : Lcl P (Go.sameAddr a b) := (Nice.sameAddr0 (D := DS.nil) (by simp) (by simp)).loc
    exact nice_of' a.block (fun h1 => nice_of' b.block (fun h2 => Nice.sameAddr0 h1 h2) hl (fun u h => dead_sameAddr hne (.inr h))) hl (fun u h => dead_sameAddr hne (.inl h))
theorem Nice.samePointer (a b : Option Addr) : Nice P D (Go.samePointer a b) := by
  unfold Go.samePointer
  repeat' (first
    | with_reducible exact Nice.pure _
    | with_reducible exact Nice.pure' _
    | with_reducible exact Nice.stuck _
    | with_reducible exact Nice.goPanic _
    | (with_reducible refine Nice.unsupported ?_); trivial
    | with_reducible exact Nice.program
    | with_reducible exact Nice.choose _
    | with_reducible exact Nice.load _ _
    | with_reducible exact Nice.store _ _ _
    | with_reducible exact Nice.frozen _
    | with_reducible exact Nice.askRoom _
    | with_reducible exact Nice.noRoom
    | exact Nice.newObj (fun _ _ h => by cases h)
    | with_reducible exact Nice.typeInfo _
    | with_reducible exact Nice.underlying _
    | with_reducible exact Nice.typeStr _
    | with_reducible exact Nice.zeroValue _
    | with_reducible exact Nice.sizeOf _
    | with_reducible exact Nice.isAgg _
    | with_reducible exact Nice.loadCells _ _
    | with_reducible exact Nice.storeCells _ _ _
    | with_reducible exact Nice.loadVar _ _
    | with_reducible exact Nice.storeVar _ _ _
    | with_reducible exact Nice.newRow _ _
    | with_reducible exact Nice.newVar _ _
    | with_reducible exact Nice.elemOf _
    | with_reducible exact Nice.part _ _ _
    | with_reducible exact Nice.runtimePanic _
    | with_reducible exact Nice.boundsPanic _ _ _ _
    | with_reducible exact Nice.asIntOf _
    | with_reducible exact Nice.asInt _
    | with_reducible exact Nice.asBool _
    | with_reducible exact Nice.asAddr _
    | with_reducible exact Nice.sureAddr _
    | with_reducible exact Nice.loadAt _ _
    | with_reducible exact Nice.storeAt _ _ _
    | with_reducible exact Nice.indexAt _ _ _
    | with_reducible exact Nice.sliceBound _ _ _
    | with_reducible exact Nice.sliceBounds _ _ _ _ _ _
    | with_reducible exact Nice.slice _ _ _ _ _
    | with_reducible exact Nice.sliceAt _ _ _ _ _
    | with_reducible exact Nice.makeSlice _ _ _
    | with_reducible exact Nice.buildSlice _ _ _
    | with_reducible exact Nice.box _ _
    | with_reducible exact Nice.alloc _ _ _
    | with_reducible exact Nice.extract _ _
    | with_reducible exact Nice.makeInterface _ _
    | with_reducible exact Nice.len_ _ _ _
    | with_reducible exact Nice.cap_ _ _ _
    | with_reducible exact Nice.panic _
    | with_reducible exact Nice.firstCells _ _ _
    | with_reducible exact Nice.lenOf _
    | with_reducible exact Nice.append_ _ _ _
    | with_reducible exact Nice.noView _
    | with_reducible exact Nice.numberAt _
    | with_reducible exact Nice.asNumber _ _
    | with_reducible exact Nice.behindNumber _
    | with_reducible exact Nice.byteOf _
    | with_reducible exact Nice.sameAddr _ _
    | (with_reducible refine Nice.bind ?_ (fun _ => ?_))
    | (with_reducible refine Nice.ite ?_ ?_)
    | (refine Nice.map ?_)
    | split
    | dsimp only)
theorem asInt_run (v : Value) (w : World) : (∃ n, (Go.asInt v).run P w = .ok n w) ∨ ∃ h, (Go.asInt v).run P w = .halt h w ∧ Dull h := by
  unfold Go.asInt Go.asIntOf
  cases v <;> first
    | exact .inl ⟨_, rfl⟩
    | exact .inr ⟨_, rfl, trivial⟩
    | (rename_i y; cases y <;> exact .inr ⟨_, rfl, trivial⟩)
theorem Nice.unsafeAdd (ts : Array TypeId) (t : TypeId) (a : Option Addr) (v : Value) : Nice P D (Builtin.unsafeAdd_ ts t #[.pointer a, v]) := by
  cases a with
  | none =>
    refine Nice.bind (s := Go.asInt v) (Nice.asInt _) (fun n => ?_)
    dsimp only
    repeat' (first
      | with_reducible exact Nice.pure _
      | with_reducible exact Nice.pure' _
      | with_reducible exact Nice.stuck _
      | with_reducible exact Nice.goPanic _
      | (with_reducible refine Nice.unsupported ?_); trivial
      | with_reducible exact Nice.program
      | with_reducible exact Nice.choose _
      | with_reducible exact Nice.load _ _
      | with_reducible exact Nice.store _ _ _
      | with_reducible exact Nice.frozen _
      | with_reducible exact Nice.askRoom _
      | with_reducible exact Nice.noRoom
      | exact Nice.newObj (fun _ _ h => by cases h)
      | with_reducible exact Nice.typeInfo _
      | with_reducible exact Nice.underlying _
      | with_reducible exact Nice.typeStr _
      | with_reducible exact Nice.zeroValue _
      | with_reducible exact Nice.sizeOf _
      | with_reducible exact Nice.isAgg _
      | with_reducible exact Nice.loadCells _ _
      | with_reducible exact Nice.storeCells _ _ _
      | with_reducible exact Nice.loadVar _ _
      | with_reducible exact Nice.storeVar _ _ _
      | with_reducible exact Nice.newRow _ _
      | with_reducible exact Nice.newVar _ _
      | with_reducible exact Nice.elemOf _
      | with_reducible exact Nice.part _ _ _
      | with_reducible exact Nice.runtimePanic _
      | with_reducible exact Nice.boundsPanic _ _ _ _
      | with_reducible exact Nice.asIntOf _
      | with_reducible exact Nice.asInt _
      | with_reducible exact Nice.asBool _
      | with_reducible exact Nice.asAddr _
      | with_reducible exact Nice.sureAddr _
      | with_reducible exact Nice.loadAt _ _
      | with_reducible exact Nice.storeAt _ _ _
      | with_reducible exact Nice.indexAt _ _ _
      | with_reducible exact Nice.sliceBound _ _ _
      | with_reducible exact Nice.sliceBounds _ _ _ _ _ _
      | with_reducible exact Nice.slice _ _ _ _ _
      | with_reducible exact Nice.sliceAt _ _ _ _ _
      | with_reducible exact Nice.makeSlice _ _ _
      | with_reducible exact Nice.buildSlice _ _ _
      | with_reducible exact Nice.box _ _
      | with_reducible exact Nice.alloc _ _ _
      | with_reducible exact Nice.extract _ _
      | with_reducible exact Nice.makeInterface _ _
      | with_reducible exact Nice.len_ _ _ _
      | with_reducible exact Nice.cap_ _ _ _
      | with_reducible exact Nice.panic _
      | with_reducible exact Nice.firstCells _ _ _
      | with_reducible exact Nice.lenOf _
      | with_reducible exact Nice.append_ _ _ _
      | with_reducible exact Nice.noView _
      | with_reducible exact Nice.numberAt _
      | with_reducible exact Nice.asNumber _ _
      | with_reducible exact Nice.behindNumber _
      | with_reducible exact Nice.byteOf _
      | with_reducible exact Nice.sameAddr _ _
      | with_reducible exact Nice.samePointer _ _
      | (with_reducible refine Nice.bind ?_ (fun _ => ?_))
      | (with_reducible refine Nice.ite ?_ ?_)
      | (refine Nice.map ?_)
      | split
      | dsimp only)
  | some a =>
    refine nice_of a.block (fun D hD => ?_) (fun u h => ?_)
    · refine Nice.bind (s := Go.asInt v) (Nice.asInt _) (fun n => ?_)
      dsimp only
      unfold Go.viewAt
      repeat' (first
        | with_reducible exact Nice.shape (by assumption)
        | with_reducible exact Nice.getObj (by assumption)
        | with_reducible exact Nice.pure _
        | with_reducible exact Nice.pure' _
        | with_reducible exact Nice.stuck _
        | with_reducible exact Nice.goPanic _
        | (with_reducible refine Nice.unsupported ?_); trivial
        | with_reducible exact Nice.program
        | with_reducible exact Nice.choose _
        | with_reducible exact Nice.load _ _
        | with_reducible exact Nice.store _ _ _
        | with_reducible exact Nice.frozen _
        | with_reducible exact Nice.askRoom _
        | with_reducible exact Nice.noRoom
        | exact Nice.newObj (fun _ _ h => by cases h)
        | with_reducible exact Nice.typeInfo _
        | with_reducible exact Nice.underlying _
        | with_reducible exact Nice.typeStr _
        | with_reducible exact Nice.zeroValue _
        | with_reducible exact Nice.sizeOf _
        | with_reducible exact Nice.isAgg _
        | with_reducible exact Nice.loadCells _ _
        | with_reducible exact Nice.storeCells _ _ _
        | with_reducible exact Nice.loadVar _ _
        | with_reducible exact Nice.storeVar _ _ _
        | with_reducible exact Nice.newRow _ _
        | with_reducible exact Nice.newVar _ _
        | with_reducible exact Nice.elemOf _
        | with_reducible exact Nice.part _ _ _
        | with_reducible exact Nice.runtimePanic _
        | with_reducible exact Nice.boundsPanic _ _ _ _
        | with_reducible exact Nice.asIntOf _
        | with_reducible exact Nice.asInt _
        | with_reducible exact Nice.asBool _
        | with_reducible exact Nice.asAddr _
        | with_reducible exact Nice.sureAddr _
        | with_reducible exact Nice.loadAt _ _
        | with_reducible exact Nice.storeAt _ _ _
        | with_reducible exact Nice.indexAt _ _ _
        | with_reducible exact Nice.sliceBound _ _ _
        | with_reducible exact Nice.sliceBounds _ _ _ _ _ _
        | with_reducible exact Nice.slice _ _ _ _ _
        | with_reducible exact Nice.sliceAt _ _ _ _ _
        | with_reducible exact Nice.makeSlice _ _ _
        | with_reducible exact Nice.buildSlice _ _ _
        | with_reducible exact Nice.box _ _
        | with_reducible exact Nice.alloc _ _ _
        | with_reducible exact Nice.extract _ _
        | with_reducible exact Nice.makeInterface _ _
        | with_reducible exact Nice.len_ _ _ _
        | with_reducible exact Nice.cap_ _ _ _
        | with_reducible exact Nice.panic _
        | with_reducible exact Nice.firstCells _ _ _
        | with_reducible exact Nice.lenOf _
        | with_reducible exact Nice.append_ _ _ _
        | with_reducible exact Nice.noView _
        | with_reducible exact Nice.numberAt _
        | with_reducible exact Nice.asNumber _ _
        | with_reducible exact Nice.behindNumber _
        | with_reducible exact Nice.byteOf _
        | with_reducible exact Nice.sameAddr _ _
        | with_reducible exact Nice.samePointer _ _
        | (with_reducible refine Nice.bind ?_ (fun _ => ?_))
        | (with_reducible refine Nice.ite ?_ ?_)
        | (refine Nice.map ?_)
        | split
        | dsimp only)
    · have e : ∃ f, Builtin.unsafeAdd_ ts t #[.pointer (some a), v] = (Go.asInt v >>= f) ∧ ∀ n, Dead P (f n) u := by
        refine ⟨_, rfl, fun n => ?_⟩
        dsimp only
        by_cases h0 : n = 0
        · rw [if_pos h0]
          simp only [Dead, Sem.run_bind, poison_viewAt h, Result.andThen_ok]
          exact ⟨_, _, rfl, trivial⟩
        · rw [if_neg h0]
          by_cases h1 : n < 0
          · rw [if_pos h1]; exact ⟨_, _, rfl, trivial⟩
          · rw [if_neg h1]
            simp only [Dead, Sem.run_bind, poison_shape h, Result.andThen_ok]
            exact ⟨_, _, rfl, trivial⟩
      obtain ⟨f, e, hf⟩ := e
      rw [e]
      unfold Dead
      rw [Sem.run_bind]
      rcases asInt_run (P := P) v u with ⟨n, e2⟩ | ⟨x, e2, hx⟩
      · rw [e2]; exact hf n
      · rw [e2]; exact ⟨x, u, rfl, hx⟩
theorem unsafeAdd_shape (ts : Array TypeId) (t : TypeId) (x v : Value) : Nice P D (Builtin.unsafeAdd_ ts t #[x, v]) := by
  cases x <;> first
    | exact Nice.unsafeAdd _ _ _ _
    | exact Nice.stuck _
theorem Nice.movedNumber (t : TypeId) (x y : Value) : Nice P D (Go.movedNumber t x y) := by
  unfold Go.movedNumber
  repeat' (first
    | with_reducible exact Nice.pure _
    | with_reducible exact Nice.pure' _
    | with_reducible exact Nice.stuck _
    | with_reducible exact Nice.goPanic _
    | (with_reducible refine Nice.unsupported ?_); trivial
    | with_reducible exact Nice.program
    | with_reducible exact Nice.choose _
    | with_reducible exact Nice.load _ _
    | with_reducible exact Nice.store _ _ _
    | with_reducible exact Nice.frozen _
    | with_reducible exact Nice.askRoom _
    | with_reducible exact Nice.noRoom
    | exact Nice.newObj (fun _ _ h => by cases h)
    | with_reducible exact Nice.typeInfo _
    | with_reducible exact Nice.underlying _
    | with_reducible exact Nice.typeStr _
    | with_reducible exact Nice.zeroValue _
    | with_reducible exact Nice.sizeOf _
    | with_reducible exact Nice.isAgg _
    | with_reducible exact Nice.loadCells _ _
    | with_reducible exact Nice.storeCells _ _ _
    | with_reducible exact Nice.loadVar _ _
    | with_reducible exact Nice.storeVar _ _ _
    | with_reducible exact Nice.newRow _ _
    | with_reducible exact Nice.newVar _ _
    | with_reducible exact Nice.elemOf _
    | with_reducible exact Nice.part _ _ _
    | with_reducible exact Nice.runtimePanic _
    | with_reducible exact Nice.boundsPanic _ _ _ _
    | with_reducible exact Nice.asIntOf _
    | with_reducible exact Nice.asInt _
    | with_reducible exact Nice.asBool _
    | with_reducible exact Nice.asAddr _
    | with_reducible exact Nice.sureAddr _
    | with_reducible exact Nice.loadAt _ _
    | with_reducible exact Nice.storeAt _ _ _
    | with_reducible exact Nice.indexAt _ _ _
    | with_reducible exact Nice.sliceBound _ _ _
    | with_reducible exact Nice.sliceBounds _ _ _ _ _ _
    | with_reducible exact Nice.slice _ _ _ _ _
    | with_reducible exact Nice.sliceAt _ _ _ _ _
    | with_reducible exact Nice.makeSlice _ _ _
    | with_reducible exact Nice.buildSlice _ _ _
    | with_reducible exact Nice.box _ _
    | with_reducible exact Nice.alloc _ _ _
    | with_reducible exact Nice.extract _ _
    | with_reducible exact Nice.makeInterface _ _
    | with_reducible exact Nice.len_ _ _ _
    | with_reducible exact Nice.cap_ _ _ _
    | with_reducible exact Nice.panic _
    | with_reducible exact Nice.firstCells _ _ _
    | with_reducible exact Nice.lenOf _
    | with_reducible exact Nice.append_ _ _ _
    | with_reducible exact Nice.noView _
    | with_reducible exact Nice.numberAt _
    | with_reducible exact Nice.asNumber _ _
    | with_reducible exact Nice.behindNumber _
    | with_reducible exact Nice.byteOf _
    | with_reducible exact Nice.sameAddr _ _
    | with_reducible exact Nice.samePointer _ _
    | with_reducible exact unsafeAdd_shape _ _ _ _
    | (with_reducible refine Nice.bind ?_ (fun _ => ?_))
    | (with_reducible refine Nice.ite ?_ ?_)
    | (refine Nice.map ?_)
    | split
    | dsimp only)
theorem Nice.movedPointer (t : TypeId) (x y : Value) : Nice P D (Go.movedPointer t x y) := by
  unfold Go.movedPointer
  repeat' (first
    | with_reducible exact Nice.pure _
    | with_reducible exact Nice.pure' _
    | with_reducible exact Nice.stuck _
    | with_reducible exact Nice.goPanic _
    | (with_reducible refine Nice.unsupported ?_); trivial
    | with_reducible exact Nice.program
    | with_reducible exact Nice.choose _
    | with_reducible exact Nice.load _ _
    | with_reducible exact Nice.store _ _ _
    | with_reducible exact Nice.frozen _
    | with_reducible exact Nice.askRoom _
    | with_reducible exact Nice.noRoom
    | exact Nice.newObj (fun _ _ h => by cases h)
    | with_reducible exact Nice.typeInfo _
    | with_reducible exact Nice.underlying _
    | with_reducible exact Nice.typeStr _
    | with_reducible exact Nice.zeroValue _
    | with_reducible exact Nice.sizeOf _
    | with_reducible exact Nice.isAgg _
    | with_reducible exact Nice.loadCells _ _
    | with_reducible exact Nice.storeCells _ _ _
    | with_reducible exact Nice.loadVar _ _
    | with_reducible exact Nice.storeVar _ _ _
    | with_reducible exact Nice.newRow _ _
    | with_reducible exact Nice.newVar _ _
    | with_reducible exact Nice.elemOf _
    | with_reducible exact Nice.part _ _ _
    | with_reducible exact Nice.runtimePanic _
    | with_reducible exact Nice.boundsPanic _ _ _ _
    | with_reducible exact Nice.asIntOf _
    | with_reducible exact Nice.asInt _
    | with_reducible exact Nice.asBool _
    | with_reducible exact Nice.asAddr _
    | with_reducible exact Nice.sureAddr _
    | with_reducible exact Nice.loadAt _ _
    | with_reducible exact Nice.storeAt _ _ _
    | with_reducible exact Nice.indexAt _ _ _
    | with_reducible exact Nice.sliceBound _ _ _
    | with_reducible exact Nice.sliceBounds _ _ _ _ _ _
    | with_reducible exact Nice.slice _ _ _ _ _
    | with_reducible exact Nice.sliceAt _ _ _ _ _
    | with_reducible exact Nice.makeSlice _ _ _
    | with_reducible exact Nice.buildSlice _ _ _
    | with_reducible exact Nice.box _ _
    | with_reducible exact Nice.alloc _ _ _
    | with_reducible exact Nice.extract _ _
    | with_reducible exact Nice.makeInterface _ _
    | with_reducible exact Nice.len_ _ _ _
    | with_reducible exact Nice.cap_ _ _ _
    | with_reducible exact Nice.panic _
    | with_reducible exact Nice.firstCells _ _ _
    | with_reducible exact Nice.lenOf _
    | with_reducible exact Nice.append_ _ _ _
    | with_reducible exact Nice.noView _
    | with_reducible exact Nice.numberAt _
    | with_reducible exact Nice.asNumber _ _
    | with_reducible exact Nice.behindNumber _
    | with_reducible exact Nice.byteOf _
    | with_reducible exact Nice.sameAddr _ _
    | with_reducible exact Nice.samePointer _ _
    | with_reducible exact unsafeAdd_shape _ _ _ _
    | with_reducible exact Nice.movedNumber _ _ _
    | (with_reducible refine Nice.bind ?_ (fun _ => ?_))
    | (with_reducible refine Nice.ite ?_ ?_)
    | (refine Nice.map ?_)
    | split
    | dsimp only)
theorem Nice.twoPlaces (a b : Addr) : Nice P D (Op.twoPlaces a b) := by
  unfold Op.twoPlaces
  repeat' (first
    | with_reducible exact Nice.pure _
    | with_reducible exact Nice.pure' _
    | with_reducible exact Nice.stuck _
    | with_reducible exact Nice.goPanic _
    | (with_reducible refine Nice.unsupported ?_); trivial
    | with_reducible exact Nice.program
    | with_reducible exact Nice.choose _
    | with_reducible exact Nice.load _ _
    | with_reducible exact Nice.store _ _ _
    | with_reducible exact Nice.frozen _
    | with_reducible exact Nice.askRoom _
    | with_reducible exact Nice.noRoom
    | exact Nice.newObj (fun _ _ h => by cases h)
    | with_reducible exact Nice.typeInfo _
    | with_reducible exact Nice.underlying _
    | with_reducible exact Nice.typeStr _
    | with_reducible exact Nice.zeroValue _
    | with_reducible exact Nice.sizeOf _
    | with_reducible exact Nice.isAgg _
    | with_reducible exact Nice.loadCells _ _
    | with_reducible exact Nice.storeCells _ _ _
    | with_reducible exact Nice.loadVar _ _
    | with_reducible exact Nice.storeVar _ _ _
    | with_reducible exact Nice.newRow _ _
    | with_reducible exact Nice.newVar _ _
    | with_reducible exact Nice.elemOf _
    | with_reducible exact Nice.part _ _ _
    | with_reducible exact Nice.runtimePanic _
    | with_reducible exact Nice.boundsPanic _ _ _ _
    | with_reducible exact Nice.asIntOf _
    | with_reducible exact Nice.asInt _
    | with_reducible exact Nice.asBool _
    | with_reducible exact Nice.asAddr _
    | with_reducible exact Nice.sureAddr _
    | with_reducible exact Nice.loadAt _ _
    | with_reducible exact Nice.storeAt _ _ _
    | with_reducible exact Nice.indexAt _ _ _
    | with_reducible exact Nice.sliceBound _ _ _
    | with_reducible exact Nice.sliceBounds _ _ _ _ _ _
    | with_reducible exact Nice.slice _ _ _ _ _
    | with_reducible exact Nice.sliceAt _ _ _ _ _
    | with_reducible exact Nice.makeSlice _ _ _
    | with_reducible exact Nice.buildSlice _ _ _
    | with_reducible exact Nice.box _ _
    | with_reducible exact Nice.alloc _ _ _
    | with_reducible exact Nice.extract _ _
    | with_reducible exact Nice.makeInterface _ _
    | with_reducible exact Nice.len_ _ _ _
    | with_reducible exact Nice.cap_ _ _ _
    | with_reducible exact Nice.panic _
    | with_reducible exact Nice.firstCells _ _ _
    | with_reducible exact Nice.lenOf _
    | with_reducible exact Nice.append_ _ _ _
    | with_reducible exact Nice.noView _
    | with_reducible exact Nice.numberAt _
    | with_reducible exact Nice.asNumber _ _
    | with_reducible exact Nice.behindNumber _
    | with_reducible exact Nice.byteOf _
    | with_reducible exact Nice.sameAddr _ _
    | with_reducible exact Nice.samePointer _ _
    | with_reducible exact unsafeAdd_shape _ _ _ _
    | with_reducible exact Nice.movedNumber _ _ _
    | with_reducible exact Nice.movedPointer _ _ _
    | (with_reducible refine Nice.bind ?_ (fun _ => ?_))
    | (with_reducible refine Nice.ite ?_ ?_)
    | (refine Nice.map ?_)
    | split
    | dsimp only)
theorem Nice.addrSub (k : IntKind) (a b : Addr) : Nice P D (Op.addrSub k a b) := by
  unfold Op.addrSub
  repeat' (first
    | with_reducible exact Nice.pure _
    | with_reducible exact Nice.pure' _
    | with_reducible exact Nice.stuck _
    | with_reducible exact Nice.goPanic _
    | (with_reducible refine Nice.unsupported ?_); trivial
    | with_reducible exact Nice.program
    | with_reducible exact Nice.choose _
    | with_reducible exact Nice.load _ _
    | with_reducible exact Nice.store _ _ _
    | with_reducible exact Nice.frozen _
    | with_reducible exact Nice.askRoom _
    | with_reducible exact Nice.noRoom
    | exact Nice.newObj (fun _ _ h => by cases h)
    | with_reducible exact Nice.typeInfo _
    | with_reducible exact Nice.underlying _
    | with_reducible exact Nice.typeStr _
    | with_reducible exact Nice.zeroValue _
    | with_reducible exact Nice.sizeOf _
    | with_reducible exact Nice.isAgg _
    | with_reducible exact Nice.loadCells _ _
    | with_reducible exact Nice.storeCells _ _ _
    | with_reducible exact Nice.loadVar _ _
    | with_reducible exact Nice.storeVar _ _ _
    | with_reducible exact Nice.newRow _ _
    | with_reducible exact Nice.newVar _ _
    | with_reducible exact Nice.elemOf _
    | with_reducible exact Nice.part _ _ _
    | with_reducible exact Nice.runtimePanic _
    | with_reducible exact Nice.boundsPanic _ _ _ _
    | with_reducible exact Nice.asIntOf _
    | with_reducible exact Nice.asInt _
    | with_reducible exact Nice.asBool _
    | with_reducible exact Nice.asAddr _
    | with_reducible exact Nice.sureAddr _
    | with_reducible exact Nice.loadAt _ _
    | with_reducible exact Nice.storeAt _ _ _
    | with_reducible exact Nice.indexAt _ _ _
    | with_reducible exact Nice.sliceBound _ _ _
    | with_reducible exact Nice.sliceBounds _ _ _ _ _ _
    | with_reducible exact Nice.slice _ _ _ _ _
    | with_reducible exact Nice.sliceAt _ _ _ _ _
    | with_reducible exact Nice.makeSlice _ _ _
    | with_reducible exact Nice.buildSlice _ _ _
    | with_reducible exact Nice.box _ _
    | with_reducible exact Nice.alloc _ _ _
    | with_reducible exact Nice.extract _ _
    | with_reducible exact Nice.makeInterface _ _
    | with_reducible exact Nice.len_ _ _ _
    | with_reducible exact Nice.cap_ _ _ _
    | with_reducible exact Nice.panic _
    | with_reducible exact Nice.firstCells _ _ _
    | with_reducible exact Nice.lenOf _
    | with_reducible exact Nice.append_ _ _ _
    | with_reducible exact Nice.noView _
    | with_reducible exact Nice.numberAt _
    | with_reducible exact Nice.asNumber _ _
    | with_reducible exact Nice.behindNumber _
    | with_reducible exact Nice.byteOf _
    | with_reducible exact Nice.sameAddr _ _
    | with_reducible exact Nice.samePointer _ _
    | with_reducible exact unsafeAdd_shape _ _ _ _
    | with_reducible exact Nice.movedNumber _ _ _
    | with_reducible exact Nice.movedPointer _ _ _
    | with_reducible exact Nice.twoPlaces _ _
    | (with_reducible refine Nice.bind ?_ (fun _ => ?_))
    | (with_reducible refine Nice.ite ?_ ?_)
    | (refine Nice.map ?_)
    | split
    | dsimp only)
theorem Nice.addrCmp (k : BinOp) (a b : Addr) : Nice P D (Op.addrCmp k a b) := by
  unfold Op.addrCmp
  repeat' (first
    | with_reducible exact Nice.pure _
    | with_reducible exact Nice.pure' _
    | with_reducible exact Nice.stuck _
    | with_reducible exact Nice.goPanic _
    | (with_reducible refine Nice.unsupported ?_); trivial
    | with_reducible exact Nice.program
    | with_reducible exact Nice.choose _
    | with_reducible exact Nice.load _ _
    | with_reducible exact Nice.store _ _ _
    | with_reducible exact Nice.frozen _
    | with_reducible exact Nice.askRoom _
    | with_reducible exact Nice.noRoom
    | exact Nice.newObj (fun _ _ h => by cases h)
    | with_reducible exact Nice.typeInfo _
    | with_reducible exact Nice.underlying _
    | with_reducible exact Nice.typeStr _
    | with_reducible exact Nice.zeroValue _
    | with_reducible exact Nice.sizeOf _
    | with_reducible exact Nice.isAgg _
    | with_reducible exact Nice.loadCells _ _
    | with_reducible exact Nice.storeCells _ _ _
    | with_reducible exact Nice.loadVar _ _
    | with_reducible exact Nice.storeVar _ _ _
    | with_reducible exact Nice.newRow _ _
    | with_reducible exact Nice.newVar _ _
    | with_reducible exact Nice.elemOf _
    | with_reducible exact Nice.part _ _ _
    | with_reducible exact Nice.runtimePanic _
    | with_reducible exact Nice.boundsPanic _ _ _ _
    | with_reducible exact Nice.asIntOf _
    | with_reducible exact Nice.asInt _
    | with_reducible exact Nice.asBool _
    | with_reducible exact Nice.asAddr _
    | with_reducible exact Nice.sureAddr _
    | with_reducible exact Nice.loadAt _ _
    | with_reducible exact Nice.storeAt _ _ _
    | with_reducible exact Nice.indexAt _ _ _
    | with_reducible exact Nice.sliceBound _ _ _
    | with_reducible exact Nice.sliceBounds _ _ _ _ _ _
    | with_reducible exact Nice.slice _ _ _ _ _
    | with_reducible exact Nice.sliceAt _ _ _ _ _
    | with_reducible exact Nice.makeSlice _ _ _
    | with_reducible exact Nice.buildSlice _ _ _
    | with_reducible exact Nice.box _ _
    | with_reducible exact Nice.alloc _ _ _
    | with_reducible exact Nice.extract _ _
    | with_reducible exact Nice.makeInterface _ _
    | with_reducible exact Nice.len_ _ _ _
    | with_reducible exact Nice.cap_ _ _ _
    | with_reducible exact Nice.panic _
    | with_reducible exact Nice.firstCells _ _ _
    | with_reducible exact Nice.lenOf _
    | with_reducible exact Nice.append_ _ _ _
    | with_reducible exact Nice.noView _
    | with_reducible exact Nice.numberAt _
    | with_reducible exact Nice.asNumber _ _
    | with_reducible exact Nice.behindNumber _
    | with_reducible exact Nice.byteOf _
    | with_reducible exact Nice.sameAddr _ _
    | with_reducible exact Nice.samePointer _ _
    | with_reducible exact unsafeAdd_shape _ _ _ _
    | with_reducible exact Nice.movedNumber _ _ _
    | with_reducible exact Nice.movedPointer _ _ _
    | with_reducible exact Nice.twoPlaces _ _
    | with_reducible exact Nice.addrSub _ _ _
    | (with_reducible refine Nice.bind ?_ (fun _ => ?_))
    | (with_reducible refine Nice.ite ?_ ?_)
    | (refine Nice.map ?_)
    | split
    | dsimp only)
theorem Nice.addrMod (k : IntKind) (a : Addr) (n : Int) : Nice P D (Op.addrMod k a n) := by
  refine nice_of a.block (fun D hD => ?_) (fun u h => ?_)
  · unfold Op.addrMod
    repeat' (first
      | with_reducible exact Nice.shape (by assumption)
      | with_reducible exact Nice.getObj (by assumption)
      | with_reducible exact Nice.pure _
      | with_reducible exact Nice.pure' _
      | with_reducible exact Nice.stuck _
      | with_reducible exact Nice.goPanic _
      | (with_reducible refine Nice.unsupported ?_); trivial
      | with_reducible exact Nice.program
      | with_reducible exact Nice.choose _
      | with_reducible exact Nice.load _ _
      | with_reducible exact Nice.store _ _ _
      | with_reducible exact Nice.frozen _
      | with_reducible exact Nice.askRoom _
      | with_reducible exact Nice.noRoom
      | exact Nice.newObj (fun _ _ h => by cases h)
      | with_reducible exact Nice.typeInfo _
      | with_reducible exact Nice.underlying _
      | with_reducible exact Nice.typeStr _
      | with_reducible exact Nice.zeroValue _
      | with_reducible exact Nice.sizeOf _
      | with_reducible exact Nice.isAgg _
      | with_reducible exact Nice.loadCells _ _
      | with_reducible exact Nice.storeCells _ _ _
      | with_reducible exact Nice.loadVar _ _
      | with_reducible exact Nice.storeVar _ _ _
      | with_reducible exact Nice.newRow _ _
      | with_reducible exact Nice.newVar _ _
      | with_reducible exact Nice.elemOf _
      | with_reducible exact Nice.part _ _ _
      | with_reducible exact Nice.runtimePanic _
      | with_reducible exact Nice.boundsPanic _ _ _ _
      | with_reducible exact Nice.asIntOf _
      | with_reducible exact Nice.asInt _
      | with_reducible exact Nice.asBool _
      | with_reducible exact Nice.asAddr _
      | with_reducible exact Nice.sureAddr _
      | with_reducible exact Nice.loadAt _ _
      | with_reducible exact Nice.storeAt _ _ _
      | with_reducible exact Nice.indexAt _ _ _
      | with_reducible exact Nice.sliceBound _ _ _
      | with_reducible exact Nice.sliceBounds _ _ _ _ _ _
      | with_reducible exact Nice.slice _ _ _ _ _
      | with_reducible exact Nice.sliceAt _ _ _ _ _
      | with_reducible exact Nice.makeSlice _ _ _
      | with_reducible exact Nice.buildSlice _ _ _
      | with_reducible exact Nice.box _ _
      | with_reducible exact Nice.alloc _ _ _
      | with_reducible exact Nice.extract _ _
      | with_reducible exact Nice.makeInterface _ _
      | with_reducible exact Nice.len_ _ _ _
      | with_reducible exact Nice.cap_ _ _ _
      | with_reducible exact Nice.panic _
      | with_reducible exact Nice.firstCells _ _ _
      | with_reducible exact Nice.lenOf _
      | with_reducible exact Nice.append_ _ _ _
      | with_reducible exact Nice.noView _
      | with_reducible exact Nice.numberAt _
      | with_reducible exact Nice.asNumber _ _
      | with_reducible exact Nice.behindNumber _
      | with_reducible exact Nice.byteOf _
      | with_reducible exact Nice.sameAddr _ _
      | with_reducible exact Nice.samePointer _ _
      | with_reducible exact unsafeAdd_shape _ _ _ _
      | with_reducible exact Nice.movedNumber _ _ _
      | with_reducible exact Nice.movedPointer _ _ _
      | with_reducible exact Nice.twoPlaces _ _
      | with_reducible exact Nice.addrSub _ _ _
      | with_reducible exact Nice.addrCmp _ _ _
      | (with_reducible refine Nice.bind ?_ (fun _ => ?_))
      | (with_reducible refine Nice.ite ?_ ?_)
      | (refine Nice.map ?_)
      | split
      | dsimp only)
  · unfold Op.addrMod
    simp only [Dead, Sem.run_bind, poison_shape h, Result.andThen_ok]
    exact ⟨_, _, rfl, trivial⟩
theorem Nice.intArith (b : BinOp) (k : IntKind) (x y : Int) : Nice P D (Op.intArith b k x y) := by
  unfold Op.intArith
  repeat' (first
    | with_reducible exact Nice.pure _
    | with_reducible exact Nice.pure' _
    | with_reducible exact Nice.stuck _
    | with_reducible exact Nice.goPanic _
    | (with_reducible refine Nice.unsupported ?_); trivial
    | with_reducible exact Nice.program
    | with_reducible exact Nice.choose _
    | with_reducible exact Nice.load _ _
    | with_reducible exact Nice.store _ _ _
    | with_reducible exact Nice.frozen _
    | with_reducible exact Nice.askRoom _
    | with_reducible exact Nice.noRoom
    | exact Nice.newObj (fun _ _ h => by cases h)
    | with_reducible exact Nice.typeInfo _
    | with_reducible exact Nice.underlying _
    | with_reducible exact Nice.typeStr _
    | with_reducible exact Nice.zeroValue _
    | with_reducible exact Nice.sizeOf _
    | with_reducible exact Nice.isAgg _
    | with_reducible exact Nice.loadCells _ _
    | with_reducible exact Nice.storeCells _ _ _
    | with_reducible exact Nice.loadVar _ _
    | with_reducible exact Nice.storeVar _ _ _
    | with_reducible exact Nice.newRow _ _
    | with_reducible exact Nice.newVar _ _
    | with_reducible exact Nice.elemOf _
    | with_reducible exact Nice.part _ _ _
    | with_reducible exact Nice.runtimePanic _
    | with_reducible exact Nice.boundsPanic _ _ _ _
    | with_reducible exact Nice.asIntOf _
    | with_reducible exact Nice.asInt _
    | with_reducible exact Nice.asBool _
    | with_reducible exact Nice.asAddr _
    | with_reducible exact Nice.sureAddr _
    | with_reducible exact Nice.loadAt _ _
    | with_reducible exact Nice.storeAt _ _ _
    | with_reducible exact Nice.indexAt _ _ _
    | with_reducible exact Nice.sliceBound _ _ _
    | with_reducible exact Nice.sliceBounds _ _ _ _ _ _
    | with_reducible exact Nice.slice _ _ _ _ _
    | with_reducible exact Nice.sliceAt _ _ _ _ _
    | with_reducible exact Nice.makeSlice _ _ _
    | with_reducible exact Nice.buildSlice _ _ _
    | with_reducible exact Nice.box _ _
    | with_reducible exact Nice.alloc _ _ _
    | with_reducible exact Nice.extract _ _
    | with_reducible exact Nice.makeInterface _ _
    | with_reducible exact Nice.len_ _ _ _
    | with_reducible exact Nice.cap_ _ _ _
    | with_reducible exact Nice.panic _
    | with_reducible exact Nice.firstCells _ _ _
    | with_reducible exact Nice.lenOf _
    | with_reducible exact Nice.append_ _ _ _
    | with_reducible exact Nice.noView _
    | with_reducible exact Nice.numberAt _
    | with_reducible exact Nice.asNumber _ _
    | with_reducible exact Nice.behindNumber _
    | with_reducible exact Nice.byteOf _
    | with_reducible exact Nice.sameAddr _ _
    | with_reducible exact Nice.samePointer _ _
    | with_reducible exact unsafeAdd_shape _ _ _ _
    | with_reducible exact Nice.movedNumber _ _ _
    | with_reducible exact Nice.movedPointer _ _ _
    | with_reducible exact Nice.twoPlaces _ _
    | with_reducible exact Nice.addrSub _ _ _
    | with_reducible exact Nice.addrCmp _ _ _
    | with_reducible exact Nice.addrMod _ _ _
    | (with_reducible refine Nice.bind ?_ (fun _ => ?_))
    | (with_reducible refine Nice.ite ?_ ?_)
    | (refine Nice.map ?_)
    | split
    | dsimp only)
theorem Nice.intDiv (b : BinOp) (k : IntKind) (x y : Int) : Nice P D (Op.intDiv b k x y) := by
  unfold Op.intDiv
  repeat' (first
    | with_reducible exact Nice.pure _
    | with_reducible exact Nice.pure' _
    | with_reducible exact Nice.stuck _
    | with_reducible exact Nice.goPanic _
    | (with_reducible refine Nice.unsupported ?_); trivial
    | with_reducible exact Nice.program
    | with_reducible exact Nice.choose _
    | with_reducible exact Nice.load _ _
    | with_reducible exact Nice.store _ _ _
    | with_reducible exact Nice.frozen _
    | with_reducible exact Nice.askRoom _
    | with_reducible exact Nice.noRoom
    | exact Nice.newObj (fun _ _ h => by cases h)
    | with_reducible exact Nice.typeInfo _
    | with_reducible exact Nice.underlying _
    | with_reducible exact Nice.typeStr _
    | with_reducible exact Nice.zeroValue _
    | with_reducible exact Nice.sizeOf _
    | with_reducible exact Nice.isAgg _
    | with_reducible exact Nice.loadCells _ _
    | with_reducible exact Nice.storeCells _ _ _
    | with_reducible exact Nice.loadVar _ _
    | with_reducible exact Nice.storeVar _ _ _
    | with_reducible exact Nice.newRow _ _
    | with_reducible exact Nice.newVar _ _
    | with_reducible exact Nice.elemOf _
    | with_reducible exact Nice.part _ _ _
    | with_reducible exact Nice.runtimePanic _
    | with_reducible exact Nice.boundsPanic _ _ _ _
    | with_reducible exact Nice.asIntOf _
    | with_reducible exact Nice.asInt _
    | with_reducible exact Nice.asBool _
    | with_reducible exact Nice.asAddr _
    | with_reducible exact Nice.sureAddr _
    | with_reducible exact Nice.loadAt _ _
    | with_reducible exact Nice.storeAt _ _ _
    | with_reducible exact Nice.indexAt _ _ _
    | with_reducible exact Nice.sliceBound _ _ _
    | with_reducible exact Nice.sliceBounds _ _ _ _ _ _
    | with_reducible exact Nice.slice _ _ _ _ _
    | with_reducible exact Nice.sliceAt _ _ _ _ _
    | with_reducible exact Nice.makeSlice _ _ _
    | with_reducible exact Nice.buildSlice _ _ _
    | with_reducible exact Nice.box _ _
    | with_reducible exact Nice.alloc _ _ _
    | with_reducible exact Nice.extract _ _
    | with_reducible exact Nice.makeInterface _ _
    | with_reducible exact Nice.len_ _ _ _
    | with_reducible exact Nice.cap_ _ _ _
    | with_reducible exact Nice.panic _
    | with_reducible exact Nice.firstCells _ _ _
    | with_reducible exact Nice.lenOf _
    | with_reducible exact Nice.append_ _ _ _
    | with_reducible exact Nice.noView _
    | with_reducible exact Nice.numberAt _
    | with_reducible exact Nice.asNumber _ _
    | with_reducible exact Nice.behindNumber _
    | with_reducible exact Nice.byteOf _
    | with_reducible exact Nice.sameAddr _ _
    | with_reducible exact Nice.samePointer _ _
    | with_reducible exact unsafeAdd_shape _ _ _ _
    | with_reducible exact Nice.movedNumber _ _ _
    | with_reducible exact Nice.movedPointer _ _ _
    | with_reducible exact Nice.twoPlaces _ _
    | with_reducible exact Nice.addrSub _ _ _
    | with_reducible exact Nice.addrCmp _ _ _
    | with_reducible exact Nice.addrMod _ _ _
    | with_reducible exact Nice.intArith _ _ _ _
    | (with_reducible refine Nice.bind ?_ (fun _ => ?_))
    | (with_reducible refine Nice.ite ?_ ?_)
    | (refine Nice.map ?_)
    | split
    | dsimp only)
theorem Nice.intBits (b : BinOp) (k : IntKind) (x y : Int) : Nice P D (Op.intBits b k x y) := by
  unfold Op.intBits
  repeat' (first
    | with_reducible exact Nice.pure _
    | with_reducible exact Nice.pure' _
    | with_reducible exact Nice.stuck _
    | with_reducible exact Nice.goPanic _
    | (with_reducible refine Nice.unsupported ?_); trivial
    | with_reducible exact Nice.program
    | with_reducible exact Nice.choose _
    | with_reducible exact Nice.load _ _
    | with_reducible exact Nice.store _ _ _
    | with_reducible exact Nice.frozen _
    | with_reducible exact Nice.askRoom _
    | with_reducible exact Nice.noRoom
    | exact Nice.newObj (fun _ _ h => by cases h)
    | with_reducible exact Nice.typeInfo _
    | with_reducible exact Nice.underlying _
    | with_reducible exact Nice.typeStr _
    | with_reducible exact Nice.zeroValue _
    | with_reducible exact Nice.sizeOf _
    | with_reducible exact Nice.isAgg _
    | with_reducible exact Nice.loadCells _ _
    | with_reducible exact Nice.storeCells _ _ _
    | with_reducible exact Nice.loadVar _ _
    | with_reducible exact Nice.storeVar _ _ _
    | with_reducible exact Nice.newRow _ _
    | with_reducible exact Nice.newVar _ _
    | with_reducible exact Nice.elemOf _
    | with_reducible exact Nice.part _ _ _
    | with_reducible exact Nice.runtimePanic _
    | with_reducible exact Nice.boundsPanic _ _ _ _
    | with_reducible exact Nice.asIntOf _
    | with_reducible exact Nice.asInt _
    | with_reducible exact Nice.asBool _
    | with_reducible exact Nice.asAddr _
    | with_reducible exact Nice.sureAddr _
    | with_reducible exact Nice.loadAt _ _
    | with_reducible exact Nice.storeAt _ _ _
    | with_reducible exact Nice.indexAt _ _ _
    | with_reducible exact Nice.sliceBound _ _ _
    | with_reducible exact Nice.sliceBounds _ _ _ _ _ _
    | with_reducible exact Nice.slice _ _ _ _ _
    | with_reducible exact Nice.sliceAt _ _ _ _ _
    | with_reducible exact Nice.makeSlice _ _ _
    | with_reducible exact Nice.buildSlice _ _ _
    | with_reducible exact Nice.box _ _
    | with_reducible exact Nice.alloc _ _ _
    | with_reducible exact Nice.extract _ _
    | with_reducible exact Nice.makeInterface _ _
    | with_reducible exact Nice.len_ _ _ _
    | with_reducible exact Nice.cap_ _ _ _
    | with_reducible exact Nice.panic _
    | with_reducible exact Nice.firstCells _ _ _
    | with_reducible exact Nice.lenOf _
    | with_reducible exact Nice.append_ _ _ _
    | with_reducible exact Nice.noView _
    | with_reducible exact Nice.numberAt _
    | with_reducible exact Nice.asNumber _ _
    | with_reducible exact Nice.behindNumber _
    | with_reducible exact Nice.byteOf _
    | with_reducible exact Nice.sameAddr _ _
    | with_reducible exact Nice.samePointer _ _
    | with_reducible exact unsafeAdd_shape _ _ _ _
    | with_reducible exact Nice.movedNumber _ _ _
    | with_reducible exact Nice.movedPointer _ _ _
    | with_reducible exact Nice.twoPlaces _ _
    | with_reducible exact Nice.addrSub _ _ _
    | with_reducible exact Nice.addrCmp _ _ _
    | with_reducible exact Nice.addrMod _ _ _
    | with_reducible exact Nice.intArith _ _ _ _
    | with_reducible exact Nice.intDiv _ _ _ _
    | (with_reducible refine Nice.bind ?_ (fun _ => ?_))
    | (with_reducible refine Nice.ite ?_ ?_)
    | (refine Nice.map ?_)
    | split
    | dsimp only)
theorem Nice.intCmp (b : BinOp) (x y : Int) : Nice P D (Op.intCmp b x y) := by
  unfold Op.intCmp
  repeat' (first
    | with_reducible exact Nice.pure _
    | with_reducible exact Nice.pure' _
    | with_reducible exact Nice.stuck _
    | with_reducible exact Nice.goPanic _
    | (with_reducible refine Nice.unsupported ?_); trivial
    | with_reducible exact Nice.program
    | with_reducible exact Nice.choose _
    | with_reducible exact Nice.load _ _
    | with_reducible exact Nice.store _ _ _
    | with_reducible exact Nice.frozen _
    | with_reducible exact Nice.askRoom _
    | with_reducible exact Nice.noRoom
    | exact Nice.newObj (fun _ _ h => by cases h)
    | with_reducible exact Nice.typeInfo _
    | with_reducible exact Nice.underlying _
    | with_reducible exact Nice.typeStr _
    | with_reducible exact Nice.zeroValue _
    | with_reducible exact Nice.sizeOf _
    | with_reducible exact Nice.isAgg _
    | with_reducible exact Nice.loadCells _ _
    | with_reducible exact Nice.storeCells _ _ _
    | with_reducible exact Nice.loadVar _ _
    | with_reducible exact Nice.storeVar _ _ _
    | with_reducible exact Nice.newRow _ _
    | with_reducible exact Nice.newVar _ _
    | with_reducible exact Nice.elemOf _
    | with_reducible exact Nice.part _ _ _
    | with_reducible exact Nice.runtimePanic _
    | with_reducible exact Nice.boundsPanic _ _ _ _
    | with_reducible exact Nice.asIntOf _
    | with_reducible exact Nice.asInt _
    | with_reducible exact Nice.asBool _
    | with_reducible exact Nice.asAddr _
    | with_reducible exact Nice.sureAddr _
    | with_reducible exact Nice.loadAt _ _
    | with_reducible exact Nice.storeAt _ _ _
    | with_reducible exact Nice.indexAt _ _ _
    | with_reducible exact Nice.sliceBound _ _ _
    | with_reducible exact Nice.sliceBounds _ _ _ _ _ _
    | with_reducible exact Nice.slice _ _ _ _ _
    | with_reducible exact Nice.sliceAt _ _ _ _ _
    | with_reducible exact Nice.makeSlice _ _ _
    | with_reducible exact Nice.buildSlice _ _ _
    | with_reducible exact Nice.box _ _
    | with_reducible exact Nice.alloc _ _ _
    | with_reducible exact Nice.extract _ _
    | with_reducible exact Nice.makeInterface _ _
    | with_reducible exact Nice.len_ _ _ _
    | with_reducible exact Nice.cap_ _ _ _
    | with_reducible exact Nice.panic _
    | with_reducible exact Nice.firstCells _ _ _
    | with_reducible exact Nice.lenOf _
    | with_reducible exact Nice.append_ _ _ _
    | with_reducible exact Nice.noView _
    | with_reducible exact Nice.numberAt _
    | with_reducible exact Nice.asNumber _ _
    | with_reducible exact Nice.behindNumber _
    | with_reducible exact Nice.byteOf _
    | with_reducible exact Nice.sameAddr _ _
    | with_reducible exact Nice.samePointer _ _
    | with_reducible exact unsafeAdd_shape _ _ _ _
    | with_reducible exact Nice.movedNumber _ _ _
    | with_reducible exact Nice.movedPointer _ _ _
    | with_reducible exact Nice.twoPlaces _ _
    | with_reducible exact Nice.addrSub _ _ _
    | with_reducible exact Nice.addrCmp _ _ _
    | with_reducible exact Nice.addrMod _ _ _
    | with_reducible exact Nice.intArith _ _ _ _
    | with_reducible exact Nice.intDiv _ _ _ _
    | with_reducible exact Nice.intBits _ _ _ _
    | (with_reducible refine Nice.bind ?_ (fun _ => ?_))
    | (with_reducible refine Nice.ite ?_ ?_)
    | (refine Nice.map ?_)
    | split
    | dsimp only)
theorem Nice.shift (b : BinOp) (k : IntKind) (x : Int) (k2 : IntKind) (y : Int) : Nice P D (Op.shift b k x k2 y) := by
  unfold Op.shift
  repeat' (first
    | with_reducible exact Nice.pure _
    | with_reducible exact Nice.pure' _
    | with_reducible exact Nice.stuck _
    | with_reducible exact Nice.goPanic _
    | (with_reducible refine Nice.unsupported ?_); trivial
    | with_reducible exact Nice.program
    | with_reducible exact Nice.choose _
    | with_reducible exact Nice.load _ _
    | with_reducible exact Nice.store _ _ _
    | with_reducible exact Nice.frozen _
    | with_reducible exact Nice.askRoom _
    | with_reducible exact Nice.noRoom
    | exact Nice.newObj (fun _ _ h => by cases h)
    | with_reducible exact Nice.typeInfo _
    | with_reducible exact Nice.underlying _
    | with_reducible exact Nice.typeStr _
    | with_reducible exact Nice.zeroValue _
    | with_reducible exact Nice.sizeOf _
    | with_reducible exact Nice.isAgg _
    | with_reducible exact Nice.loadCells _ _
    | with_reducible exact Nice.storeCells _ _ _
    | with_reducible exact Nice.loadVar _ _
    | with_reducible exact Nice.storeVar _ _ _
    | with_reducible exact Nice.newRow _ _
    | with_reducible exact Nice.newVar _ _
    | with_reducible exact Nice.elemOf _
    | with_reducible exact Nice.part _ _ _
    | with_reducible exact Nice.runtimePanic _
    | with_reducible exact Nice.boundsPanic _ _ _ _
    | with_reducible exact Nice.asIntOf _
    | with_reducible exact Nice.asInt _
    | with_reducible exact Nice.asBool _
    | with_reducible exact Nice.asAddr _
    | with_reducible exact Nice.sureAddr _
    | with_reducible exact Nice.loadAt _ _
    | with_reducible exact Nice.storeAt _ _ _
    | with_reducible exact Nice.indexAt _ _ _
    | with_reducible exact Nice.sliceBound _ _ _
    | with_reducible exact Nice.sliceBounds _ _ _ _ _ _
    | with_reducible exact Nice.slice _ _ _ _ _
    | with_reducible exact Nice.sliceAt _ _ _ _ _
    | with_reducible exact Nice.makeSlice _ _ _
    | with_reducible exact Nice.buildSlice _ _ _
    | with_reducible exact Nice.box _ _
    | with_reducible exact Nice.alloc _ _ _
    | with_reducible exact Nice.extract _ _
    | with_reducible exact Nice.makeInterface _ _
    | with_reducible exact Nice.len_ _ _ _
    | with_reducible exact Nice.cap_ _ _ _
    | with_reducible exact Nice.panic _
    | with_reducible exact Nice.firstCells _ _ _
    | with_reducible exact Nice.lenOf _
    | with_reducible exact Nice.append_ _ _ _
    | with_reducible exact Nice.noView _
    | with_reducible exact Nice.numberAt _
    | with_reducible exact Nice.asNumber _ _
    | with_reducible exact Nice.behindNumber _
    | with_reducible exact Nice.byteOf _
    | with_reducible exact Nice.sameAddr _ _
    | with_reducible exact Nice.samePointer _ _
    | with_reducible exact unsafeAdd_shape _ _ _ _
    | with_reducible exact Nice.movedNumber _ _ _
    | with_reducible exact Nice.movedPointer _ _ _
    | with_reducible exact Nice.twoPlaces _ _
    | with_reducible exact Nice.addrSub _ _ _
    | with_reducible exact Nice.addrCmp _ _ _
    | with_reducible exact Nice.addrMod _ _ _
    | with_reducible exact Nice.intArith _ _ _ _
    | with_reducible exact Nice.intDiv _ _ _ _
    | with_reducible exact Nice.intBits _ _ _ _
    | with_reducible exact Nice.intCmp _ _ _
    | (with_reducible refine Nice.bind ?_ (fun _ => ?_))
    | (with_reducible refine Nice.ite ?_ ?_)
    | (refine Nice.map ?_)
    | split
    | dsimp only)
theorem Nice.floatArith (b : BinOp) (k : FloatKind) (x y : Nat) : Nice P D (Op.floatArith b k x y) := by
  unfold Op.floatArith
  repeat' (first
    | with_reducible exact Nice.pure _
    | with_reducible exact Nice.pure' _
    | with_reducible exact Nice.stuck _
    | with_reducible exact Nice.goPanic _
    | (with_reducible refine Nice.unsupported ?_); trivial
    | with_reducible exact Nice.program
    | with_reducible exact Nice.choose _
    | with_reducible exact Nice.load _ _
    | with_reducible exact Nice.store _ _ _
    | with_reducible exact Nice.frozen _
    | with_reducible exact Nice.askRoom _
    | with_reducible exact Nice.noRoom
    | exact Nice.newObj (fun _ _ h => by cases h)
    | with_reducible exact Nice.typeInfo _
    | with_reducible exact Nice.underlying _
    | with_reducible exact Nice.typeStr _
    | with_reducible exact Nice.zeroValue _
    | with_reducible exact Nice.sizeOf _
    | with_reducible exact Nice.isAgg _
    | with_reducible exact Nice.loadCells _ _
    | with_reducible exact Nice.storeCells _ _ _
    | with_reducible exact Nice.loadVar _ _
    | with_reducible exact Nice.storeVar _ _ _
    | with_reducible exact Nice.newRow _ _
    | with_reducible exact Nice.newVar _ _
    | with_reducible exact Nice.elemOf _
    | with_reducible exact Nice.part _ _ _
    | with_reducible exact Nice.runtimePanic _
    | with_reducible exact Nice.boundsPanic _ _ _ _
    | with_reducible exact Nice.asIntOf _
    | with_reducible exact Nice.asInt _
    | with_reducible exact Nice.asBool _
    | with_reducible exact Nice.asAddr _
    | with_reducible exact Nice.sureAddr _
    | with_reducible exact Nice.loadAt _ _
    | with_reducible exact Nice.storeAt _ _ _
    | with_reducible exact Nice.indexAt _ _ _
    | with_reducible exact Nice.sliceBound _ _ _
    | with_reducible exact Nice.sliceBounds _ _ _ _ _ _
    | with_reducible exact Nice.slice _ _ _ _ _
    | with_reducible exact Nice.sliceAt _ _ _ _ _
    | with_reducible exact Nice.makeSlice _ _ _
    | with_reducible exact Nice.buildSlice _ _ _
    | with_reducible exact Nice.box _ _
    | with_reducible exact Nice.alloc _ _ _
    | with_reducible exact Nice.extract _ _
    | with_reducible exact Nice.makeInterface _ _
    | with_reducible exact Nice.len_ _ _ _
    | with_reducible exact Nice.cap_ _ _ _
    | with_reducible exact Nice.panic _
    | with_reducible exact Nice.firstCells _ _ _
    | with_reducible exact Nice.lenOf _
    | with_reducible exact Nice.append_ _ _ _
    | with_reducible exact Nice.noView _
    | with_reducible exact Nice.numberAt _
    | with_reducible exact Nice.asNumber _ _
    | with_reducible exact Nice.behindNumber _
    | with_reducible exact Nice.byteOf _
    | with_reducible exact Nice.sameAddr _ _
    | with_reducible exact Nice.samePointer _ _
    | with_reducible exact unsafeAdd_shape _ _ _ _
    | with_reducible exact Nice.movedNumber _ _ _
    | with_reducible exact Nice.movedPointer _ _ _
    | with_reducible exact Nice.twoPlaces _ _
    | with_reducible exact Nice.addrSub _ _ _
    | with_reducible exact Nice.addrCmp _ _ _
    | with_reducible exact Nice.addrMod _ _ _
    | with_reducible exact Nice.intArith _ _ _ _
    | with_reducible exact Nice.intDiv _ _ _ _
    | with_reducible exact Nice.intBits _ _ _ _
    | with_reducible exact Nice.intCmp _ _ _
    | with_reducible exact Nice.shift _ _ _ _ _
    | (with_reducible refine Nice.bind ?_ (fun _ => ?_))
    | (with_reducible refine Nice.ite ?_ ?_)
    | (refine Nice.map ?_)
    | split
    | dsimp only)
theorem Nice.floatCmp (b : BinOp) (k : FloatKind) (x y : Nat) : Nice P D (Op.floatCmp b k x y) := by
  unfold Op.floatCmp
  repeat' (first
    | with_reducible exact Nice.pure _
    | with_reducible exact Nice.pure' _
    | with_reducible exact Nice.stuck _
    | with_reducible exact Nice.goPanic _
    | (with_reducible refine Nice.unsupported ?_); trivial
    | with_reducible exact Nice.program
    | with_reducible exact Nice.choose _
    | with_reducible exact Nice.load _ _
    | with_reducible exact Nice.store _ _ _
    | with_reducible exact Nice.frozen _
    | with_reducible exact Nice.askRoom _
    | with_reducible exact Nice.noRoom
    | exact Nice.newObj (fun _ _ h => by cases h)
    | with_reducible exact Nice.typeInfo _
    | with_reducible exact Nice.underlying _
    | with_reducible exact Nice.typeStr _
    | with_reducible exact Nice.zeroValue _
    | with_reducible exact Nice.sizeOf _
    | with_reducible exact Nice.isAgg _
    | with_reducible exact Nice.loadCells _ _
    | with_reducible exact Nice.storeCells _ _ _
    | with_reducible exact Nice.loadVar _ _
    | with_reducible exact Nice.storeVar _ _ _
    | with_reducible exact Nice.newRow _ _
    | with_reducible exact Nice.newVar _ _
    | with_reducible exact Nice.elemOf _
    | with_reducible exact Nice.part _ _ _
    | with_reducible exact Nice.runtimePanic _
    | with_reducible exact Nice.boundsPanic _ _ _ _
    | with_reducible exact Nice.asIntOf _
    | with_reducible exact Nice.asInt _
    | with_reducible exact Nice.asBool _
    | with_reducible exact Nice.asAddr _
    | with_reducible exact Nice.sureAddr _
    | with_reducible exact Nice.loadAt _ _
    | with_reducible exact Nice.storeAt _ _ _
    | with_reducible exact Nice.indexAt _ _ _
    | with_reducible exact Nice.sliceBound _ _ _
    | with_reducible exact Nice.sliceBounds _ _ _ _ _ _
    | with_reducible exact Nice.slice _ _ _ _ _
    | with_reducible exact Nice.sliceAt _ _ _ _ _
    | with_reducible exact Nice.makeSlice _ _ _
    | with_reducible exact Nice.buildSlice _ _ _
    | with_reducible exact Nice.box _ _
    | with_reducible exact Nice.alloc _ _ _
    | with_reducible exact Nice.extract _ _
    | with_reducible exact Nice.makeInterface _ _
    | with_reducible exact Nice.len_ _ _ _
    | with_reducible exact Nice.cap_ _ _ _
    | with_reducible exact Nice.panic _
    | with_reducible exact Nice.firstCells _ _ _
    | with_reducible exact Nice.lenOf _
    | with_reducible exact Nice.append_ _ _ _
    | with_reducible exact Nice.noView _
    | with_reducible exact Nice.numberAt _
    | with_reducible exact Nice.asNumber _ _
    | with_reducible exact Nice.behindNumber _
    | with_reducible exact Nice.byteOf _
    | with_reducible exact Nice.sameAddr _ _
    | with_reducible exact Nice.samePointer _ _
    | with_reducible exact unsafeAdd_shape _ _ _ _
    | with_reducible exact Nice.movedNumber _ _ _
    | with_reducible exact Nice.movedPointer _ _ _
    | with_reducible exact Nice.twoPlaces _ _
    | with_reducible exact Nice.addrSub _ _ _
    | with_reducible exact Nice.addrCmp _ _ _
    | with_reducible exact Nice.addrMod _ _ _
    | with_reducible exact Nice.intArith _ _ _ _
    | with_reducible exact Nice.intDiv _ _ _ _
    | with_reducible exact Nice.intBits _ _ _ _
    | with_reducible exact Nice.intCmp _ _ _
    | with_reducible exact Nice.shift _ _ _ _ _
    | with_reducible exact Nice.floatArith _ _ _ _
    | (with_reducible refine Nice.bind ?_ (fun _ => ?_))
    | (with_reducible refine Nice.ite ?_ ?_)
    | (refine Nice.map ?_)
    | split
    | dsimp only)
theorem Nice.floatToFloat (a : FloatKind) (b : Nat) (c : FloatKind) : Nice P D (Conv.floatToFloat a b c) := by
  unfold Conv.floatToFloat
  repeat' (first
    | with_reducible exact Nice.pure _
    | with_reducible exact Nice.pure' _
    | with_reducible exact Nice.stuck _
    | with_reducible exact Nice.goPanic _
    | (with_reducible refine Nice.unsupported ?_); trivial
    | with_reducible exact Nice.program
    | with_reducible exact Nice.choose _
    | with_reducible exact Nice.load _ _
    | with_reducible exact Nice.store _ _ _
    | with_reducible exact Nice.frozen _
    | with_reducible exact Nice.askRoom _
    | with_reducible exact Nice.noRoom
    | exact Nice.newObj (fun _ _ h => by cases h)
    | with_reducible exact Nice.typeInfo _
    | with_reducible exact Nice.underlying _
    | with_reducible exact Nice.typeStr _
    | with_reducible exact Nice.zeroValue _
    | with_reducible exact Nice.sizeOf _
    | with_reducible exact Nice.isAgg _
    | with_reducible exact Nice.loadCells _ _
    | with_reducible exact Nice.storeCells _ _ _
    | with_reducible exact Nice.loadVar _ _
    | with_reducible exact Nice.storeVar _ _ _
    | with_reducible exact Nice.newRow _ _
    | with_reducible exact Nice.newVar _ _
    | with_reducible exact Nice.elemOf _
    | with_reducible exact Nice.part _ _ _
    | with_reducible exact Nice.runtimePanic _
    | with_reducible exact Nice.boundsPanic _ _ _ _
    | with_reducible exact Nice.asIntOf _
    | with_reducible exact Nice.asInt _
    | with_reducible exact Nice.asBool _
    | with_reducible exact Nice.asAddr _
    | with_reducible exact Nice.sureAddr _
    | with_reducible exact Nice.loadAt _ _
    | with_reducible exact Nice.storeAt _ _ _
    | with_reducible exact Nice.indexAt _ _ _
    | with_reducible exact Nice.sliceBound _ _ _
    | with_reducible exact Nice.sliceBounds _ _ _ _ _ _
    | with_reducible exact Nice.slice _ _ _ _ _
    | with_reducible exact Nice.sliceAt _ _ _ _ _
    | with_reducible exact Nice.makeSlice _ _ _
    | with_reducible exact Nice.buildSlice _ _ _
    | with_reducible exact Nice.box _ _
    | with_reducible exact Nice.alloc _ _ _
    | with_reducible exact Nice.extract _ _
    | with_reducible exact Nice.makeInterface _ _
    | with_reducible exact Nice.len_ _ _ _
    | with_reducible exact Nice.cap_ _ _ _
    | with_reducible exact Nice.panic _
    | with_reducible exact Nice.firstCells _ _ _
    | with_reducible exact Nice.lenOf _
    | with_reducible exact Nice.append_ _ _ _
    | with_reducible exact Nice.noView _
    | with_reducible exact Nice.numberAt _
    | with_reducible exact Nice.asNumber _ _
    | with_reducible exact Nice.behindNumber _
    | with_reducible exact Nice.byteOf _
    | with_reducible exact Nice.sameAddr _ _
    | with_reducible exact Nice.samePointer _ _
    | with_reducible exact unsafeAdd_shape _ _ _ _
    | with_reducible exact Nice.movedNumber _ _ _
    | with_reducible exact Nice.movedPointer _ _ _
    | with_reducible exact Nice.twoPlaces _ _
    | with_reducible exact Nice.addrSub _ _ _
    | with_reducible exact Nice.addrCmp _ _ _
    | with_reducible exact Nice.addrMod _ _ _
    | with_reducible exact Nice.intArith _ _ _ _
    | with_reducible exact Nice.intDiv _ _ _ _
    | with_reducible exact Nice.intBits _ _ _ _
    | with_reducible exact Nice.intCmp _ _ _
    | with_reducible exact Nice.shift _ _ _ _ _
    | with_reducible exact Nice.floatArith _ _ _ _
    | with_reducible exact Nice.floatCmp _ _ _ _
    | (with_reducible refine Nice.bind ?_ (fun _ => ?_))
    | (with_reducible refine Nice.ite ?_ ?_)
    | (refine Nice.map ?_)
    | split
    | dsimp only)
theorem Nice.stringOp (b : BinOp) (x y : ByteArray) : Nice P D (Op.stringOp b x y) := by
  unfold Op.stringOp
  repeat' (first
    | with_reducible exact Nice.pure _
    | with_reducible exact Nice.pure' _
    | with_reducible exact Nice.stuck _
    | with_reducible exact Nice.goPanic _
    | (with_reducible refine Nice.unsupported ?_); trivial
    | with_reducible exact Nice.program
    | with_reducible exact Nice.choose _
    | with_reducible exact Nice.load _ _
    | with_reducible exact Nice.store _ _ _
    | with_reducible exact Nice.frozen _
    | with_reducible exact Nice.askRoom _
    | with_reducible exact Nice.noRoom
    | exact Nice.newObj (fun _ _ h => by cases h)
    | with_reducible exact Nice.typeInfo _
    | with_reducible exact Nice.underlying _
    | with_reducible exact Nice.typeStr _
    | with_reducible exact Nice.zeroValue _
    | with_reducible exact Nice.sizeOf _
    | with_reducible exact Nice.isAgg _
    | with_reducible exact Nice.loadCells _ _
    | with_reducible exact Nice.storeCells _ _ _
    | with_reducible exact Nice.loadVar _ _
    | with_reducible exact Nice.storeVar _ _ _
    | with_reducible exact Nice.newRow _ _
    | with_reducible exact Nice.newVar _ _
    | with_reducible exact Nice.elemOf _
    | with_reducible exact Nice.part _ _ _
    | with_reducible exact Nice.runtimePanic _
    | with_reducible exact Nice.boundsPanic _ _ _ _
    | with_reducible exact Nice.asIntOf _
    | with_reducible exact Nice.asInt _
    | with_reducible exact Nice.asBool _
    | with_reducible exact Nice.asAddr _
    | with_reducible exact Nice.sureAddr _
    | with_reducible exact Nice.loadAt _ _
    | with_reducible exact Nice.storeAt _ _ _
    | with_reducible exact Nice.indexAt _ _ _
    | with_reducible exact Nice.sliceBound _ _ _
    | with_reducible exact Nice.sliceBounds _ _ _ _ _ _
    | with_reducible exact Nice.slice _ _ _ _ _
    | with_reducible exact Nice.sliceAt _ _ _ _ _
    | with_reducible exact Nice.makeSlice _ _ _
    | with_reducible exact Nice.buildSlice _ _ _
    | with_reducible exact Nice.box _ _
    | with_reducible exact Nice.alloc _ _ _
    | with_reducible exact Nice.extract _ _
    | with_reducible exact Nice.makeInterface _ _
    | with_reducible exact Nice.len_ _ _ _
    | with_reducible exact Nice.cap_ _ _ _
    | with_reducible exact Nice.panic _
    | with_reducible exact Nice.firstCells _ _ _
    | with_reducible exact Nice.lenOf _
    | with_reducible exact Nice.append_ _ _ _
    | with_reducible exact Nice.noView _
    | with_reducible exact Nice.numberAt _
    | with_reducible exact Nice.asNumber _ _
    | with_reducible exact Nice.behindNumber _
    | with_reducible exact Nice.byteOf _
    | with_reducible exact Nice.sameAddr _ _
    | with_reducible exact Nice.samePointer _ _
    | with_reducible exact unsafeAdd_shape _ _ _ _
    | with_reducible exact Nice.movedNumber _ _ _
    | with_reducible exact Nice.movedPointer _ _ _
    | with_reducible exact Nice.twoPlaces _ _
    | with_reducible exact Nice.addrSub _ _ _
    | with_reducible exact Nice.addrCmp _ _ _
    | with_reducible exact Nice.addrMod _ _ _
    | with_reducible exact Nice.intArith _ _ _ _
    | with_reducible exact Nice.intDiv _ _ _ _
    | with_reducible exact Nice.intBits _ _ _ _
    | with_reducible exact Nice.intCmp _ _ _
    | with_reducible exact Nice.shift _ _ _ _ _
    | with_reducible exact Nice.floatArith _ _ _ _
    | with_reducible exact Nice.floatCmp _ _ _ _
    | with_reducible exact Nice.floatToFloat _ _ _
    | (with_reducible refine Nice.bind ?_ (fun _ => ?_))
    | (with_reducible refine Nice.ite ?_ ?_)
    | (refine Nice.map ?_)
    | split
    | dsimp only)
theorem Nice.cArith (b : BinOp) (k : FloatKind) (x y : Nat) : Nice P D (Op.Complex.arith b k x y) := by
  unfold Op.Complex.arith
  repeat' (first
    | with_reducible exact Nice.pure _
    | with_reducible exact Nice.pure' _
    | with_reducible exact Nice.stuck _
    | with_reducible exact Nice.goPanic _
    | (with_reducible refine Nice.unsupported ?_); trivial
    | with_reducible exact Nice.program
    | with_reducible exact Nice.choose _
    | with_reducible exact Nice.load _ _
    | with_reducible exact Nice.store _ _ _
    | with_reducible exact Nice.frozen _
    | with_reducible exact Nice.askRoom _
    | with_reducible exact Nice.noRoom
    | exact Nice.newObj (fun _ _ h => by cases h)
    | with_reducible exact Nice.typeInfo _
    | with_reducible exact Nice.underlying _
    | with_reducible exact Nice.typeStr _
    | with_reducible exact Nice.zeroValue _
    | with_reducible exact Nice.sizeOf _
    | with_reducible exact Nice.isAgg _
    | with_reducible exact Nice.loadCells _ _
    | with_reducible exact Nice.storeCells _ _ _
    | with_reducible exact Nice.loadVar _ _
    | with_reducible exact Nice.storeVar _ _ _
    | with_reducible exact Nice.newRow _ _
    | with_reducible exact Nice.newVar _ _
    | with_reducible exact Nice.elemOf _
    | with_reducible exact Nice.part _ _ _
    | with_reducible exact Nice.runtimePanic _
    | with_reducible exact Nice.boundsPanic _ _ _ _
    | with_reducible exact Nice.asIntOf _
    | with_reducible exact Nice.asInt _
    | with_reducible exact Nice.asBool _
    | with_reducible exact Nice.asAddr _
    | with_reducible exact Nice.sureAddr _
    | with_reducible exact Nice.loadAt _ _
    | with_reducible exact Nice.storeAt _ _ _
    | with_reducible exact Nice.indexAt _ _ _
    | with_reducible exact Nice.sliceBound _ _ _
    | with_reducible exact Nice.sliceBounds _ _ _ _ _ _
    | with_reducible exact Nice.slice _ _ _ _ _
    | with_reducible exact Nice.sliceAt _ _ _ _ _
    | with_reducible exact Nice.makeSlice _ _ _
    | with_reducible exact Nice.buildSlice _ _ _
    | with_reducible exact Nice.box _ _
    | with_reducible exact Nice.alloc _ _ _
    | with_reducible exact Nice.extract _ _
    | with_reducible exact Nice.makeInterface _ _
    | with_reducible exact Nice.len_ _ _ _
    | with_reducible exact Nice.cap_ _ _ _
    | with_reducible exact Nice.panic _
    | with_reducible exact Nice.firstCells _ _ _
    | with_reducible exact Nice.lenOf _
    | with_reducible exact Nice.append_ _ _ _
    | with_reducible exact Nice.noView _
    | with_reducible exact Nice.numberAt _
    | with_reducible exact Nice.asNumber _ _
    | with_reducible exact Nice.behindNumber _
    | with_reducible exact Nice.byteOf _
    | with_reducible exact Nice.sameAddr _ _
    | with_reducible exact Nice.samePointer _ _
    | with_reducible exact unsafeAdd_shape _ _ _ _
    | with_reducible exact Nice.movedNumber _ _ _
    | with_reducible exact Nice.movedPointer _ _ _
    | with_reducible exact Nice.twoPlaces _ _
    | with_reducible exact Nice.addrSub _ _ _
    | with_reducible exact Nice.addrCmp _ _ _
    | with_reducible exact Nice.addrMod _ _ _
    | with_reducible exact Nice.intArith _ _ _ _
    | with_reducible exact Nice.intDiv _ _ _ _
    | with_reducible exact Nice.intBits _ _ _ _
    | with_reducible exact Nice.intCmp _ _ _
    | with_reducible exact Nice.shift _ _ _ _ _
    | with_reducible exact Nice.floatArith _ _ _ _
    | with_reducible exact Nice.floatCmp _ _ _ _
    | with_reducible exact Nice.floatToFloat _ _ _
    | with_reducible exact Nice.stringOp _ _ _
    | (with_reducible refine Nice.bind ?_ (fun _ => ?_))
    | (with_reducible refine Nice.ite ?_ ?_)
    | (refine Nice.map ?_)
    | split
    | dsimp only)
theorem Nice.cCmp (b : BinOp) (k : FloatKind) (x y : Nat) : Nice P D (Op.Complex.cmp b k x y) := by
  unfold Op.Complex.cmp
  repeat' (first
    | with_reducible exact Nice.pure _
    | with_reducible exact Nice.pure' _
    | with_reducible exact Nice.stuck _
    | with_reducible exact Nice.goPanic _
    | (with_reducible refine Nice.unsupported ?_); trivial
    | with_reducible exact Nice.program
    | with_reducible exact Nice.choose _
    | with_reducible exact Nice.load _ _
    | with_reducible exact Nice.store _ _ _
    | with_reducible exact Nice.frozen _
    | with_reducible exact Nice.askRoom _
    | with_reducible exact Nice.noRoom
    | exact Nice.newObj (fun _ _ h => by cases h)
    | with_reducible exact Nice.typeInfo _
    | with_reducible exact Nice.underlying _
    | with_reducible exact Nice.typeStr _
    | with_reducible exact Nice.zeroValue _
    | with_reducible exact Nice.sizeOf _
    | with_reducible exact Nice.isAgg _
    | with_reducible exact Nice.loadCells _ _
    | with_reducible exact Nice.storeCells _ _ _
    | with_reducible exact Nice.loadVar _ _
    | with_reducible exact Nice.storeVar _ _ _
    | with_reducible exact Nice.newRow _ _
    | with_reducible exact Nice.newVar _ _
    | with_reducible exact Nice.elemOf _
    | with_reducible exact Nice.part _ _ _
    | with_reducible exact Nice.runtimePanic _
    | with_reducible exact Nice.boundsPanic _ _ _ _
    | with_reducible exact Nice.asIntOf _
    | with_reducible exact Nice.asInt _
    | with_reducible exact Nice.asBool _
    | with_reducible exact Nice.asAddr _
    | with_reducible exact Nice.sureAddr _
    | with_reducible exact Nice.loadAt _ _
    | with_reducible exact Nice.storeAt _ _ _
    | with_reducible exact Nice.indexAt _ _ _
    | with_reducible exact Nice.sliceBound _ _ _
    | with_reducible exact Nice.sliceBounds _ _ _ _ _ _
    | with_reducible exact Nice.slice _ _ _ _ _
    | with_reducible exact Nice.sliceAt _ _ _ _ _
    | with_reducible exact Nice.makeSlice _ _ _
    | with_reducible exact Nice.buildSlice _ _ _
    | with_reducible exact Nice.box _ _
    | with_reducible exact Nice.alloc _ _ _
    | with_reducible exact Nice.extract _ _
    | with_reducible exact Nice.makeInterface _ _
    | with_reducible exact Nice.len_ _ _ _
    | with_reducible exact Nice.cap_ _ _ _
    | with_reducible exact Nice.panic _
    | with_reducible exact Nice.firstCells _ _ _
    | with_reducible exact Nice.lenOf _
    | with_reducible exact Nice.append_ _ _ _
    | with_reducible exact Nice.noView _
    | with_reducible exact Nice.numberAt _
    | with_reducible exact Nice.asNumber _ _
    | with_reducible exact Nice.behindNumber _
    | with_reducible exact Nice.byteOf _
    | with_reducible exact Nice.sameAddr _ _
    | with_reducible exact Nice.samePointer _ _
    | with_reducible exact unsafeAdd_shape _ _ _ _
    | with_reducible exact Nice.movedNumber _ _ _
    | with_reducible exact Nice.movedPointer _ _ _
    | with_reducible exact Nice.twoPlaces _ _
    | with_reducible exact Nice.addrSub _ _ _
    | with_reducible exact Nice.addrCmp _ _ _
    | with_reducible exact Nice.addrMod _ _ _
    | with_reducible exact Nice.intArith _ _ _ _
    | with_reducible exact Nice.intDiv _ _ _ _
    | with_reducible exact Nice.intBits _ _ _ _
    | with_reducible exact Nice.intCmp _ _ _
    | with_reducible exact Nice.shift _ _ _ _ _
    | with_reducible exact Nice.floatArith _ _ _ _
    | with_reducible exact Nice.floatCmp _ _ _ _
    | with_reducible exact Nice.floatToFloat _ _ _
    | with_reducible exact Nice.stringOp _ _ _
    | with_reducible exact Nice.cArith _ _ _ _
    | (with_reducible refine Nice.bind ?_ (fun _ => ?_))
    | (with_reducible refine Nice.ite ?_ ?_)
    | (refine Nice.map ?_)
    | split
    | dsimp only)
theorem Nice.cConv (a : FloatKind) (b : Nat) (c : FloatKind) : Nice P D (Op.Complex.conv a b c) := by
  unfold Op.Complex.conv
  repeat' (first
    | with_reducible exact Nice.pure _
    | with_reducible exact Nice.pure' _
    | with_reducible exact Nice.stuck _
    | with_reducible exact Nice.goPanic _
    | (with_reducible refine Nice.unsupported ?_); trivial
    | with_reducible exact Nice.program
    | with_reducible exact Nice.choose _
    | with_reducible exact Nice.load _ _
    | with_reducible exact Nice.store _ _ _
    | with_reducible exact Nice.frozen _
    | with_reducible exact Nice.askRoom _
    | with_reducible exact Nice.noRoom
    | exact Nice.newObj (fun _ _ h => by cases h)
    | with_reducible exact Nice.typeInfo _
    | with_reducible exact Nice.underlying _
    | with_reducible exact Nice.typeStr _
    | with_reducible exact Nice.zeroValue _
    | with_reducible exact Nice.sizeOf _
    | with_reducible exact Nice.isAgg _
    | with_reducible exact Nice.loadCells _ _
    | with_reducible exact Nice.storeCells _ _ _
    | with_reducible exact Nice.loadVar _ _
    | with_reducible exact Nice.storeVar _ _ _
    | with_reducible exact Nice.newRow _ _
    | with_reducible exact Nice.newVar _ _
    | with_reducible exact Nice.elemOf _
    | with_reducible exact Nice.part _ _ _
    | with_reducible exact Nice.runtimePanic _
    | with_reducible exact Nice.boundsPanic _ _ _ _
    | with_reducible exact Nice.asIntOf _
    | with_reducible exact Nice.asInt _
    | with_reducible exact Nice.asBool _
    | with_reducible exact Nice.asAddr _
    | with_reducible exact Nice.sureAddr _
    | with_reducible exact Nice.loadAt _ _
    | with_reducible exact Nice.storeAt _ _ _
    | with_reducible exact Nice.indexAt _ _ _
    | with_reducible exact Nice.sliceBound _ _ _
    | with_reducible exact Nice.sliceBounds _ _ _ _ _ _
    | with_reducible exact Nice.slice _ _ _ _ _
    | with_reducible exact Nice.sliceAt _ _ _ _ _
    | with_reducible exact Nice.makeSlice _ _ _
    | with_reducible exact Nice.buildSlice _ _ _
    | with_reducible exact Nice.box _ _
    | with_reducible exact Nice.alloc _ _ _
    | with_reducible exact Nice.extract _ _
    | with_reducible exact Nice.makeInterface _ _
    | with_reducible exact Nice.len_ _ _ _
    | with_reducible exact Nice.cap_ _ _ _
    | with_reducible exact Nice.panic _
    | with_reducible exact Nice.firstCells _ _ _
    | with_reducible exact Nice.lenOf _
    | with_reducible exact Nice.append_ _ _ _
    | with_reducible exact Nice.noView _
    | with_reducible exact Nice.numberAt _
    | with_reducible exact Nice.asNumber _ _
    | with_reducible exact Nice.behindNumber _
    | with_reducible exact Nice.byteOf _
    | with_reducible exact Nice.sameAddr _ _
    | with_reducible exact Nice.samePointer _ _
    | with_reducible exact unsafeAdd_shape _ _ _ _
    | with_reducible exact Nice.movedNumber _ _ _
    | with_reducible exact Nice.movedPointer _ _ _
    | with_reducible exact Nice.twoPlaces _ _
    | with_reducible exact Nice.addrSub _ _ _
    | with_reducible exact Nice.addrCmp _ _ _
    | with_reducible exact Nice.addrMod _ _ _
    | with_reducible exact Nice.intArith _ _ _ _
    | with_reducible exact Nice.intDiv _ _ _ _
    | with_reducible exact Nice.intBits _ _ _ _
    | with_reducible exact Nice.intCmp _ _ _
    | with_reducible exact Nice.shift _ _ _ _ _
    | with_reducible exact Nice.floatArith _ _ _ _
    | with_reducible exact Nice.floatCmp _ _ _ _
    | with_reducible exact Nice.floatToFloat _ _ _
    | with_reducible exact Nice.stringOp _ _ _
    | with_reducible exact Nice.cArith _ _ _ _
    | with_reducible exact Nice.cCmp _ _ _ _
    | (with_reducible refine Nice.bind ?_ (fun _ => ?_))
    | (with_reducible refine Nice.ite ?_ ?_)
    | (refine Nice.map ?_)
    | split
    | dsimp only)
theorem Nice.c_add (x y : Nat) : Nice P D (Op.Complex.add x y) := Nice.cArith _ _ _ _
theorem Nice.c_sub (x y : Nat) : Nice P D (Op.Complex.sub x y) := Nice.cArith _ _ _ _
theorem Nice.c_mul (x y : Nat) : Nice P D (Op.Complex.mul x y) := Nice.cArith _ _ _ _
theorem Nice.c_quo (x y : Nat) : Nice P D (Op.Complex.quo x y) := Nice.cArith _ _ _ _
theorem Nice.cProduct (a b c d : Nat) : Nice P D (Op.Complex.product a b c d) := by
  unfold Op.Complex.product
  repeat' (first
    | with_reducible exact Nice.pure _
    | with_reducible exact Nice.pure' _
    | with_reducible exact Nice.stuck _
    | with_reducible exact Nice.goPanic _
    | (with_reducible refine Nice.unsupported ?_); trivial
    | with_reducible exact Nice.program
    | with_reducible exact Nice.choose _
    | with_reducible exact Nice.load _ _
    | with_reducible exact Nice.store _ _ _
    | with_reducible exact Nice.frozen _
    | with_reducible exact Nice.askRoom _
    | with_reducible exact Nice.noRoom
    | exact Nice.newObj (fun _ _ h => by cases h)
    | with_reducible exact Nice.typeInfo _
    | with_reducible exact Nice.underlying _
    | with_reducible exact Nice.typeStr _
    | with_reducible exact Nice.zeroValue _
    | with_reducible exact Nice.sizeOf _
    | with_reducible exact Nice.isAgg _
    | with_reducible exact Nice.loadCells _ _
    | with_reducible exact Nice.storeCells _ _ _
    | with_reducible exact Nice.loadVar _ _
    | with_reducible exact Nice.storeVar _ _ _
    | with_reducible exact Nice.newRow _ _
    | with_reducible exact Nice.newVar _ _
    | with_reducible exact Nice.elemOf _
    | with_reducible exact Nice.part _ _ _
    | with_reducible exact Nice.runtimePanic _
    | with_reducible exact Nice.boundsPanic _ _ _ _
    | with_reducible exact Nice.asIntOf _
    | with_reducible exact Nice.asInt _
    | with_reducible exact Nice.asBool _
    | with_reducible exact Nice.asAddr _
    | with_reducible exact Nice.sureAddr _
    | with_reducible exact Nice.loadAt _ _
    | with_reducible exact Nice.storeAt _ _ _
    | with_reducible exact Nice.indexAt _ _ _
    | with_reducible exact Nice.sliceBound _ _ _
    | with_reducible exact Nice.sliceBounds _ _ _ _ _ _
    | with_reducible exact Nice.slice _ _ _ _ _
    | with_reducible exact Nice.sliceAt _ _ _ _ _
    | with_reducible exact Nice.makeSlice _ _ _
    | with_reducible exact Nice.buildSlice _ _ _
    | with_reducible exact Nice.box _ _
    | with_reducible exact Nice.alloc _ _ _
    | with_reducible exact Nice.extract _ _
    | with_reducible exact Nice.makeInterface _ _
    | with_reducible exact Nice.len_ _ _ _
    | with_reducible exact Nice.cap_ _ _ _
    | with_reducible exact Nice.panic _
    | with_reducible exact Nice.firstCells _ _ _
    | with_reducible exact Nice.lenOf _
    | with_reducible exact Nice.append_ _ _ _
    | with_reducible exact Nice.noView _
    | with_reducible exact Nice.numberAt _
    | with_reducible exact Nice.asNumber _ _
    | with_reducible exact Nice.behindNumber _
    | with_reducible exact Nice.byteOf _
    | with_reducible exact Nice.sameAddr _ _
    | with_reducible exact Nice.samePointer _ _
    | with_reducible exact unsafeAdd_shape _ _ _ _
    | with_reducible exact Nice.movedNumber _ _ _
    | with_reducible exact Nice.movedPointer _ _ _
    | with_reducible exact Nice.twoPlaces _ _
    | with_reducible exact Nice.addrSub _ _ _
    | with_reducible exact Nice.addrCmp _ _ _
    | with_reducible exact Nice.addrMod _ _ _
    | with_reducible exact Nice.intArith _ _ _ _
    | with_reducible exact Nice.intDiv _ _ _ _
    | with_reducible exact Nice.intBits _ _ _ _
    | with_reducible exact Nice.intCmp _ _ _
    | with_reducible exact Nice.shift _ _ _ _ _
    | with_reducible exact Nice.floatArith _ _ _ _
    | with_reducible exact Nice.floatCmp _ _ _ _
    | with_reducible exact Nice.floatToFloat _ _ _
    | with_reducible exact Nice.stringOp _ _ _
    | with_reducible exact Nice.cArith _ _ _ _
    | with_reducible exact Nice.cCmp _ _ _ _
    | with_reducible exact Nice.cConv _ _ _
    | with_reducible exact Nice.c_add _ _
    | with_reducible exact Nice.c_sub _ _
    | with_reducible exact Nice.c_mul _ _
    | with_reducible exact Nice.c_quo _ _
    | (with_reducible refine Nice.bind ?_ (fun _ => ?_))
    | (with_reducible refine Nice.ite ?_ ?_)
    | (refine Nice.map ?_)
    | split
    | dsimp only)
theorem Nice.cCorrected (s a b c d : Nat) : Nice P D (Op.Complex.corrected s a b c d) := by
  unfold Op.Complex.corrected
  repeat' (first
    | with_reducible exact Nice.pure _
    | with_reducible exact Nice.pure' _
    | with_reducible exact Nice.stuck _
    | with_reducible exact Nice.goPanic _
    | (with_reducible refine Nice.unsupported ?_); trivial
    | with_reducible exact Nice.program
    | with_reducible exact Nice.choose _
    | with_reducible exact Nice.load _ _
    | with_reducible exact Nice.store _ _ _
    | with_reducible exact Nice.frozen _
    | with_reducible exact Nice.askRoom _
    | with_reducible exact Nice.noRoom
    | exact Nice.newObj (fun _ _ h => by cases h)
    | with_reducible exact Nice.typeInfo _
    | with_reducible exact Nice.underlying _
    | with_reducible exact Nice.typeStr _
    | with_reducible exact Nice.zeroValue _
    | with_reducible exact Nice.sizeOf _
    | with_reducible exact Nice.isAgg _
    | with_reducible exact Nice.loadCells _ _
    | with_reducible exact Nice.storeCells _ _ _
    | with_reducible exact Nice.loadVar _ _
    | with_reducible exact Nice.storeVar _ _ _
    | with_reducible exact Nice.newRow _ _
    | with_reducible exact Nice.newVar _ _
    | with_reducible exact Nice.elemOf _
    | with_reducible exact Nice.part _ _ _
    | with_reducible exact Nice.runtimePanic _
    | with_reducible exact Nice.boundsPanic _ _ _ _
    | with_reducible exact Nice.asIntOf _
    | with_reducible exact Nice.asInt _
    | with_reducible exact Nice.asBool _
    | with_reducible exact Nice.asAddr _
    | with_reducible exact Nice.sureAddr _
    | with_reducible exact Nice.loadAt _ _
    | with_reducible exact Nice.storeAt _ _ _
    | with_reducible exact Nice.indexAt _ _ _
    | with_reducible exact Nice.sliceBound _ _ _
    | with_reducible exact Nice.sliceBounds _ _ _ _ _ _
    | with_reducible exact Nice.slice _ _ _ _ _
    | with_reducible exact Nice.sliceAt _ _ _ _ _
    | with_reducible exact Nice.makeSlice _ _ _
    | with_reducible exact Nice.buildSlice _ _ _
    | with_reducible exact Nice.box _ _
    | with_reducible exact Nice.alloc _ _ _
    | with_reducible exact Nice.extract _ _
    | with_reducible exact Nice.makeInterface _ _
    | with_reducible exact Nice.len_ _ _ _
    | with_reducible exact Nice.cap_ _ _ _
    | with_reducible exact Nice.panic _
    | with_reducible exact Nice.firstCells _ _ _
    | with_reducible exact Nice.lenOf _
    | with_reducible exact Nice.append_ _ _ _
    | with_reducible exact Nice.noView _
    | with_reducible exact Nice.numberAt _
    | with_reducible exact Nice.asNumber _ _
    | with_reducible exact Nice.behindNumber _
    | with_reducible exact Nice.byteOf _
    | with_reducible exact Nice.sameAddr _ _
    | with_reducible exact Nice.samePointer _ _
    | with_reducible exact unsafeAdd_shape _ _ _ _
    | with_reducible exact Nice.movedNumber _ _ _
    | with_reducible exact Nice.movedPointer _ _ _
    | with_reducible exact Nice.twoPlaces _ _
    | with_reducible exact Nice.addrSub _ _ _
    | with_reducible exact Nice.addrCmp _ _ _
    | with_reducible exact Nice.addrMod _ _ _
    | with_reducible exact Nice.intArith _ _ _ _
    | with_reducible exact Nice.intDiv _ _ _ _
    | with_reducible exact Nice.intBits _ _ _ _
    | with_reducible exact Nice.intCmp _ _ _
    | with_reducible exact Nice.shift _ _ _ _ _
    | with_reducible exact Nice.floatArith _ _ _ _
    | with_reducible exact Nice.floatCmp _ _ _ _
    | with_reducible exact Nice.floatToFloat _ _ _
    | with_reducible exact Nice.stringOp _ _ _
    | with_reducible exact Nice.cArith _ _ _ _
    | with_reducible exact Nice.cCmp _ _ _ _
    | with_reducible exact Nice.cConv _ _ _
    | with_reducible exact Nice.c_add _ _
    | with_reducible exact Nice.c_sub _ _
    | with_reducible exact Nice.c_mul _ _
    | with_reducible exact Nice.c_quo _ _
    | with_reducible exact Nice.cProduct _ _ _ _
    | (with_reducible refine Nice.bind ?_ (fun _ => ?_))
    | (with_reducible refine Nice.ite ?_ ?_)
    | (refine Nice.map ?_)
    | split
    | dsimp only)
theorem Nice.cQuotient (a b c d : Nat) : Nice P D (Op.Complex.quotient a b c d) := by
  unfold Op.Complex.quotient
  repeat' (first
    | with_reducible exact Nice.pure _
    | with_reducible exact Nice.pure' _
    | with_reducible exact Nice.stuck _
    | with_reducible exact Nice.goPanic _
    | (with_reducible refine Nice.unsupported ?_); trivial
    | with_reducible exact Nice.program
    | with_reducible exact Nice.choose _
    | with_reducible exact Nice.load _ _
    | with_reducible exact Nice.store _ _ _
    | with_reducible exact Nice.frozen _
    | with_reducible exact Nice.askRoom _
    | with_reducible exact Nice.noRoom
    | exact Nice.newObj (fun _ _ h => by cases h)
    | with_reducible exact Nice.typeInfo _
    | with_reducible exact Nice.underlying _
    | with_reducible exact Nice.typeStr _
    | with_reducible exact Nice.zeroValue _
    | with_reducible exact Nice.sizeOf _
    | with_reducible exact Nice.isAgg _
    | with_reducible exact Nice.loadCells _ _
    | with_reducible exact Nice.storeCells _ _ _
    | with_reducible exact Nice.loadVar _ _
    | with_reducible exact Nice.storeVar _ _ _
    | with_reducible exact Nice.newRow _ _
    | with_reducible exact Nice.newVar _ _
    | with_reducible exact Nice.elemOf _
    | with_reducible exact Nice.part _ _ _
    | with_reducible exact Nice.runtimePanic _
    | with_reducible exact Nice.boundsPanic _ _ _ _
    | with_reducible exact Nice.asIntOf _
    | with_reducible exact Nice.asInt _
    | with_reducible exact Nice.asBool _
    | with_reducible exact Nice.asAddr _
    | with_reducible exact Nice.sureAddr _
    | with_reducible exact Nice.loadAt _ _
    | with_reducible exact Nice.storeAt _ _ _
    | with_reducible exact Nice.indexAt _ _ _
    | with_reducible exact Nice.sliceBound _ _ _
    | with_reducible exact Nice.sliceBounds _ _ _ _ _ _
    | with_reducible exact Nice.slice _ _ _ _ _
    | with_reducible exact Nice.sliceAt _ _ _ _ _
    | with_reducible exact Nice.makeSlice _ _ _
    | with_reducible exact Nice.buildSlice _ _ _
    | with_reducible exact Nice.box _ _
    | with_reducible exact Nice.alloc _ _ _
    | with_reducible exact Nice.extract _ _
    | with_reducible exact Nice.makeInterface _ _
    | with_reducible exact Nice.len_ _ _ _
    | with_reducible exact Nice.cap_ _ _ _
    | with_reducible exact Nice.panic _
    | with_reducible exact Nice.firstCells _ _ _
    | with_reducible exact Nice.lenOf _
    | with_reducible exact Nice.append_ _ _ _
    | with_reducible exact Nice.noView _
    | with_reducible exact Nice.numberAt _
    | with_reducible exact Nice.asNumber _ _
    | with_reducible exact Nice.behindNumber _
    | with_reducible exact Nice.byteOf _
    | with_reducible exact Nice.sameAddr _ _
    | with_reducible exact Nice.samePointer _ _
    | with_reducible exact unsafeAdd_shape _ _ _ _
    | with_reducible exact Nice.movedNumber _ _ _
    | with_reducible exact Nice.movedPointer _ _ _
    | with_reducible exact Nice.twoPlaces _ _
    | with_reducible exact Nice.addrSub _ _ _
    | with_reducible exact Nice.addrCmp _ _ _
    | with_reducible exact Nice.addrMod _ _ _
    | with_reducible exact Nice.intArith _ _ _ _
    | with_reducible exact Nice.intDiv _ _ _ _
    | with_reducible exact Nice.intBits _ _ _ _
    | with_reducible exact Nice.intCmp _ _ _
    | with_reducible exact Nice.shift _ _ _ _ _
    | with_reducible exact Nice.floatArith _ _ _ _
    | with_reducible exact Nice.floatCmp _ _ _ _
    | with_reducible exact Nice.floatToFloat _ _ _
    | with_reducible exact Nice.stringOp _ _ _
    | with_reducible exact Nice.cArith _ _ _ _
    | with_reducible exact Nice.cCmp _ _ _ _
    | with_reducible exact Nice.cConv _ _ _
    | with_reducible exact Nice.c_add _ _
    | with_reducible exact Nice.c_sub _ _
    | with_reducible exact Nice.c_mul _ _
    | with_reducible exact Nice.c_quo _ _
    | with_reducible exact Nice.cProduct _ _ _ _
    | with_reducible exact Nice.cCorrected _ _ _ _ _
    | (with_reducible refine Nice.bind ?_ (fun _ => ?_))
    | (with_reducible refine Nice.ite ?_ ?_)
    | (refine Nice.map ?_)
    | split
    | dsimp only)
theorem Nice.complexOp (b : BinOp) (k : FloatKind) (x y z t : Nat) : Nice P D (Op.complexOp b k x y z t) := by
  unfold Op.complexOp
  repeat' (first
    | with_reducible exact Nice.pure _
    | with_reducible exact Nice.pure' _
    | with_reducible exact Nice.stuck _
    | with_reducible exact Nice.goPanic _
    | (with_reducible refine Nice.unsupported ?_); trivial
    | with_reducible exact Nice.program
    | with_reducible exact Nice.choose _
    | with_reducible exact Nice.load _ _
    | with_reducible exact Nice.store _ _ _
    | with_reducible exact Nice.frozen _
    | with_reducible exact Nice.askRoom _
    | with_reducible exact Nice.noRoom
    | exact Nice.newObj (fun _ _ h => by cases h)
    | with_reducible exact Nice.typeInfo _
    | with_reducible exact Nice.underlying _
    | with_reducible exact Nice.typeStr _
    | with_reducible exact Nice.zeroValue _
    | with_reducible exact Nice.sizeOf _
    | with_reducible exact Nice.isAgg _
    | with_reducible exact Nice.loadCells _ _
    | with_reducible exact Nice.storeCells _ _ _
    | with_reducible exact Nice.loadVar _ _
    | with_reducible exact Nice.storeVar _ _ _
    | with_reducible exact Nice.newRow _ _
    | with_reducible exact Nice.newVar _ _
    | with_reducible exact Nice.elemOf _
    | with_reducible exact Nice.part _ _ _
    | with_reducible exact Nice.runtimePanic _
    | with_reducible exact Nice.boundsPanic _ _ _ _
    | with_reducible exact Nice.asIntOf _
    | with_reducible exact Nice.asInt _
    | with_reducible exact Nice.asBool _
    | with_reducible exact Nice.asAddr _
    | with_reducible exact Nice.sureAddr _
    | with_reducible exact Nice.loadAt _ _
    | with_reducible exact Nice.storeAt _ _ _
    | with_reducible exact Nice.indexAt _ _ _
    | with_reducible exact Nice.sliceBound _ _ _
    | with_reducible exact Nice.sliceBounds _ _ _ _ _ _
    | with_reducible exact Nice.slice _ _ _ _ _
    | with_reducible exact Nice.sliceAt _ _ _ _ _
    | with_reducible exact Nice.makeSlice _ _ _
    | with_reducible exact Nice.buildSlice _ _ _
    | with_reducible exact Nice.box _ _
    | with_reducible exact Nice.alloc _ _ _
    | with_reducible exact Nice.extract _ _
    | with_reducible exact Nice.makeInterface _ _
    | with_reducible exact Nice.len_ _ _ _
    | with_reducible exact Nice.cap_ _ _ _
    | with_reducible exact Nice.panic _
    | with_reducible exact Nice.firstCells _ _ _
    | with_reducible exact Nice.lenOf _
    | with_reducible exact Nice.append_ _ _ _
    | with_reducible exact Nice.noView _
    | with_reducible exact Nice.numberAt _
    | with_reducible exact Nice.asNumber _ _
    | with_reducible exact Nice.behindNumber _
    | with_reducible exact Nice.byteOf _
    | with_reducible exact Nice.sameAddr _ _
    | with_reducible exact Nice.samePointer _ _
    | with_reducible exact unsafeAdd_shape _ _ _ _
    | with_reducible exact Nice.movedNumber _ _ _
    | with_reducible exact Nice.movedPointer _ _ _
    | with_reducible exact Nice.twoPlaces _ _
    | with_reducible exact Nice.addrSub _ _ _
    | with_reducible exact Nice.addrCmp _ _ _
    | with_reducible exact Nice.addrMod _ _ _
    | with_reducible exact Nice.intArith _ _ _ _
    | with_reducible exact Nice.intDiv _ _ _ _
    | with_reducible exact Nice.intBits _ _ _ _
    | with_reducible exact Nice.intCmp _ _ _
    | with_reducible exact Nice.shift _ _ _ _ _
    | with_reducible exact Nice.floatArith _ _ _ _
    | with_reducible exact Nice.floatCmp _ _ _ _
    | with_reducible exact Nice.floatToFloat _ _ _
    | with_reducible exact Nice.stringOp _ _ _
    | with_reducible exact Nice.cArith _ _ _ _
    | with_reducible exact Nice.cCmp _ _ _ _
    | with_reducible exact Nice.cConv _ _ _
    | with_reducible exact Nice.c_add _ _
    | with_reducible exact Nice.c_sub _ _
    | with_reducible exact Nice.c_mul _ _
    | with_reducible exact Nice.c_quo _ _
    | with_reducible exact Nice.cProduct _ _ _ _
    | with_reducible exact Nice.cCorrected _ _ _ _ _
    | with_reducible exact Nice.cQuotient _ _ _ _
    | (with_reducible refine Nice.bind ?_ (fun _ => ?_))
    | (with_reducible refine Nice.ite ?_ ?_)
    | (refine Nice.map ?_)
    | split
    | dsimp only)
theorem Nice.unary (b : UnOp) (x : Value) : Nice P D (Op.unary b x) := by
  unfold Op.unary
  repeat' (first
    | with_reducible exact Nice.pure _
    | with_reducible exact Nice.pure' _
    | with_reducible exact Nice.stuck _
    | with_reducible exact Nice.goPanic _
    | (with_reducible refine Nice.unsupported ?_); trivial
    | with_reducible exact Nice.program
    | with_reducible exact Nice.choose _
    | with_reducible exact Nice.load _ _
    | with_reducible exact Nice.store _ _ _
    | with_reducible exact Nice.frozen _
    | with_reducible exact Nice.askRoom _
    | with_reducible exact Nice.noRoom
    | exact Nice.newObj (fun _ _ h => by cases h)
    | with_reducible exact Nice.typeInfo _
    | with_reducible exact Nice.underlying _
    | with_reducible exact Nice.typeStr _
    | with_reducible exact Nice.zeroValue _
    | with_reducible exact Nice.sizeOf _
    | with_reducible exact Nice.isAgg _
    | with_reducible exact Nice.loadCells _ _
    | with_reducible exact Nice.storeCells _ _ _
    | with_reducible exact Nice.loadVar _ _
    | with_reducible exact Nice.storeVar _ _ _
    | with_reducible exact Nice.newRow _ _
    | with_reducible exact Nice.newVar _ _
    | with_reducible exact Nice.elemOf _
    | with_reducible exact Nice.part _ _ _
    | with_reducible exact Nice.runtimePanic _
    | with_reducible exact Nice.boundsPanic _ _ _ _
    | with_reducible exact Nice.asIntOf _
    | with_reducible exact Nice.asInt _
    | with_reducible exact Nice.asBool _
    | with_reducible exact Nice.asAddr _
    | with_reducible exact Nice.sureAddr _
    | with_reducible exact Nice.loadAt _ _
    | with_reducible exact Nice.storeAt _ _ _
    | with_reducible exact Nice.indexAt _ _ _
    | with_reducible exact Nice.sliceBound _ _ _
    | with_reducible exact Nice.sliceBounds _ _ _ _ _ _
    | with_reducible exact Nice.slice _ _ _ _ _
    | with_reducible exact Nice.sliceAt _ _ _ _ _
    | with_reducible exact Nice.makeSlice _ _ _
    | with_reducible exact Nice.buildSlice _ _ _
    | with_reducible exact Nice.box _ _
    | with_reducible exact Nice.alloc _ _ _
    | with_reducible exact Nice.extract _ _
    | with_reducible exact Nice.makeInterface _ _
    | with_reducible exact Nice.len_ _ _ _
    | with_reducible exact Nice.cap_ _ _ _
    | with_reducible exact Nice.panic _
    | with_reducible exact Nice.firstCells _ _ _
    | with_reducible exact Nice.lenOf _
    | with_reducible exact Nice.append_ _ _ _
    | with_reducible exact Nice.noView _
    | with_reducible exact Nice.numberAt _
    | with_reducible exact Nice.asNumber _ _
    | with_reducible exact Nice.behindNumber _
    | with_reducible exact Nice.byteOf _
    | with_reducible exact Nice.sameAddr _ _
    | with_reducible exact Nice.samePointer _ _
    | with_reducible exact unsafeAdd_shape _ _ _ _
    | with_reducible exact Nice.movedNumber _ _ _
    | with_reducible exact Nice.movedPointer _ _ _
    | with_reducible exact Nice.twoPlaces _ _
    | with_reducible exact Nice.addrSub _ _ _
    | with_reducible exact Nice.addrCmp _ _ _
    | with_reducible exact Nice.addrMod _ _ _
    | with_reducible exact Nice.intArith _ _ _ _
    | with_reducible exact Nice.intDiv _ _ _ _
    | with_reducible exact Nice.intBits _ _ _ _
    | with_reducible exact Nice.intCmp _ _ _
    | with_reducible exact Nice.shift _ _ _ _ _
    | with_reducible exact Nice.floatArith _ _ _ _
    | with_reducible exact Nice.floatCmp _ _ _ _
    | with_reducible exact Nice.floatToFloat _ _ _
    | with_reducible exact Nice.stringOp _ _ _
    | with_reducible exact Nice.cArith _ _ _ _
    | with_reducible exact Nice.cCmp _ _ _ _
    | with_reducible exact Nice.cConv _ _ _
    | with_reducible exact Nice.c_add _ _
    | with_reducible exact Nice.c_sub _ _
    | with_reducible exact Nice.c_mul _ _
    | with_reducible exact Nice.c_quo _ _
    | with_reducible exact Nice.cProduct _ _ _ _
    | with_reducible exact Nice.cCorrected _ _ _ _ _
    | with_reducible exact Nice.cQuotient _ _ _ _
    | with_reducible exact Nice.complexOp _ _ _ _ _ _
    | (with_reducible refine Nice.bind ?_ (fun _ => ?_))
    | (with_reducible refine Nice.ite ?_ ?_)
    | (refine Nice.map ?_)
    | split
    | dsimp only)
theorem Nice.forIn_list {γ : Type} {f : γ → β → Sem (ForInStep β)} (hf : ∀ a s, Nice P D (f a s)) : ∀ (l : List γ) (s : β), Nice P D (forIn l s f)
  | [], s => by rw [List.forIn_nil]; exact .pure _
  | a :: l, s => by
    rw [List.forIn_cons]
    refine (hf a s).bind fun r => ?_
    split
    · exact .pure _
    · exact Nice.forIn_list hf l _
theorem Nice.forIn_array {γ : Type} {f : γ → β → Sem (ForInStep β)} (hf : ∀ a s, Nice P D (f a s)) (l : Array γ) (s : β) : Nice P D (forIn l s f) := by
  rw [← Array.forIn_toList]
  exact Nice.forIn_list hf _ _
theorem Nice.forIn_range {f : Nat → β → Sem (ForInStep β)} (hf : ∀ a s, Nice P D (f a s)) (r : Std.Legacy.Range) (s : β) : Nice P D (forIn r s f) := by
  rw [Std.Legacy.Range.forIn_eq_forIn_range']
  exact Nice.forIn_list hf _ _

theorem Nice.equalIn : ∀ (d : Nat) (t : TypeId) (x y : Value), Nice P D (Op.equalIn d t x y)
  | 0, _, _, _ => by unfold Op.equalIn; exact Nice.unsupported (x := .resourceLimit _) trivial
  | d + 1, t, x, y => by
    have ih := Nice.equalIn d
    unfold Op.equalIn
    repeat' (first
      | with_reducible exact ih _ _ _
      | with_reducible (refine Nice.forIn_array (fun _ _ => ?_) _ _)
      | with_reducible (refine Nice.forIn_list (fun _ _ => ?_) _ _)
      | with_reducible (refine Nice.forIn_range (fun _ _ => ?_) _ _)
      | with_reducible exact Nice.pure _
      | with_reducible exact Nice.pure' _
      | with_reducible exact Nice.stuck _
      | with_reducible exact Nice.goPanic _
      | (with_reducible refine Nice.unsupported ?_); trivial
      | with_reducible exact Nice.program
      | with_reducible exact Nice.choose _
      | with_reducible exact Nice.load _ _
      | with_reducible exact Nice.store _ _ _
      | with_reducible exact Nice.frozen _
      | with_reducible exact Nice.askRoom _
      | with_reducible exact Nice.noRoom
      | exact Nice.newObj (fun _ _ h => by cases h)
      | with_reducible exact Nice.typeInfo _
      | with_reducible exact Nice.underlying _
      | with_reducible exact Nice.typeStr _
      | with_reducible exact Nice.zeroValue _
      | with_reducible exact Nice.sizeOf _
      | with_reducible exact Nice.isAgg _
      | with_reducible exact Nice.loadCells _ _
      | with_reducible exact Nice.storeCells _ _ _
      | with_reducible exact Nice.loadVar _ _
      | with_reducible exact Nice.storeVar _ _ _
      | with_reducible exact Nice.newRow _ _
      | with_reducible exact Nice.newVar _ _
      | with_reducible exact Nice.elemOf _
      | with_reducible exact Nice.part _ _ _
      | with_reducible exact Nice.runtimePanic _
      | with_reducible exact Nice.boundsPanic _ _ _ _
      | with_reducible exact Nice.asIntOf _
      | with_reducible exact Nice.asInt _
      | with_reducible exact Nice.asBool _
      | with_reducible exact Nice.asAddr _
      | with_reducible exact Nice.sureAddr _
      | with_reducible exact Nice.loadAt _ _
      | with_reducible exact Nice.storeAt _ _ _
      | with_reducible exact Nice.indexAt _ _ _
      | with_reducible exact Nice.sliceBound _ _ _
      | with_reducible exact Nice.sliceBounds _ _ _ _ _ _
      | with_reducible exact Nice.slice _ _ _ _ _
      | with_reducible exact Nice.sliceAt _ _ _ _ _
      | with_reducible exact Nice.makeSlice _ _ _
      | with_reducible exact Nice.buildSlice _ _ _
      | with_reducible exact Nice.box _ _
      | with_reducible exact Nice.alloc _ _ _
      | with_reducible exact Nice.extract _ _
      | with_reducible exact Nice.makeInterface _ _
      | with_reducible exact Nice.len_ _ _ _
      | with_reducible exact Nice.cap_ _ _ _
      | with_reducible exact Nice.panic _
      | with_reducible exact Nice.firstCells _ _ _
      | with_reducible exact Nice.lenOf _
      | with_reducible exact Nice.append_ _ _ _
      | with_reducible exact Nice.noView _
      | with_reducible exact Nice.numberAt _
      | with_reducible exact Nice.asNumber _ _
      | with_reducible exact Nice.behindNumber _
      | with_reducible exact Nice.byteOf _
      | with_reducible exact Nice.sameAddr _ _
      | with_reducible exact Nice.samePointer _ _
      | with_reducible exact unsafeAdd_shape _ _ _ _
      | with_reducible exact Nice.movedNumber _ _ _
      | with_reducible exact Nice.movedPointer _ _ _
      | with_reducible exact Nice.twoPlaces _ _
      | with_reducible exact Nice.addrSub _ _ _
      | with_reducible exact Nice.addrCmp _ _ _
      | with_reducible exact Nice.addrMod _ _ _
      | with_reducible exact Nice.intArith _ _ _ _
      | with_reducible exact Nice.intDiv _ _ _ _
      | with_reducible exact Nice.intBits _ _ _ _
      | with_reducible exact Nice.intCmp _ _ _
      | with_reducible exact Nice.shift _ _ _ _ _
      | with_reducible exact Nice.floatArith _ _ _ _
      | with_reducible exact Nice.floatCmp _ _ _ _
      | with_reducible exact Nice.floatToFloat _ _ _
      | with_reducible exact Nice.stringOp _ _ _
      | with_reducible exact Nice.cArith _ _ _ _
      | with_reducible exact Nice.cCmp _ _ _ _
      | with_reducible exact Nice.cConv _ _ _
      | with_reducible exact Nice.c_add _ _
      | with_reducible exact Nice.c_sub _ _
      | with_reducible exact Nice.c_mul _ _
      | with_reducible exact Nice.c_quo _ _
      | with_reducible exact Nice.cProduct _ _ _ _
      | with_reducible exact Nice.cCorrected _ _ _ _ _
      | with_reducible exact Nice.cQuotient _ _ _ _
      | with_reducible exact Nice.complexOp _ _ _ _ _ _
      | with_reducible exact Nice.unary _ _
      | (with_reducible refine Nice.bind ?_ (fun _ => ?_))
      | (with_reducible refine Nice.ite ?_ ?_)
      | (refine Nice.map ?_)
      | split
      | dsimp only)
theorem Nice.equal (t : TypeId) (x y : Value) : Nice P D (Op.equal t x y) := by
  unfold Op.equal
  repeat' (first
    | with_reducible exact Nice.pure _
    | with_reducible exact Nice.pure' _
    | with_reducible exact Nice.stuck _
    | with_reducible exact Nice.goPanic _
    | (with_reducible refine Nice.unsupported ?_); trivial
    | with_reducible exact Nice.program
    | with_reducible exact Nice.choose _
    | with_reducible exact Nice.load _ _
    | with_reducible exact Nice.store _ _ _
    | with_reducible exact Nice.frozen _
    | with_reducible exact Nice.askRoom _
    | with_reducible exact Nice.noRoom
    | exact Nice.newObj (fun _ _ h => by cases h)
    | with_reducible exact Nice.typeInfo _
    | with_reducible exact Nice.underlying _
    | with_reducible exact Nice.typeStr _
    | with_reducible exact Nice.zeroValue _
    | with_reducible exact Nice.sizeOf _
    | with_reducible exact Nice.isAgg _
    | with_reducible exact Nice.loadCells _ _
    | with_reducible exact Nice.storeCells _ _ _
    | with_reducible exact Nice.loadVar _ _
    | with_reducible exact Nice.storeVar _ _ _
    | with_reducible exact Nice.newRow _ _
    | with_reducible exact Nice.newVar _ _
    | with_reducible exact Nice.elemOf _
    | with_reducible exact Nice.part _ _ _
    | with_reducible exact Nice.runtimePanic _
    | with_reducible exact Nice.boundsPanic _ _ _ _
    | with_reducible exact Nice.asIntOf _
    | with_reducible exact Nice.asInt _
    | with_reducible exact Nice.asBool _
    | with_reducible exact Nice.asAddr _
    | with_reducible exact Nice.sureAddr _
    | with_reducible exact Nice.loadAt _ _
    | with_reducible exact Nice.storeAt _ _ _
    | with_reducible exact Nice.indexAt _ _ _
    | with_reducible exact Nice.sliceBound _ _ _
    | with_reducible exact Nice.sliceBounds _ _ _ _ _ _
    | with_reducible exact Nice.slice _ _ _ _ _
    | with_reducible exact Nice.sliceAt _ _ _ _ _
    | with_reducible exact Nice.makeSlice _ _ _
    | with_reducible exact Nice.buildSlice _ _ _
    | with_reducible exact Nice.box _ _
    | with_reducible exact Nice.alloc _ _ _
    | with_reducible exact Nice.extract _ _
    | with_reducible exact Nice.makeInterface _ _
    | with_reducible exact Nice.len_ _ _ _
    | with_reducible exact Nice.cap_ _ _ _
    | with_reducible exact Nice.panic _
    | with_reducible exact Nice.firstCells _ _ _
    | with_reducible exact Nice.lenOf _
    | with_reducible exact Nice.append_ _ _ _
    | with_reducible exact Nice.noView _
    | with_reducible exact Nice.numberAt _
    | with_reducible exact Nice.asNumber _ _
    | with_reducible exact Nice.behindNumber _
    | with_reducible exact Nice.byteOf _
    | with_reducible exact Nice.sameAddr _ _
    | with_reducible exact Nice.samePointer _ _
    | with_reducible exact unsafeAdd_shape _ _ _ _
    | with_reducible exact Nice.movedNumber _ _ _
    | with_reducible exact Nice.movedPointer _ _ _
    | with_reducible exact Nice.twoPlaces _ _
    | with_reducible exact Nice.addrSub _ _ _
    | with_reducible exact Nice.addrCmp _ _ _
    | with_reducible exact Nice.addrMod _ _ _
    | with_reducible exact Nice.intArith _ _ _ _
    | with_reducible exact Nice.intDiv _ _ _ _
    | with_reducible exact Nice.intBits _ _ _ _
    | with_reducible exact Nice.intCmp _ _ _
    | with_reducible exact Nice.shift _ _ _ _ _
    | with_reducible exact Nice.floatArith _ _ _ _
    | with_reducible exact Nice.floatCmp _ _ _ _
    | with_reducible exact Nice.floatToFloat _ _ _
    | with_reducible exact Nice.stringOp _ _ _
    | with_reducible exact Nice.cArith _ _ _ _
    | with_reducible exact Nice.cCmp _ _ _ _
    | with_reducible exact Nice.cConv _ _ _
    | with_reducible exact Nice.c_add _ _
    | with_reducible exact Nice.c_sub _ _
    | with_reducible exact Nice.c_mul _ _
    | with_reducible exact Nice.c_quo _ _
    | with_reducible exact Nice.cProduct _ _ _ _
    | with_reducible exact Nice.cCorrected _ _ _ _ _
    | with_reducible exact Nice.cQuotient _ _ _ _
    | with_reducible exact Nice.complexOp _ _ _ _ _ _
    | with_reducible exact Nice.unary _ _
    | with_reducible exact Nice.equalIn _ _ _ _
    | (with_reducible refine Nice.bind ?_ (fun _ => ?_))
    | (with_reducible refine Nice.ite ?_ ?_)
    | (refine Nice.map ?_)
    | split
    | dsimp only)
theorem Nice.eqGuardIn : ∀ (d : Nat) (t : TypeId) (x y : Value), Nice P D (Op.eqGuardIn d t x y)
  | 0, _, _, _ => by unfold Op.eqGuardIn; exact Nice.unsupported (x := .resourceLimit _) trivial
  | d + 1, t, x, y => by
    have ih := Nice.eqGuardIn d
    unfold Op.eqGuardIn
    repeat' (first
      | with_reducible exact ih _ _ _
      | with_reducible (refine Nice.forIn_array (fun _ _ => ?_) _ _)
      | with_reducible (refine Nice.forIn_list (fun _ _ => ?_) _ _)
      | with_reducible (refine Nice.forIn_range (fun _ _ => ?_) _ _)
      | with_reducible exact Nice.pure _
      | with_reducible exact Nice.pure' _
      | with_reducible exact Nice.stuck _
      | with_reducible exact Nice.goPanic _
      | (with_reducible refine Nice.unsupported ?_); trivial
      | with_reducible exact Nice.program
      | with_reducible exact Nice.choose _
      | with_reducible exact Nice.load _ _
      | with_reducible exact Nice.store _ _ _
      | with_reducible exact Nice.frozen _
      | with_reducible exact Nice.askRoom _
      | with_reducible exact Nice.noRoom
      | exact Nice.newObj (fun _ _ h => by cases h)
      | with_reducible exact Nice.typeInfo _
      | with_reducible exact Nice.underlying _
      | with_reducible exact Nice.typeStr _
      | with_reducible exact Nice.zeroValue _
      | with_reducible exact Nice.sizeOf _
      | with_reducible exact Nice.isAgg _
      | with_reducible exact Nice.loadCells _ _
      | with_reducible exact Nice.storeCells _ _ _
      | with_reducible exact Nice.loadVar _ _
      | with_reducible exact Nice.storeVar _ _ _
      | with_reducible exact Nice.newRow _ _
      | with_reducible exact Nice.newVar _ _
      | with_reducible exact Nice.elemOf _
      | with_reducible exact Nice.part _ _ _
      | with_reducible exact Nice.runtimePanic _
      | with_reducible exact Nice.boundsPanic _ _ _ _
      | with_reducible exact Nice.asIntOf _
      | with_reducible exact Nice.asInt _
      | with_reducible exact Nice.asBool _
      | with_reducible exact Nice.asAddr _
      | with_reducible exact Nice.sureAddr _
      | with_reducible exact Nice.loadAt _ _
      | with_reducible exact Nice.storeAt _ _ _
      | with_reducible exact Nice.indexAt _ _ _
      | with_reducible exact Nice.sliceBound _ _ _
      | with_reducible exact Nice.sliceBounds _ _ _ _ _ _
      | with_reducible exact Nice.slice _ _ _ _ _
      | with_reducible exact Nice.sliceAt _ _ _ _ _
      | with_reducible exact Nice.makeSlice _ _ _
      | with_reducible exact Nice.buildSlice _ _ _
      | with_reducible exact Nice.box _ _
      | with_reducible exact Nice.alloc _ _ _
      | with_reducible exact Nice.extract _ _
      | with_reducible exact Nice.makeInterface _ _
      | with_reducible exact Nice.len_ _ _ _
      | with_reducible exact Nice.cap_ _ _ _
      | with_reducible exact Nice.panic _
      | with_reducible exact Nice.firstCells _ _ _
      | with_reducible exact Nice.lenOf _
      | with_reducible exact Nice.append_ _ _ _
      | with_reducible exact Nice.noView _
      | with_reducible exact Nice.numberAt _
      | with_reducible exact Nice.asNumber _ _
      | with_reducible exact Nice.behindNumber _
      | with_reducible exact Nice.byteOf _
      | with_reducible exact Nice.sameAddr _ _
      | with_reducible exact Nice.samePointer _ _
      | with_reducible exact unsafeAdd_shape _ _ _ _
      | with_reducible exact Nice.movedNumber _ _ _
      | with_reducible exact Nice.movedPointer _ _ _
      | with_reducible exact Nice.twoPlaces _ _
      | with_reducible exact Nice.addrSub _ _ _
      | with_reducible exact Nice.addrCmp _ _ _
      | with_reducible exact Nice.addrMod _ _ _
      | with_reducible exact Nice.intArith _ _ _ _
      | with_reducible exact Nice.intDiv _ _ _ _
      | with_reducible exact Nice.intBits _ _ _ _
      | with_reducible exact Nice.intCmp _ _ _
      | with_reducible exact Nice.shift _ _ _ _ _
      | with_reducible exact Nice.floatArith _ _ _ _
      | with_reducible exact Nice.floatCmp _ _ _ _
      | with_reducible exact Nice.floatToFloat _ _ _
      | with_reducible exact Nice.stringOp _ _ _
      | with_reducible exact Nice.cArith _ _ _ _
      | with_reducible exact Nice.cCmp _ _ _ _
      | with_reducible exact Nice.cConv _ _ _
      | with_reducible exact Nice.c_add _ _
      | with_reducible exact Nice.c_sub _ _
      | with_reducible exact Nice.c_mul _ _
      | with_reducible exact Nice.c_quo _ _
      | with_reducible exact Nice.cProduct _ _ _ _
      | with_reducible exact Nice.cCorrected _ _ _ _ _
      | with_reducible exact Nice.cQuotient _ _ _ _
      | with_reducible exact Nice.complexOp _ _ _ _ _ _
      | with_reducible exact Nice.unary _ _
      | with_reducible exact Nice.equalIn _ _ _ _
      | with_reducible exact Nice.equal _ _ _
      | (with_reducible refine Nice.bind ?_ (fun _ => ?_))
      | (with_reducible refine Nice.ite ?_ ?_)
      | (refine Nice.map ?_)
      | split
      | dsimp only)
theorem Nice.eqGuard (b : BinOp) (t : TypeId) (x y : Operand) (v w : Value) : Nice P D (Go.eqGuard b t x y v w) := by
  unfold Go.eqGuard
  repeat' (first
    | with_reducible exact Nice.pure _
    | with_reducible exact Nice.pure' _
    | with_reducible exact Nice.stuck _
    | with_reducible exact Nice.goPanic _
    | (with_reducible refine Nice.unsupported ?_); trivial
    | with_reducible exact Nice.program
    | with_reducible exact Nice.choose _
    | with_reducible exact Nice.load _ _
    | with_reducible exact Nice.store _ _ _
    | with_reducible exact Nice.frozen _
    | with_reducible exact Nice.askRoom _
    | with_reducible exact Nice.noRoom
    | exact Nice.newObj (fun _ _ h => by cases h)
    | with_reducible exact Nice.typeInfo _
    | with_reducible exact Nice.underlying _
    | with_reducible exact Nice.typeStr _
    | with_reducible exact Nice.zeroValue _
    | with_reducible exact Nice.sizeOf _
    | with_reducible exact Nice.isAgg _
    | with_reducible exact Nice.loadCells _ _
    | with_reducible exact Nice.storeCells _ _ _
    | with_reducible exact Nice.loadVar _ _
    | with_reducible exact Nice.storeVar _ _ _
    | with_reducible exact Nice.newRow _ _
    | with_reducible exact Nice.newVar _ _
    | with_reducible exact Nice.elemOf _
    | with_reducible exact Nice.part _ _ _
    | with_reducible exact Nice.runtimePanic _
    | with_reducible exact Nice.boundsPanic _ _ _ _
    | with_reducible exact Nice.asIntOf _
    | with_reducible exact Nice.asInt _
    | with_reducible exact Nice.asBool _
    | with_reducible exact Nice.asAddr _
    | with_reducible exact Nice.sureAddr _
    | with_reducible exact Nice.loadAt _ _
    | with_reducible exact Nice.storeAt _ _ _
    | with_reducible exact Nice.indexAt _ _ _
    | with_reducible exact Nice.sliceBound _ _ _
    | with_reducible exact Nice.sliceBounds _ _ _ _ _ _
    | with_reducible exact Nice.slice _ _ _ _ _
    | with_reducible exact Nice.sliceAt _ _ _ _ _
    | with_reducible exact Nice.makeSlice _ _ _
    | with_reducible exact Nice.buildSlice _ _ _
    | with_reducible exact Nice.box _ _
    | with_reducible exact Nice.alloc _ _ _
    | with_reducible exact Nice.extract _ _
    | with_reducible exact Nice.makeInterface _ _
    | with_reducible exact Nice.len_ _ _ _
    | with_reducible exact Nice.cap_ _ _ _
    | with_reducible exact Nice.panic _
    | with_reducible exact Nice.firstCells _ _ _
    | with_reducible exact Nice.lenOf _
    | with_reducible exact Nice.append_ _ _ _
    | with_reducible exact Nice.noView _
    | with_reducible exact Nice.numberAt _
    | with_reducible exact Nice.asNumber _ _
    | with_reducible exact Nice.behindNumber _
    | with_reducible exact Nice.byteOf _
    | with_reducible exact Nice.sameAddr _ _
    | with_reducible exact Nice.samePointer _ _
    | with_reducible exact unsafeAdd_shape _ _ _ _
    | with_reducible exact Nice.movedNumber _ _ _
    | with_reducible exact Nice.movedPointer _ _ _
    | with_reducible exact Nice.twoPlaces _ _
    | with_reducible exact Nice.addrSub _ _ _
    | with_reducible exact Nice.addrCmp _ _ _
    | with_reducible exact Nice.addrMod _ _ _
    | with_reducible exact Nice.intArith _ _ _ _
    | with_reducible exact Nice.intDiv _ _ _ _
    | with_reducible exact Nice.intBits _ _ _ _
    | with_reducible exact Nice.intCmp _ _ _
    | with_reducible exact Nice.shift _ _ _ _ _
    | with_reducible exact Nice.floatArith _ _ _ _
    | with_reducible exact Nice.floatCmp _ _ _ _
    | with_reducible exact Nice.floatToFloat _ _ _
    | with_reducible exact Nice.stringOp _ _ _
    | with_reducible exact Nice.cArith _ _ _ _
    | with_reducible exact Nice.cCmp _ _ _ _
    | with_reducible exact Nice.cConv _ _ _
    | with_reducible exact Nice.c_add _ _
    | with_reducible exact Nice.c_sub _ _
    | with_reducible exact Nice.c_mul _ _
    | with_reducible exact Nice.c_quo _ _
    | with_reducible exact Nice.cProduct _ _ _ _
    | with_reducible exact Nice.cCorrected _ _ _ _ _
    | with_reducible exact Nice.cQuotient _ _ _ _
    | with_reducible exact Nice.complexOp _ _ _ _ _ _
    | with_reducible exact Nice.unary _ _
    | with_reducible exact Nice.equalIn _ _ _ _
    | with_reducible exact Nice.equal _ _ _
    | with_reducible exact Nice.eqGuardIn _ _ _ _
    | (with_reducible refine Nice.bind ?_ (fun _ => ?_))
    | (with_reducible refine Nice.ite ?_ ?_)
    | (refine Nice.map ?_)
    | split
    | dsimp only)
theorem Nice.binOp (b : BinOp) (t : TypeId) (v w : Value) : Nice P D (Go.binOp b t v w) := by
  unfold Go.binOp
  repeat' (first
    | with_reducible exact Nice.pure _
    | with_reducible exact Nice.pure' _
    | with_reducible exact Nice.stuck _
    | with_reducible exact Nice.goPanic _
    | (with_reducible refine Nice.unsupported ?_); trivial
    | with_reducible exact Nice.program
    | with_reducible exact Nice.choose _
    | with_reducible exact Nice.load _ _
    | with_reducible exact Nice.store _ _ _
    | with_reducible exact Nice.frozen _
    | with_reducible exact Nice.askRoom _
    | with_reducible exact Nice.noRoom
    | exact Nice.newObj (fun _ _ h => by cases h)
    | with_reducible exact Nice.typeInfo _
    | with_reducible exact Nice.underlying _
    | with_reducible exact Nice.typeStr _
    | with_reducible exact Nice.zeroValue _
    | with_reducible exact Nice.sizeOf _
    | with_reducible exact Nice.isAgg _
    | with_reducible exact Nice.loadCells _ _
    | with_reducible exact Nice.storeCells _ _ _
    | with_reducible exact Nice.loadVar _ _
    | with_reducible exact Nice.storeVar _ _ _
    | with_reducible exact Nice.newRow _ _
    | with_reducible exact Nice.newVar _ _
    | with_reducible exact Nice.elemOf _
    | with_reducible exact Nice.part _ _ _
    | with_reducible exact Nice.runtimePanic _
    | with_reducible exact Nice.boundsPanic _ _ _ _
    | with_reducible exact Nice.asIntOf _
    | with_reducible exact Nice.asInt _
    | with_reducible exact Nice.asBool _
    | with_reducible exact Nice.asAddr _
    | with_reducible exact Nice.sureAddr _
    | with_reducible exact Nice.loadAt _ _
    | with_reducible exact Nice.storeAt _ _ _
    | with_reducible exact Nice.indexAt _ _ _
    | with_reducible exact Nice.sliceBound _ _ _
    | with_reducible exact Nice.sliceBounds _ _ _ _ _ _
    | with_reducible exact Nice.slice _ _ _ _ _
    | with_reducible exact Nice.sliceAt _ _ _ _ _
    | with_reducible exact Nice.makeSlice _ _ _
    | with_reducible exact Nice.buildSlice _ _ _
    | with_reducible exact Nice.box _ _
    | with_reducible exact Nice.alloc _ _ _
    | with_reducible exact Nice.extract _ _
    | with_reducible exact Nice.makeInterface _ _
    | with_reducible exact Nice.len_ _ _ _
    | with_reducible exact Nice.cap_ _ _ _
    | with_reducible exact Nice.panic _
    | with_reducible exact Nice.firstCells _ _ _
    | with_reducible exact Nice.lenOf _
    | with_reducible exact Nice.append_ _ _ _
    | with_reducible exact Nice.noView _
    | with_reducible exact Nice.numberAt _
    | with_reducible exact Nice.asNumber _ _
    | with_reducible exact Nice.behindNumber _
    | with_reducible exact Nice.byteOf _
    | with_reducible exact Nice.sameAddr _ _
    | with_reducible exact Nice.samePointer _ _
    | with_reducible exact unsafeAdd_shape _ _ _ _
    | with_reducible exact Nice.movedNumber _ _ _
    | with_reducible exact Nice.movedPointer _ _ _
    | with_reducible exact Nice.twoPlaces _ _
    | with_reducible exact Nice.addrSub _ _ _
    | with_reducible exact Nice.addrCmp _ _ _
    | with_reducible exact Nice.addrMod _ _ _
    | with_reducible exact Nice.intArith _ _ _ _
    | with_reducible exact Nice.intDiv _ _ _ _
    | with_reducible exact Nice.intBits _ _ _ _
    | with_reducible exact Nice.intCmp _ _ _
    | with_reducible exact Nice.shift _ _ _ _ _
    | with_reducible exact Nice.floatArith _ _ _ _
    | with_reducible exact Nice.floatCmp _ _ _ _
    | with_reducible exact Nice.floatToFloat _ _ _
    | with_reducible exact Nice.stringOp _ _ _
    | with_reducible exact Nice.cArith _ _ _ _
    | with_reducible exact Nice.cCmp _ _ _ _
    | with_reducible exact Nice.cConv _ _ _
    | with_reducible exact Nice.c_add _ _
    | with_reducible exact Nice.c_sub _ _
    | with_reducible exact Nice.c_mul _ _
    | with_reducible exact Nice.c_quo _ _
    | with_reducible exact Nice.cProduct _ _ _ _
    | with_reducible exact Nice.cCorrected _ _ _ _ _
    | with_reducible exact Nice.cQuotient _ _ _ _
    | with_reducible exact Nice.complexOp _ _ _ _ _ _
    | with_reducible exact Nice.unary _ _
    | with_reducible exact Nice.equalIn _ _ _ _
    | with_reducible exact Nice.equal _ _ _
    | with_reducible exact Nice.eqGuardIn _ _ _ _
    | with_reducible exact Nice.eqGuard _ _ _ _ _ _
    | (with_reducible refine Nice.bind ?_ (fun _ => ?_))
    | (with_reducible refine Nice.ite ?_ ?_)
    | (refine Nice.map ?_)
    | split
    | dsimp only)
end
end Go.Proofs.YtafhpbghogdipaaDoor
