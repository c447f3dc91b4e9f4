/- Lf11 Lf12 Lf13 Lf14 Lf15 Lf16 Lf17 (merge.py). -/
import Derived.Test.YtafhpbghogdipaaGreatDoorLfB
import Derived.Test.YtafhpbghogdipaaGreatDoorCw1
import Derived.Test.YtafhpbghogdipaaGreatDoorCw8
/- A call that ends whatever is drawn, carried out by the machine beside goroutines that only leave. -/
namespace Go.Proofs.YtafhpbghogdipaaGreatDoor
open Go.Conc
open Go.ConcN (sumTo upd sumTo_upd upd_ne upd_same)
set_option maxHeartbeats 4000000
set_option linter.unusedVariables false
set_option linter.unusedSimpArgs false

/-! ### what a tree lists lies in the heap -/
def LowE (n : Nat) (e : Event) : Prop :=
  match e.loc with
  | .cell a => a.block < n
  | .obj r => r < n
  | _ => True
theorem LowE.mono {n m : Nat} (h : n ≤ m) {e : Event} (he : LowE n e) : LowE m e := by
  unfold LowE at *
  split <;> simp_all <;> omega
def whereR {α : Type} : Result α → World
  | .ok _ w => w
  | .halt _ w => w
section
variable {P : Program} {α : Type}
theorem cell_lt {w : World} {a : Addr} {v : Value} (h : w.cell? a = some v) : a.block < w.heap.size := by
  unfold World.cell? at h
  split at h
  · rename_i c e f hc
    exact (Array.getElem?_eq_some_iff.1 hc).1
  · cases h
theorem setCell_size (w : World) (a : Addr) (v : Value) : (w.setCell a v).heap.size = w.heap.size := by simp [World.setCell]
theorem seen_none {u : World} {at_ : Addr} (hd : u.heap[at_.block]? = none) (t : TypeId) (a : Addr) (m : Bool) : ∃ why, World.seen P u at_ t a m = .error why := by
  unfold World.seen
  rw [hd]
  by_cases h1 : (a.spot.isSome || at_.spot.isSome) = true
  · rw [if_pos h1]; exact ⟨_, rfl⟩
  · rw [if_neg h1]
    cases h2 : plainCell P P.depth t a.off with
    | none => exact ⟨_, rfl⟩
    | some like =>
      cases h3 : Option.map (fun x => x.length) like.bytes? with
      | none => simp only [h3]; exact ⟨_, rfl⟩
      | some size =>
        simp only [h3]
        cases h4 : byteOfCell P P.depth t a.off with
        | none => exact ⟨_, rfl⟩
        | some β => exact ⟨_, rfl⟩
theorem farLoad_low {w : World} {a : Addr} {m : Bool} {v : Value} {l : List Addr} (h : w.farLoad P a m = .ok (v, l)) : ∀ x ∈ l, x.block < w.heap.size := by
  unfold World.farLoad at h
  split at h
  · rename_i at_ t ho
    split at h
    · rename_i r hr
      cases h
      intro x hx
      rw [viewLoad_block hr x hx]
      apply Classical.byContradiction
      intro hlt
      obtain ⟨why, e⟩ := seen_none (P := P) (u := w) (at_ := at_) (Array.getElem?_eq_none (by omega)) t a m
      unfold World.viewLoad at hr
      rw [e] at hr
      cases hr
    · cases h
  · cases h
theorem farStore_low {w w' : World} {a : Addr} {v : Value} {m : Bool} {l : List Addr} (h : w.farStore P a v m = .ok (w', l)) : w'.heap.size = w.heap.size ∧ ∀ x ∈ l, x.block < w.heap.size := by
  unfold World.farStore at h
  split at h
  · rename_i at_ t ho
    rcases viewStore_run (P := P) (u := w) (w := w) (at_ := at_) rfl t a v m with ⟨why, e⟩ | ⟨c, e, fr, l2, e2, _, hl⟩
    · rw [e] at h; cases h
    · rw [e2] at h
      cases h
      refine ⟨by simp, fun x hx => ?_⟩
      rw [hl x hx]
      apply Classical.byContradiction
      intro hlt
      obtain ⟨why, e⟩ := seen_none (P := P) (u := w) (at_ := at_) (Array.getElem?_eq_none (by omega)) t a m
      unfold World.viewStore at e2
      rw [e] at e2
      by_cases h0 : (!tight P P.depth t) = true
      · rw [if_pos h0] at e2; cases e2
      · rw [if_neg h0] at e2; cases e2
  · cases h
/-- Every tree: the heap does not shrink; what it lists lies in it. -/
theorem run_low (s : Sem α) : ∀ (w : World) (es : Array Event), w.heap.size ≤ (whereR (s.runT P w es).1).heap.size ∧ ∀ e ∈ (s.runT P w es).2, e ∈ es ∨ LowE (whereR (s.runT P w es).1).heap.size e := by
  induction s with
  | pure a => exact fun w es => ⟨Nat.le_refl _, fun e he => .inl he⟩
  | halt h => exact fun w es => ⟨Nat.le_refl _, fun e he => .inl he⟩
  | load m a k ih =>
    intro w es
    cases hc : w.cell? a with
    | some v =>
      have e1 : (Sem.load m a k).runT P w es = (k v).runT P w (es.push ⟨.cell a, false, m == .atomic⟩) := by rw [Sem.runT]; simp only [hc]
      rw [e1]
      obtain ⟨h1, h2⟩ := ih v w (es.push ⟨.cell a, false, m == .atomic⟩)
      refine ⟨h1, fun e he => ?_⟩
      rcases h2 e he with h | h
      · rcases Array.mem_push.1 h with h | h
        · exact .inl h
        · subst h
          exact .inr (Nat.lt_of_lt_of_le (cell_lt hc) h1)
      · exact .inr h
    | none =>
      cases hf : w.farLoad P a (m == .atomic) with
      | error x =>
        have e1 : (Sem.load m a k).runT P w es = (.halt x w, es) := by rw [Sem.runT]; simp only [hc, hf]
        rw [e1]
        exact ⟨Nat.le_refl _, fun e he => .inl he⟩
      | ok r =>
        obtain ⟨v, l⟩ := r
        have e1 : (Sem.load m a k).runT P w es = (k v).runT P w (es ++ l.toArray.map (⟨.cell ·, false, m == .atomic⟩)) := by rw [Sem.runT]; simp only [hc, hf]
        rw [e1]
        obtain ⟨h1, h2⟩ := ih v w (es ++ l.toArray.map (⟨.cell ·, false, m == .atomic⟩))
        refine ⟨h1, fun e he => ?_⟩
        rcases h2 e he with h | h
        · rcases Array.mem_append.1 h with h | h
          · exact .inl h
          · simp at h
            obtain ⟨x, hx, rfl⟩ := h
            exact .inr (Nat.lt_of_lt_of_le (farLoad_low hf x hx) h1)
        · exact .inr h
  | store m a v k ih =>
    intro w es
    by_cases hv : v.oneCell' = true
    · cases hc : w.cell? a with
      | some y =>
        by_cases hf : w.frozen? a = true
        · have e1 : (Sem.store m a v k).runT P w es = (.halt (.unsupported (.unsafePointer "a write to bytes that a string shares")) w, es) := by
            cases v <;> first | (simp [Value.oneCell'] at hv; done) | (simp only [Sem.runT, hc]; rw [if_pos hf])
          rw [e1]
          exact ⟨Nat.le_refl _, fun e he => .inl he⟩
        · have e1 : (Sem.store m a v k).runT P w es = k.runT P (w.setCell a v) (es.push ⟨.cell a, true, m == .atomic⟩) := by
            cases v <;> first | (simp [Value.oneCell'] at hv; done) | (simp only [Sem.runT, hc]; rw [if_neg hf])
          rw [e1]
          obtain ⟨h1, h2⟩ := ih (w.setCell a v) (es.push ⟨.cell a, true, m == .atomic⟩)
          rw [setCell_size] at h1
          refine ⟨h1, fun e he => ?_⟩
          rcases h2 e he with h | h
          · rcases Array.mem_push.1 h with h | h
            · exact .inl h
            · subst h
              exact .inr (Nat.lt_of_lt_of_le (cell_lt hc) h1)
          · exact .inr h
      | none =>
        cases hf : w.farStore P a v (m == .atomic) with
        | error x =>
          have e1 : (Sem.store m a v k).runT P w es = (.halt x w, es) := by
            cases v <;> first | (simp [Value.oneCell'] at hv; done) | (simp only [Sem.runT, hc, hf])
          rw [e1]
          exact ⟨Nat.le_refl _, fun e he => .inl he⟩
        | ok r =>
          obtain ⟨w1, l⟩ := r
          have e1 : (Sem.store m a v k).runT P w es = k.runT P w1 (es ++ l.toArray.map (⟨.cell ·, true, m == .atomic⟩)) := by
            cases v <;> first | (simp [Value.oneCell'] at hv; done) | (simp only [Sem.runT, hc, hf])
          rw [e1]
          obtain ⟨h1, h2⟩ := ih w1 (es ++ l.toArray.map (⟨.cell ·, true, m == .atomic⟩))
          obtain ⟨h3, h4⟩ := farStore_low hf
          rw [h3] at h1
          refine ⟨h1, fun e he => ?_⟩
          rcases h2 e he with h | h
          · rcases Array.mem_append.1 h with h | h
            · exact .inl h
            · simp at h
              obtain ⟨x, hx, rfl⟩ := h
              exact .inr (Nat.lt_of_lt_of_le (h4 x hx) h1)
          · exact .inr h
    · have e1 : (Sem.store m a v k).runT P w es = (.halt (.stuck "store: not the value of one cell") w, es) := by
        cases v <;> first | (simp [Value.oneCell'] at hv; done) | rfl
      rw [e1]
      exact ⟨Nat.le_refl _, fun e he => .inl he⟩
  | new o k ih =>
    intro w es
    obtain ⟨h1, h2⟩ := ih w.heap.size (World.mk (w.heap.push o) w.tape w.drawn w.os w.output) es
    exact ⟨Nat.le_trans (by simp) h1, h2⟩
  | shape r k ih => exact fun w es => ih _ w es
  | freeze a n k ih =>
    intro w es
    obtain ⟨h1, h2⟩ := ih (w.freeze a n) es
    have h3 : (w.freeze a n).heap.size = w.heap.size := by unfold World.freeze; split <;> simp
    rw [h3] at h1
    exact ⟨h1, h2⟩
  | frozen a k ih => exact fun w es => ih _ w es
  | getObj r k ih =>
    intro w es
    cases ho : w.heap[r]? with
    | none =>
      have e1 : (Sem.getObj r k).runT P w es = (.halt (.stuck "getObj: no such block") w, es) := by rw [Sem.runT]; simp only [ho]
      rw [e1]
      exact ⟨Nat.le_refl _, fun e he => .inl he⟩
    | some o =>
      by_cases hcl : ∃ c e f, o = .cells c e f
      · obtain ⟨c, e, f, rfl⟩ := hcl
        have e1 : (Sem.getObj r k).runT P w es = (.halt (.stuck "getObj: a row of cells") w, es) := by rw [Sem.runT]; simp only [ho]
        rw [e1]
        exact ⟨Nat.le_refl _, fun e he => .inl he⟩
      · have e1 : (Sem.getObj r k).runT P w es = (k o).runT P w (es.push ⟨.obj r, false, o.isChan⟩) := by
          rw [Sem.runT]
          cases o <;> first | exact absurd ⟨_, _, _, rfl⟩ hcl | simp only [ho]
        rw [e1]
        obtain ⟨h1, h2⟩ := ih o w (es.push ⟨.obj r, false, o.isChan⟩)
        refine ⟨h1, fun e he => ?_⟩
        rcases h2 e he with h | h
        · rcases Array.mem_push.1 h with h | h
          · exact .inl h
          · subst h
            exact .inr (Nat.lt_of_lt_of_le (Array.getElem?_eq_some_iff.1 ho).1 h1)
        · exact .inr h
  | setObj r o k ih =>
    intro w es
    cases ho : w.heap[r]? with
    | none =>
      have e1 : (Sem.setObj r o k).runT P w es = (.halt (.stuck "setObj: no such block") w, es) := by rw [Sem.runT]; simp only [ho]
      rw [e1]
      exact ⟨Nat.le_refl _, fun e he => .inl he⟩
    | some x =>
      by_cases hcl : ∃ c e f, x = .cells c e f
      · obtain ⟨c, e, f, rfl⟩ := hcl
        have e1 : (Sem.setObj r o k).runT P w es = (.halt (.stuck "setObj: a row of cells") w, es) := by rw [Sem.runT]; simp only [ho]
        rw [e1]
        exact ⟨Nat.le_refl _, fun e he => .inl he⟩
      · have e1 : (Sem.setObj r o k).runT P w es = k.runT P (World.mk (w.heap.setIfInBounds r o) w.tape w.drawn w.os w.output) (es.push ⟨.obj r, true, o.isChan⟩) := by
          rw [Sem.runT]
          cases x <;> first | exact absurd ⟨_, _, _, rfl⟩ hcl | simp only [ho]
        rw [e1]
        obtain ⟨h1, h2⟩ := ih (World.mk (w.heap.setIfInBounds r o) w.tape w.drawn w.os w.output) (es.push ⟨.obj r, true, o.isChan⟩)
        have h3 := Nat.le_trans (show w.heap.size ≤ (w.heap.setIfInBounds r o).size by simp) h1
        refine ⟨h3, fun e he => ?_⟩
        rcases h2 e he with h | h
        · rcases Array.mem_push.1 h with h | h
          · exact .inl h
          · subst h
            exact .inr (Nat.lt_of_lt_of_le (Array.getElem?_eq_some_iff.1 ho).1 h3)
        · exact .inr h
  | choose q k ih =>
    intro w es
    by_cases hq : q.forced = true
    · have e1 : (Sem.choose q k).runT P w es = (k 0).runT P w es := by rw [Sem.runT, if_pos hq]
      rw [e1]
      exact ih _ w es
    · have e1 : (Sem.choose q k).runT P w es = (k (q.cut (w.tape w.drawn q))).runT P (World.mk w.heap w.tape (w.drawn + 1) w.os w.output) es := by rw [Sem.runT, if_neg hq]
      rw [e1]
      exact ih _ (World.mk w.heap w.tape (w.drawn + 1) w.os w.output) es
  | sys c k ih =>
    intro w es
    have hask : ∀ {β : Type} (a : Ask β) (w : World), (w.ask a).2.heap = w.heap := by
      intro β a
      induction a with
      | done b => intro w; rfl
      | ask what range k ih =>
        intro w
        simp only [World.ask]
        split
        · exact ih _ w
        · exact ih _ _
    have hs : (w.sys c).2.heap = w.heap := by
      have := hask (Kernel.perform c w.os) w
      unfold World.sys
      split <;> simp_all
    have e1 : (Sem.sys c k).runT P w es = (k (w.sys c).1).runT P (w.sys c).2 (es.push ⟨.output, true, false⟩) := rfl
    rw [e1]
    obtain ⟨h1, h2⟩ := ih (w.sys c).1 (w.sys c).2 (es.push ⟨.output, true, false⟩)
    rw [hs] at h1
    refine ⟨h1, fun e he => ?_⟩
    rcases h2 e he with h | h
    · rcases Array.mem_push.1 h with h | h
      · exact .inl h
      · subst h; exact .inr trivial
    · exact .inr h
  | program k ih => exact fun w es => ih _ w es
  | mark m k ih =>
    intro w es
    obtain ⟨h1, h2⟩ := ih w (es.push ⟨.mark m, false, true⟩)
    refine ⟨h1, fun e he => ?_⟩
    rcases h2 e he with h | h
    · rcases Array.mem_push.1 h with h | h
      · exact .inl h
      · subst h; exact .inr trivial
    · exact .inr h
end

/-! ### the trace -/
section
variable {Shun : Loc → Prop} {D : DS} {B B' : Nat} {t u : Trace}
/-- An entry of goroutine 0's that does no harm. -/
def Fit (D : DS) (B : Nat) (e : Event) : Prop := Cl D e ∧ LowE B e
theorem Fit.touch {e : Event} (h : Fit D B e) {x : Touch} (hx : (MemAct.ofEvent e).touch? = some x) : x.loc = e.loc ∧ x.loc.low B ∧ ∀ a, x.loc = .cell a → ¬ D a.block := by
  obtain ⟨h1, h2⟩ := h
  obtain ⟨l, wr, sy⟩ := e
  cases l with
  | cell a =>
    have : x = ⟨.cell a, wr, if sy then .atomic else .plain⟩ := by
      have e : MemAct.ofEvent ⟨.cell a, wr, sy⟩ = .access ⟨.cell a, wr, sy⟩ := rfl
      rw [e] at hx
      simp only [MemAct.touch?, Option.some.injEq] at hx
      exact hx.symm
    subst this
    exact ⟨rfl, h2, fun b hb => by cases hb; exact h1⟩
  | obj r =>
    have : x.loc = .obj r := by
      cases wr <;> cases sy <;> simp [MemAct.ofEvent, MemAct.touch?] at hx <;> rw [← hx]
    rw [this]
    exact ⟨rfl, h2, fun b hb => by cases hb⟩
  | output =>
    have : x.loc = .output := by
      simp [MemAct.ofEvent, MemAct.touch?] at hx
      rw [← hx]
    rw [this]
    exact ⟨rfl, trivial, fun b hb => by cases hb⟩
  | goroutines =>
    have : x.loc = .goroutines := by
      simp [MemAct.ofEvent, MemAct.touch?] at hx
      rw [← hx]
    rw [this]
    exact ⟨rfl, trivial, fun b hb => by cases hb⟩
  | mark m =>
    rcases (show m = .noRoom ∨ ∃ f, m = Mark.extern f from h1) with rfl | ⟨f, rfl⟩ <;> simp [MemAct.ofEvent, MemAct.touch?] at hx
theorem Fit.still {e : Event} (h : Fit D B e) : e.loc ≠ .mark .disable ∧ e.loc ≠ .mark .enable := by
  obtain ⟨h1, _⟩ := h
  unfold Cl at h1
  constructor <;> (intro hc; rw [hc] at h1; rcases h1 with h1 | ⟨f, h1⟩ <;> cases h1)
theorem PastX.fit (h : PastX Shun B t) (hB : B ≤ B') (hS : ∀ l, Shun l → ∃ a, l = .cell a ∧ D a.block) {fn : FuncId} {pos : String} {es : Array Event} (hes : ∀ e ∈ es, Fit D B' e) : PastX Shun B' (t ++ MemOp.ofEvents 0 fn pos es) := by
  have hops : ∀ op ∈ MemOp.ofEvents 0 fn pos es, ∃ e ∈ es, op = { g := 0, fn, pos, act := .ofEvent e } := fun op hop => Go.Conc.mem_ofEvents hop
  have h0 : ∀ op ∈ MemOp.ofEvents 0 fn pos es, op.g = 0 := fun op hop => by obtain ⟨e, _, rfl⟩ := hops op hop; rfl
  refine ⟨fun said => noRace_append (h.clean said) h0 fun i a ha op hop b hb hc => ?_, fun i a ha hm => ?_, handedOver_app h.over fun op hop => .inl (h0 op hop), ?_, fun i a ha => ?_⟩
  · rcases h.known i a ha hc.2.1 with hk | ⟨hsa, _⟩
    · exact hk
    · obtain ⟨e, he, rfl⟩ := hops op hop
      obtain ⟨x, hx, hd⟩ := hS _ hsa
      have := (hes e he).touch hb
      exact absurd hd (this.2.2 x (hc.1.symm.trans hx))
  · obtain ⟨x, hx, hxa⟩ := touch_of ha
    rcases getElem?_append_cases hx with ⟨_, hx'⟩ | ⟨_, hxu⟩
    · exact (h.known i a (by rw [touchAt_of hx']; exact hxa) hm).imp (·.app _) id
    · have := knows_own hx
      rw [h0 x hxu] at this
      exact .inl this
  · rw [Deaf_own, deafBehind_still fun e he => (hes e he).still]
    exact h.hears
  · obtain ⟨x, hx, hxa⟩ := touch_of ha
    rcases getElem?_append_cases hx with ⟨_, hx'⟩ | ⟨_, hxu⟩
    · exact Loc.low_mono hB (h.seen i a (by rw [touchAt_of hx']; exact hxa))
    · obtain ⟨e, he, rfl⟩ := hops x hxu
      exact ((hes e he).touch hxa).2.1
theorem PastX.mute {g : Nat} (h : PastX Shun B t) (hg : g ≠ 0) {fn : FuncId} {pos : String} {es : Array Event} (hm : ∀ e ∈ es, e.mute = true) : PastX Shun B (t ++ MemOp.ofEvents g fn pos es) := by
  have hops : ∀ op ∈ MemOp.ofEvents g fn pos es, ∃ e ∈ es, op = { g := g, fn, pos, act := .ofEvent e } := fun op hop => Go.Conc.mem_ofEvents hop
  have h0 : ∀ op ∈ MemOp.ofEvents g fn pos es, op.g = g := fun op hop => by obtain ⟨e, _, rfl⟩ := hops op hop; rfl
  have hn : ∀ op ∈ MemOp.ofEvents g fn pos es, op.act.touch? = none := fun op hop => by obtain ⟨e, he, rfl⟩ := hops op hop; exact touch_mute (hm e he)
  refine ⟨fun said => noRace_append (h.clean said) h0 fun i a _ op hop b hb _ => (by rw [hn op hop] at hb; cases hb), fun i a ha hm => ?_, handedOver_app h.over fun op hop => .inr (hn op hop), (Deaf_other t hg _ h0).trans h.hears, fun i a ha => ?_⟩
  · obtain ⟨x, hx, hxa⟩ := touch_of ha
    rcases getElem?_append_cases hx with ⟨_, hx'⟩ | ⟨_, hxu⟩
    · exact (h.known i a (by rw [touchAt_of hx']; exact hxa) hm).imp (·.app _) id
    · rw [hn x hxu] at hxa; cases hxa
  · obtain ⟨x, hx, hxa⟩ := touch_of ha
    rcases getElem?_append_cases hx with ⟨_, hx'⟩ | ⟨_, hxu⟩
    · exact h.seen i a (by rw [touchAt_of hx']; exact hxa)
    · rw [hn x hxu] at hxa; cases hxa
end

end Go.Proofs.YtafhpbghogdipaaGreatDoor

/- Goroutine 0 beside goroutines that only leave: one step; many; a lone run carried out. -/
namespace Go.Proofs.YtafhpbghogdipaaGreatDoor
open Go.Conc
open Go.ConcN (sumTo upd sumTo_upd upd_ne upd_same)
set_option maxHeartbeats 4000000
set_option linter.unusedVariables false
set_option linter.unusedSimpArgs false

section
variable {P : Program} {S : FuncId → Bool} {Fin : List Frame → World → Prop} {Shun : Loc → Prop} {D : DS}
/-- What stands between two steps: goroutine 0's record, the world with its poisoned twin, the others, the trace. -/
structure Fr (P : Program) (Shun : Loc → Prop) (D : DS) (g : Goroutine) (wp : World) (gs : Array Goroutine) (w : World) (t : Trace) (q : Nat → Nat) : Prop where
  h0 : gs[0]? = some g
  lv : Leavers P t gs q
  past : PastX Shun w.heap.size t
  pz : Pz D (tp wp w.tape w.drawn) w
  np : NP wp
theorem leavers_own {gs : Array Goroutine} {t : Trace} {q : Nat → Nat} (hL : Leavers P t gs q) (hlt0 : 0 < gs.size) (g a' : Goroutine) (w' : World) (fn : FuncId) (pos : String) (es : Array Event) :
    Leavers P (t ++ MemOp.ofEvents 0 fn pos es) ((gs.map (woken P g a' w')).setIfInBounds 0 a') q := by
  refine ⟨fun j x hj hx => ?_, fun j hj => ?_⟩
  · have hne : 0 ≠ j := by omega
    rw [Array.getElem?_setIfInBounds_ne hne, Array.getElem?_map] at hx
    obtain ⟨y, hy, rfl⟩ := Option.map_eq_some_iff.1 hx
    have hq := hL.old j y hj hy
    rw [woken_quitsD hq, Deaf_other t (by omega) _ (fun op hop => by obtain ⟨e, _, rfl⟩ := Go.Conc.mem_ofEvents hop; rfl)]
    exact hq
  · rw [Deaf_other t (g' := 0) (by
      have h9 : gs.size ≤ j := (by simpa using hj)
      omega) _ (fun op hop => by obtain ⟨e, _, rfl⟩ := Go.Conc.mem_ofEvents hop; rfl)]
    exact hL.above j (by simpa using hj)
/-- A leaver slips. -/
theorem leavers_slip {gs : Array Goroutine} {t : Trace} {q : Nat → Nat} (hL : Leavers P t gs q) {i k : Nat} (hpos : 0 < i) (hlt : i < gs.size) {g g' : Goroutine} {w' : World} {fn : FuncId} {pos : String} {es : Array Event} (hq' : QuitsD P k (deafBehind (Deaf t i) es) g') :
    Leavers P (t ++ MemOp.ofEvents i fn pos es) ((gs.map (woken P g g' w')).setIfInBounds i g') (upd q i k) := by
  refine ⟨fun j x hj hx => ?_, fun j hj => ?_⟩
  · by_cases hji : i = j
    · subst hji
      rw [Array.getElem?_setIfInBounds_self_of_lt (by simpa using hlt)] at hx
      obtain rfl := Option.some.inj hx
      rw [upd_same, Deaf_own]
      exact hq'
    · rw [Array.getElem?_setIfInBounds_ne hji, Array.getElem?_map] at hx
      obtain ⟨y, hy, rfl⟩ := Option.map_eq_some_iff.1 hx
      have hqj := hL.old j y hj hy
      rw [woken_quitsD hqj, upd_ne q k (Ne.symm hji), Deaf_other t hji _ (fun op hop => by obtain ⟨e, _, rfl⟩ := Go.Conc.mem_ofEvents hop; rfl)]
      exact hqj
  · rw [Deaf_other t (g' := i) (by simp at hj; omega) _ (fun op hop => by obtain ⟨e, _, rfl⟩ := Go.Conc.mem_ofEvents hop; rfl)]
    exact hL.above j (by simpa using hj)

/-- The machine comes from here to where K holds of goroutine 0's record and the poisoned world. -/
def To (P : Program) (Shun : Loc → Prop) (D : DS) (K : Goroutine → World → Prop) (gs : Array Goroutine) (w : World) (sl : Option (Nat × Nat)) (t : Trace) : Prop :=
  ∃ (N : Nat) (gs' : Array Goroutine) (g' : Goroutine) (wp' w' : World) (sl' : Option (Nat × Nat)) (t' : Trace) (q' : Nat → Nat),
    runNT P N (crowd gs w sl) t = (.next (crowd gs' w' sl'), t') ∧ gs'.size = gs.size ∧ K g' wp' ∧ Fr P Shun D g' wp' gs' w' t' q'
theorem To.trans {K K' : Goroutine → World → Prop} {gs : Array Goroutine} {w : World} {sl : Option (Nat × Nat)} {t : Trace} (h : To P Shun D K gs w sl t)
    (hk : ∀ (gs' : Array Goroutine) (g' : Goroutine) (wp' w' : World) (sl' : Option (Nat × Nat)) (t' : Trace) (q' : Nat → Nat), gs'.size = gs.size → K g' wp' → Fr P Shun D g' wp' gs' w' t' q' → To P Shun D K' gs' w' sl' t') : To P Shun D K' gs w sl t := by
  obtain ⟨N, gs', g', wp', w', sl', t', q', h1, h2, h3, h4⟩ := h
  obtain ⟨M, gs2, g2, wp2, w2, sl2, t2, q2, k1, k2, k3, k4⟩ := hk _ _ _ _ sl' _ _ h2 h3 h4
  refine ⟨N + M, gs2, g2, wp2, w2, sl2, t2, q2, ?_, k2.trans h2, k3, k4⟩
  rw [runNT_add, h1]
  exact k1
theorem To.here {K : Goroutine → World → Prop} {g : Goroutine} {wp : World} {gs : Array Goroutine} {w : World} {t : Trace} {q : Nat → Nat} (sl : Option (Nat × Nat)) (hF : Fr P Shun D g wp gs w t q) (hK : K g wp) : To P Shun D K gs w sl t :=
  ⟨0, gs, g, wp, w, sl, t, q, rfl, rfl, hK, hF⟩
theorem Fr.at {g : Goroutine} {wp : World} {gs : Array Goroutine} {w : World} {t : Trace} {q : Nat → Nat} (hF : Fr P Shun D g wp gs w t q) (d : Nat) : Pz D (tp wp w.tape d) (w.at d) := ⟨rfl, rfl, hF.pz.os, hF.pz.output, hF.pz.size, hF.pz.same, hF.pz.lo, hF.pz.dead, hF.pz.real⟩
theorem one_case (hS : ∀ l, Shun l → ∃ a, l = .cell a ∧ D a.block) {g : Goroutine} {wp : World} {K : Goroutine → World → Prop} (hrun : g.status = .running) (M : Nat) (gs : Array Goroutine) (w : World) (sl : Option (Nat × Nat)) (t : Trace) (q : Nat → Nat) (hM : sumTo gs.size q ≤ M) (hF : Fr P Shun D g wp gs w t q)
    (hstep : ∀ (w1 : World) (d : Nat), Pz D (tp wp w1.tape d) (w1.at d) → ∃ g' w' es wp', stepG P true g (w1.at d) = .go g' w' es ∧ w1.heap.size ≤ w'.heap.size ∧ (∀ e ∈ es, Fit D w'.heap.size e) ∧ Pz D wp' w' ∧ NP wp' ∧ K g' wp')
    (ihM : ∀ (gs : Array Goroutine) (w : World) (sl : Option (Nat × Nat)) (t : Trace) (q : Nat → Nat), sumTo gs.size q < M → Fr P Shun D g wp gs w t q → To P Shun D K gs w sl t) : To P Shun D K gs w sl t := by
  have h0 := hF.h0
  have haw : ∀ g ∈ gs, awake g := by
    intro x hx
    obtain ⟨i, hi, rfl⟩ := Array.mem_iff_getElem.1 hx
    rcases Nat.eq_zero_or_pos i with rfl | hpos
    · have : gs[0] = g := by simpa [Array.getElem?_eq_getElem hi] using h0
      rw [this]; exact awake_of (.inl hrun)
    · exact awake_of ((hF.lv.old i _ hpos (Array.getElem?_eq_getElem hi)).status.elim .inl fun x => .inr (.inr x))
  obtain ⟨i, g1, d, sl', hi, hg, hst⟩ := crowd_pick (P := P) (w := w) (sl := sl) haw ⟨0, _, h0, hrun⟩
  rcases Nat.eq_zero_or_pos i with rfl | hpos
  · -- goroutine 0
    obtain rfl : g1 = g := by rw [h0] at hi; exact (Option.some.inj hi).symm
    obtain ⟨g', w', es, wp', hgo, hsz, hfit, hpz1, hnp1, hK⟩ := hstep w d (hF.at d)
    have hrunT := runT_crowd_go (P := P) (sl := sl') (i := 0) hi (show stepG P (0 == 0) g1 (w.at d) = _ from hgo)
    have hlt : 0 < gs.size := (Array.getElem?_eq_some_iff.1 h0).1
    refine ⟨1, (gs.map (woken P g1 g' w')).setIfInBounds 0 g', g', wp', w', sl', t ++ MemOp.ofEvents 0 g1.frame.fn g1.frame.place es, q, by simp only [runNT, hst, hrunT], by simp, hK, by simp [hlt], leavers_own hF.lv hlt _ _ _ _ _ _, hF.past.fit hsz hS hfit, ?_, hnp1⟩
    have : tp wp' w'.tape w'.drawn = wp' := by
      unfold tp
      rw [← hpz1.tape, ← hpz1.drawn]
    rw [this]
    exact hpz1
  · -- a leaver slips
    have hq := hF.lv.old i g1 hpos hi
    have hi0 : (i == 0) = false := by simp; omega
    have hlt : i < gs.size := (Array.getElem?_eq_some_iff.1 hi).1
    cases hqi : q i with
    | zero => rw [hqi] at hq; rw [hq.1] at hg; cases hg
    | succ k =>
      rw [hqi] at hq
      rcases hq with ⟨hf, _⟩ | ⟨_, g', es, hm, hstp, hq'⟩
      · rw [hf] at hg; cases hg
      have hrunT := runT_crowd_go (P := P) (sl := sl') (i := i) hi (by rw [hi0]; exact hstp (w.at d))
      have hsz : ((gs.map (woken P g1 g' (w.at d))).setIfInBounds i g').size = gs.size := by simp
      have hsum : sumTo gs.size (upd q i k) + (k + 1) = sumTo gs.size q + k := by
        have := sumTo_upd q k id hlt
        simpa [hqi] using this
      have hF' : Fr P Shun D g wp ((gs.map (woken P g1 g' (w.at d))).setIfInBounds i g') (w.at d) (t ++ MemOp.ofEvents i g1.frame.fn g1.frame.place es) (upd q i k) := by
        refine ⟨?_, leavers_slip hF.lv hpos hlt hq', hF.past.mute (by omega) hm, hF.at d, hF.np⟩
        have hne : i ≠ 0 := by omega
        rw [Array.getElem?_setIfInBounds_ne hne, Array.getElem?_map, h0]
        simp [woken_run hrun]
      obtain ⟨N, gs2, g2, wp', w', sl2, t', q', hr, hs', hK, hF2⟩ := ihM _ (w.at d) sl' _ (upd q i k) (by rw [hsz]; omega) hF'
      exact ⟨N + 1, gs2, g2, wp', w', sl2, t', q', by simp only [runNT, hst, hrunT]; exact hr, hs'.trans hsz, hK, hF2⟩
/-- One step of goroutine 0's. -/
theorem one_beside (hS : ∀ l, Shun l → ∃ a, l = .cell a ∧ D a.block) {g : Goroutine} {wp : World} {K : Goroutine → World → Prop} (hrun : g.status = .running) :
    ∀ (M : Nat) (gs : Array Goroutine) (w : World) (sl : Option (Nat × Nat)) (t : Trace) (q : Nat → Nat), sumTo gs.size q ≤ M → Fr P Shun D g wp gs w t q →
      (∀ (w1 : World) (d : Nat), Pz D (tp wp w1.tape d) (w1.at d) → ∃ g' w' es wp', stepG P true g (w1.at d) = .go g' w' es ∧ w1.heap.size ≤ w'.heap.size ∧ (∀ e ∈ es, Fit D w'.heap.size e) ∧ Pz D wp' w' ∧ NP wp' ∧ K g' wp') →
      To P Shun D K gs w sl t := by
  intro M
  induction M with
  | zero =>
    intro gs w sl t q hM hF hstep
    exact one_case hS hrun 0 gs w sl t q hM hF hstep (fun _ _ _ _ _ h => absurd h (by omega))
  | succ M ih =>
    intro gs w sl t q hM hF hstep
    exact one_case hS hrun (M + 1) gs w sl t q hM hF hstep (fun gs w sl t q h hF => ih gs w sl t q (by omega) hF hstep)
/-- A step that is the same in every world and lists nothing. -/
theorem silent_beside (hS : ∀ l, Shun l → ∃ a, l = .cell a ∧ D a.block) {g g' : Goroutine} (hrun : g.status = .running) (hs : ∀ w, stepG P true g w = .go g' w #[]) {wp : World} {gs : Array Goroutine} {w : World} {t : Trace} {q : Nat → Nat} (sl : Option (Nat × Nat)) (hF : Fr P Shun D g wp gs w t q) :
    To P Shun D (fun g1 wp1 => g1 = g' ∧ ∃ T d, wp1 = tp wp T d) gs w sl t :=
  one_beside hS hrun _ gs w sl t q (Nat.le_refl _) hF fun w1 d hp => ⟨g', w1.at d, #[], tp wp w1.tape d, hs _, Nat.le_refl _, by simp, hp, np_tp hF.np _ _, rfl, _, _, rfl⟩

/-! ### twins: a frame of the lone run's and the true one -/
def graft : Code → Code → Code
  | .seq a b, z => .seq a (graft b z)
  | c, z => .seq c z
/-- The lone run's tail, the true one (which is K at last). -/
inductive Tl : List Item → List Item → List Item → Prop
  | stop (K : List Item) : Tl K [.code (.refuse "")] K
  | graft (c z : Code) (k : List Item) : Tl (.code z :: k) [.code c, .code (.refuse "")] (.code (graft c z) :: k)
def Tw (K : List Item) (u v : Frame) : Prop := ∃ p kl ka, Tl K kl ka ∧ u.todo = p ++ kl ∧ v = { u with todo := p ++ ka }
def Tw1 (K : List Item) (u v : Frame) : Prop := ∃ x p kl ka, Tl K kl ka ∧ u.todo = x :: p ++ kl ∧ v = { u with todo := x :: p ++ ka }
/-- Stacks: the lowest is a twin, the others are the same. -/
inductive STw (K : List Item) : List Frame → List Frame → Prop
  | base {u v : Frame} : Tw K u v → STw K [u] [v]
  | one {f u v : Frame} : Tw1 K u v → STw K [f, u] [f, v]
  | more {f g : Frame} {us vs : List Frame} : us ≠ [] → STw K (g :: us) (g :: vs) → STw K (f :: g :: us) (f :: g :: vs)
def Under (K : List Item) (us vs : List Frame) : Prop := ∀ f, STw K (f :: us) (f :: vs)
variable {K : List Item}
theorem Tw1.finish {u v : Frame} (h : Tw1 K u v) (x : Value) : Tw K (u.finish x) (v.finish x) := by
  obtain ⟨y, p, kl, ka, ht, hu, rfl⟩ := h
  obtain ⟨fn, tmps, todo, defers, mode, kind, roundOf⟩ := u
  simp only at hu ⊢
  subst hu
  cases y with
  | inRegion ops l =>
    cases l with
    | nil => exact ⟨_ :: p, kl, ka, ht, rfl, rfl⟩
    | cons i rest => exact ⟨.inRegion ops rest :: p, kl, ka, ht, rfl, rfl⟩
  | inRangeFunc l => exact ⟨.endRangeFunc l :: p, kl, ka, ht, rfl, rfl⟩
  | beginRound => exact ⟨p, kl, ka, ht, rfl, rfl⟩
  | call d wr resume saved => exact ⟨Item.extern resume (saved.push x) :: p, kl, ka, ht, rfl, rfl⟩
  | _ => first | exact ⟨_ :: p, kl, ka, ht, rfl, rfl⟩ | exact ⟨p, kl, ka, ht, rfl, rfl⟩
theorem STw.inv {u : Frame} {rest vs : List Frame} (h : STw K (u :: rest) vs) : (rest = [] ∧ ∃ v, vs = [v] ∧ Tw K u v) ∨ ∃ restv, vs = u :: restv ∧ Under K rest restv := by
  cases h with
  | base h => exact .inl ⟨rfl, _, rfl, h⟩
  | one h => exact .inr ⟨_, rfl, fun f => .one h⟩
  | more hne h => exact .inr ⟨_, rfl, fun f => .more hne h⟩
theorem Under.inv {c : Frame} {rest restv : List Frame} (h : Under K (c :: rest) restv) : ∃ c' rest', restv = c' :: rest' ∧ ∀ v, STw K (c.finish v :: rest) (c'.finish v :: rest') := by
  have h0 := h c
  clear h
  cases h0 with
  | one h => exact ⟨_, _, rfl, fun v => .base (h.finish v)⟩
  | more hne h =>
    refine ⟨_, _, rfl, fun v => ?_⟩
    cases h with
    | base h => exact absurd rfl hne
    | one h => exact .one h
    | more hne2 h => exact .more hne2 h
theorem exit_twin {id : Nat} {kl ka : List Item} (ht : Tl K kl ka) : ∀ (p : List Item) {k : List Item}, exitTo id (p ++ kl) = some k → ∃ p', k = p' ++ kl ∧ exitTo id (p ++ ka) = some (p' ++ ka)
  | [], k, h => by
    cases ht with
    | stop => simp [exitTo] at h
    | graft c z k => simp [exitTo] at h
  | x :: p, k, h => by
    cases x <;> simp only [List.cons_append, exitTo] at h ⊢ <;> first
      | exact exit_twin ht p h
      | (split at h
         · rename_i hc
           rw [if_pos hc]
           obtain rfl := Option.some.inj h
           exact ⟨p, rfl, rfl⟩
         · rename_i hc
           rw [if_neg hc]
           exact exit_twin ht p h)
end
end Go.Proofs.YtafhpbghogdipaaGreatDoor

/- What ends whatever is drawn is carried out beside goroutines that only leave. -/
namespace Go.Proofs.YtafhpbghogdipaaGreatDoor
open Go.Conc
open Go.ConcN (sumTo upd sumTo_upd upd_ne upd_same)
set_option maxHeartbeats 4000000
set_option linter.unusedVariables false
set_option linter.unusedSimpArgs false

section
variable {P : Program} {S : FuncId → Bool} {Fin : List Frame → World → Prop} {Shun : Loc → Prop} {D : DS}
variable {K : List Item}
theorem next_base {out : OutP} {fn : FuncId} {tmps : Array Value} {x : Item} {p kl ka : List Item} {us' : List Frame} (ht : Tl K kl ka) (hn : nextP P out fn tmps x (p ++ kl) [] = some us') :
    ∃ vs', nextP P out fn tmps x (p ++ ka) [] = some vs' ∧ STw K us' vs' := by
  cases out with
  | keep tm pre =>
    cases hn
    exact ⟨_, rfl, .base ⟨pre ++ p, kl, ka, ht, by simp, by simp⟩⟩
  | exit id =>
    simp only [nextP] at hn
    obtain ⟨k, hk, rfl⟩ := Option.map_eq_some_iff.1 hn
    obtain ⟨p', rfl, h2⟩ := exit_twin ht p hk
    exact ⟨_, by simp only [nextP, h2]; rfl, .base ⟨p', kl, ka, ht, rfl, rfl⟩⟩
  | push f a =>
    cases hn
    exact ⟨_, rfl, .one ⟨x, p, kl, ka, ht, rfl, rfl⟩⟩
  | back =>
    cases hn
    exact ⟨_, rfl, .base ⟨x :: p, kl, ka, ht, rfl, rfl⟩⟩
theorem next_inner {out : OutP} {fn : FuncId} {tmps : Array Value} {x : Item} {r : List Item} {rest restv us' : List Frame} (hu : Under K rest restv) (hne : rest ≠ []) (hn : nextP P out fn tmps x r rest = some us') :
    ∃ vs', nextP P out fn tmps x r restv = some vs' ∧ STw K us' vs' := by
  cases out with
  | keep tm pre =>
    cases hn
    exact ⟨_, rfl, hu _⟩
  | exit id =>
    simp only [nextP] at hn
    obtain ⟨k, hk, rfl⟩ := Option.map_eq_some_iff.1 hn
    exact ⟨_, by simp only [nextP, hk]; rfl, hu _⟩
  | push f a =>
    cases hn
    exact ⟨_, rfl, .more hne (hu _)⟩
  | back =>
    cases hn
    exact ⟨_, rfl, hu _⟩
theorem Fr.tp {g : Goroutine} {wp : World} {gs : Array Goroutine} {w : World} {t : Trace} {q : Nat → Nat} {T : Nat → Question → Nat} {d : Nat} (h : Fr P Shun D g (tp wp T d) gs w t q) : Fr P Shun D g wp gs w t q := ⟨h.h0, h.lv, h.past, h.pz, h.np⟩
/-- Where a lone run's end is met. -/
def AtFin (Fin : List Frame → World → Prop) (K : List Item) (cs : List Frame) (g : Goroutine) (wp : World) : Prop := ∃ us vs, us ≠ [] ∧ STw K us vs ∧ g = G (vs.headD bad) (vs.tail ++ cs) ∧ Fin us wp
theorem step_twin (hS : ∀ l, Shun l → ∃ a, l = .cell a ∧ D a.block) {fn : FuncId} {tmps : Array Value} {x : Item} {r ra : List Item} {rest restv : List Frame} {wp : World} (tr : Sem OutP) (hN : ∀ D, Nice P D tr) (hR : RealP P fn tmps x tr)
    (hnx : ∀ out us', nextP P out fn tmps x r rest = some us' → ∃ vs', nextP P out fn tmps x ra restv = some vs' ∧ STw K us' vs')
    (hx : ∀ T d, ∃ out w' us', tr.run P (Go.Proofs.YtafhpbghogdipaaGreatDoor.tp wp T d) = .ok out w' ∧ nextP P out fn tmps x r rest = some us')
    (cs : List Frame)
    (ih : ∀ T d out w' us', tr.run P (Go.Proofs.YtafhpbghogdipaaGreatDoor.tp wp T d) = .ok out w' → nextP P out fn tmps x r rest = some us' → ∀ (vs : List Frame) (gs : Array Goroutine) (w : World) (sl : Option (Nat × Nat)) (t : Trace) (q : Nat → Nat), STw K us' vs → us' ≠ [] → Fr P Shun D (G (vs.headD bad) (vs.tail ++ cs)) w' gs w t q → To P Shun D (AtFin Fin K cs) gs w sl t)
    (gs : Array Goroutine) (w : World) (sl : Option (Nat × Nat)) (t : Trace) (q : Nat → Nat) (hF : Fr P Shun D (G (fx fn tmps x ra) (restv ++ cs)) wp gs w t q) : To P Shun D (AtFin Fin K cs) gs w sl t := by
  refine To.trans (K := fun g' wp' => ∃ T d out us' vs', tr.run P (Go.Proofs.YtafhpbghogdipaaGreatDoor.tp wp T d) = .ok out wp' ∧ nextP P out fn tmps x r rest = some us' ∧ STw K us' vs' ∧ g' = G (vs'.headD bad) (vs'.tail ++ cs)) (one_beside hS rfl _ gs w sl t q (Nat.le_refl _) hF fun w1 d hpz => ?_) ?_
  · obtain ⟨out, wp1, us', hrun, hn⟩ := hx w1.tape d
    have hsim := (hN D).sim _ _ hpz (np_tp hF.np w1.tape d)
    rw [hrun] at hsim
    obtain ⟨hnp1, w2, hw2, hpz1, hcl⟩ := hsim
    have hreal := hR (w1.at d)
    rw [hw2] at hreal
    obtain ⟨es, hstep, hes⟩ := hreal
    obtain ⟨vs', hn', htw⟩ := hnx out us' hn
    have hgo := stepP_go hstep hn' cs
    have hlow := run_low (P := P) tr (w1.at d) #[]
    have e1 : (tr.runT P (w1.at d) #[]).1 = .ok out w2 := by rw [Sem.runT_fst]; exact hw2
    rw [e1] at hlow
    exact ⟨_, w2, es, wp1, hgo, hlow.1, fun e he => ⟨hcl e (hes e he), (hlow.2 e (hes e he)).elim (fun h => by simp at h) id⟩, hpz1, hnp1, _, _, _, _, _, hrun, hn, htw, rfl⟩
  · rintro gs' g' wp' w' sl' t' q' _ ⟨T, d, out, us', vs', hrun, hn, htw, rfl⟩ hF'
    exact ih T d out wp' us' hrun hn vs' gs' w' sl' t' q' htw (next_ne hn) hF'
/-- ████ What ends whatever is drawn is carried out beside goroutines that only leave. ████ -/
theorem term_beside (hS : ∀ l, Shun l → ∃ a, l = .cell a ∧ D a.block) (cs : List Frame) {us : List Frame} {wp : World} (hT : Term P S Fin us wp) :
    ∀ (vs : List Frame) (gs : Array Goroutine) (w : World) (sl : Option (Nat × Nat)) (t : Trace) (q : Nat → Nat), STw K us vs → us ≠ [] → Fr P Shun D (G (vs.headD bad) (vs.tail ++ cs)) wp gs w t q → To P Shun D (AtFin Fin K cs) gs w sl t := by
  induction hT with
  | @fin us wp hf =>
    intro vs gs w sl t q hst hne hF
    exact To.here sl hF ⟨us, vs, hne, hst, rfl, hf⟩
  | @done u rest wp hu hm ht _ ih =>
    intro vs gs w sl t q hst hne hF
    rcases hst.inv with ⟨rfl, v, rfl, p, kl, ka, hTl, hp, rfl⟩ | ⟨restv, rfl, hun⟩
    · rw [ht] at hp
      obtain ⟨_, h2⟩ := List.append_eq_nil_iff.1 hp.symm
      cases hTl <;> cases h2
    · refine (silent_beside hS rfl (fun w => done_step hu hm ht _ w) sl hF).trans ?_
      rintro gs' g' wp' w' sl' t' q' _ ⟨rfl, T, d, rfl⟩ hF'
      exact ih (_ :: _) gs' w' sl' t' q' (hun _) (by simp) hF'.tp
  | @ret u c rest wp fn hu hm hfn hx _ ih =>
    intro vs gs w sl t q hst hne hF
    rcases hst.inv with ⟨h, _⟩ | ⟨restv, rfl, hun⟩
    · cases h
    · obtain ⟨c', rest', rfl, hfin⟩ := hun.inv
      refine To.trans (K := fun g1 wp1 => ∃ T d v, (results fn u.tmps).run P (Go.Proofs.YtafhpbghogdipaaGreatDoor.tp wp T d) = .ok v wp1 ∧ g1 = G (c'.finish v) (rest' ++ cs)) (one_beside hS rfl _ gs w sl t q (Nat.le_refl _) hF fun w1 d hpz => ?_) ?_
      · obtain ⟨v, w2, hrun⟩ := hx w1.tape d
        have hs := (results_nice (P := P) (D := D) fn u.tmps).sim _ _ hpz (np_tp hF.np w1.tape d)
        rw [hrun] at hs
        obtain ⟨hnp1, w3, hw3, hpz1, hcl⟩ := hs
        have hreal := ret_real hfn hu.defers hu.kind hm u.todo (w1.at d) c' (rest' ++ cs)
        rw [hw3] at hreal
        obtain ⟨es, hstep, hes⟩ := hreal
        have hlow := run_low (P := P) (results fn u.tmps) (w1.at d) #[]
        have e1 : ((results fn u.tmps).runT P (w1.at d) #[]).1 = .ok v w3 := by rw [Sem.runT_fst]; exact hw3
        rw [e1] at hlow
        exact ⟨_, w3, es, w2, hstep, hlow.1, fun e he => ⟨hcl e (hes e he), (hlow.2 e (hes e he)).elim (fun h => by simp at h) id⟩, hpz1, hnp1, _, _, _, hrun, rfl⟩
      · rintro gs' g' wp' w' sl' t' q' _ ⟨T, d, v, hrun, rfl⟩ hF'
        exact ih T d v wp' hrun (_ :: _) gs' w' sl' t' q' (hfin v) (by simp) hF'
  | @seq fn tmps a b r rest wp _ ih =>
    intro vs gs w sl t q hst hne hF
    rcases hst.inv with ⟨rfl, v, rfl, p, kl, ka, hTl, hp, rfl⟩ | ⟨restv, rfl, hun⟩
    · cases p with
      | cons y p =>
        obtain ⟨rfl, rfl⟩ := List.cons.inj hp
        refine (silent_beside hS rfl (fun w => seq_step fn tmps a b (p ++ ka) _ w) sl hF).trans ?_
        rintro gs' g' wp' w' sl' t' q' _ ⟨rfl, T, d, rfl⟩ hF'
        exact ih [_] gs' w' sl' t' q' (.base ⟨.code a :: .code b :: p, kl, ka, hTl, rfl, rfl⟩) (by simp) hF'.tp
      | nil =>
        cases hTl with
        | stop => cases hp
        | graft c z k =>
          obtain ⟨h1, rfl⟩ := List.cons.inj hp
          cases h1
          refine (silent_beside hS rfl (fun w => seq_step fn tmps a (graft b z) k _ w) sl hF).trans ?_
          rintro gs' g' wp' w' sl' t' q' _ ⟨rfl, T, d, rfl⟩ hF'
          exact ih [_] gs' w' sl' t' q' (.base ⟨[.code a], _, _, .graft b z k, rfl, rfl⟩) (by simp) hF'.tp
    · refine (silent_beside hS rfl (fun w => seq_step fn tmps a b r _ w) sl hF).trans ?_
      rintro gs' g' wp' w' sl' t' q' _ ⟨rfl, T, d, rfl⟩ hF'
      exact ih (_ :: _) gs' w' sl' t' q' (hun _) (by simp) hF'.tp
  | @step fn tmps x r rest wp tr hns hN hR hx _ ih =>
    intro vs gs w sl t q hst hne hF
    rcases hst.inv with ⟨rfl, v, rfl, p, kl, ka, hTl, hp, rfl⟩ | ⟨restv, rfl, hun⟩
    · cases p with
      | cons y p =>
        obtain ⟨rfl, rfl⟩ := List.cons.inj hp
        exact step_twin hS tr hN hR (fun out us' h => next_base hTl h) hx cs (fun T d out w' us' h1 h2 => ih T d out w' us' h1 h2) gs w sl t q hF
      | nil =>
        cases hTl with
        | stop =>
          obtain ⟨h1, rfl⟩ := List.cons.inj hp
          subst h1
          exfalso
          obtain ⟨out, w', us', hrun, hn⟩ := hx wp.tape 0
          have hreal := hR (Go.Proofs.YtafhpbghogdipaaGreatDoor.tp wp wp.tape 0)
          rw [hrun] at hreal
          obtain ⟨es, hstep, _⟩ := hreal
          have hgo := stepP_go hstep hn []
          simp [fx, G, stepG, stepG.exec] at hgo
        | graft c z k =>
          obtain ⟨h1, rfl⟩ := List.cons.inj hp
          subst h1
          have hg : graft c z = .seq c z := by
            cases c <;> first | rfl | exact hns.elim
          have hF0 : Fr P Shun D (G (fx fn tmps (.code (.seq c z)) k) ([] ++ cs)) wp gs w t q := by
            rw [← hg]
            exact hF
          refine (silent_beside hS rfl (fun w => seq_step fn tmps c z k _ w) sl hF0).trans ?_
          rintro gs' g' wp' w' sl' t' q' _ ⟨rfl, T, d, rfl⟩ hF'
          exact step_twin (r := [.code (.refuse "")]) (ra := .code z :: k) (restv := []) hS tr hN hR (fun out us' h => next_base (p := []) (.stop _) h) hx cs (fun T d out w' us' h1 h2 => ih T d out w' us' h1 h2) gs' w' sl' t' q' hF'.tp
    · by_cases hr : rest = []
      · subst hr
        exfalso
        have := hun (fx fn tmps x r)
        cases this with
        | base h =>
          obtain ⟨p, kl, ka, hTl, hp, e⟩ := h
          have h2 := congrArg Frame.todo e
          have h3 := hun { fx fn tmps x r with todo := [] }
          cases h3 with
          | base h =>
            obtain ⟨p, kl, ka, hTl, hp, _⟩ := h
            obtain ⟨_, h2⟩ := List.append_eq_nil_iff.1 hp.symm
            cases hTl <;> cases h2
      · exact step_twin hS tr hN hR (fun out us' h => next_inner hun hr h) hx cs (fun T d out w' us' h1 h2 => ih T d out w' us' h1 h2) gs w sl t q hF
end
end Go.Proofs.YtafhpbghogdipaaGreatDoor

/- For the user: a lone contract of plain code carried over to goroutine 0 beside leavers. -/
namespace Go.Proofs.YtafhpbghogdipaaGreatDoor
open Go.Conc
open Go.ConcN (sumTo upd sumTo_upd upd_ne upd_same)
set_option maxHeartbeats 4000000
set_option linter.unusedVariables false
set_option linter.unusedSimpArgs false

section
variable {P : Program} {S : FuncId → Bool} {Shun : Loc → Prop} {D : DS}
/-- Where the lowest frame's part ends. -/
def FinB (b : Frame) (Qn Qr : Act → World → Prop) (us : List Frame) (w : World) : Prop :=
  (∃ a, us = [b.at a [.code (.refuse "")]] ∧ Qn a w) ∨ ∃ a todo, us = [{ b.at a todo with mode := .returning }] ∧ Qr a w
/-- The same in company: K is what is still to do. -/
def AtB (b : Frame) (K : List Item) (cs : List Frame) (Qn Qr : Act → World → Prop) (g : Goroutine) (w : World) : Prop :=
  (∃ a, g = G (b.at a K) cs ∧ Qn a w) ∨ ∃ a todo, g = G { b.at a todo with mode := .returning } cs ∧ Qr a w
theorem atB_of {b : Frame} {K : List Item} {cs : List Frame} {Qn Qr : Act → World → Prop} {g : Goroutine} {w : World} (h : AtFin (FinB b Qn Qr) K cs g w) : AtB b K cs Qn Qr g w := by
  obtain ⟨us, vs, hne, hst, rfl, hf⟩ := h
  rcases hf with ⟨a, rfl, hq⟩ | ⟨a, todo, rfl, hq⟩
  · rcases hst.inv with ⟨-, v, rfl, p, kl, ka, hTl, hp, rfl⟩ | ⟨restv, rfl, hun⟩
    · refine .inl ⟨a, ?_, hq⟩
      cases hTl with
      | stop =>
        cases p with
        | nil => rfl
        | cons y p =>
          have := congrArg List.length hp
          simp [Frame.at] at this
      | graft c z k =>
        have := congrArg List.length hp
        simp [Frame.at] at this
    · exfalso
      have := hun (b.at a [])
      cases this with
      | base h =>
        obtain ⟨p, kl, ka, hTl, hp, _⟩ := h
        obtain ⟨_, h2⟩ := List.append_eq_nil_iff.1 hp.symm
        cases hTl <;> cases h2
  · rcases hst.inv with ⟨-, v, rfl, p, kl, ka, hTl, hp, rfl⟩ | ⟨restv, rfl, hun⟩
    · exact .inr ⟨a, _, rfl, hq⟩
    · exfalso
      have := hun (b.at a [])
      cases this with
      | base h =>
        obtain ⟨p, kl, ka, hTl, hp, _⟩ := h
        obtain ⟨_, h2⟩ := List.append_eq_nil_iff.1 hp.symm
        cases hTl <;> cases h2
/-- ████ The lowest frame's next items, carried out in company. ████ -/
theorem lift_items (hOk : OkP P S) (hS : ∀ l, Shun l → ∃ a, l = .cell a ∧ D a.block)
    {b : Frame} {a : Act} {p kl ka K : List Item} {cs : List Frame} {wp : World} {Qn Qr : Act → World → Prop} (hk : b.kind = .normal) (hr : resOk P b.fn = true) (hd : a.defers = []) (hp : ∀ x ∈ p ++ kl, plainItem S x = true) (hTl : Tl K kl ka)
    (hQn : ∀ a w T d, Qn a w → Qn a (tp w T d)) (hQr : ∀ a w T d, Qr a w → Qr a (tp w T d)) (hnp : NP wp)
    (hL : ∀ T, ∃ N us' w', runN P N (lo [b.at a (p ++ kl)] (tp wp T 0)) = .next (lo us' w') ∧ FinB b Qn Qr us' w')
    {gs : Array Goroutine} {w : World} (sl : Option (Nat × Nat)) {t : Trace} {q : Nat → Nat} (hF : Fr P Shun D (G (b.at a (p ++ ka)) cs) wp gs w t q) :
    To P Shun D (AtB b K cs Qn Qr) gs w sl t := by
  have hT : Term P S (FinB b Qn Qr) [b.at a (p ++ kl)] wp := by
    refine term_of (fun us w T d h => ?_) (fun us w h => ?_) hOk (fun u hu => ?_) (by simp) hnp hL
    · rcases h with ⟨a, rfl, hq⟩ | ⟨a, todo, rfl, hq⟩
      · exact .inl ⟨a, rfl, hQn _ _ _ _ hq⟩
      · exact .inr ⟨a, todo, rfl, hQr _ _ _ _ hq⟩
    · rcases h with ⟨a, rfl, hq⟩ | ⟨a, todo, rfl, hq⟩
      · exact ⟨by simp, fun ch h => by simp [Frame.at] at h⟩
      · exact ⟨by simp, fun ch h => by simp at h⟩
    · obtain rfl := List.mem_singleton.1 hu
      exact ⟨hk, rfl, hd, hr, hp, .inl rfl⟩
  have := term_beside hS cs hT [b.at a (p ++ ka)] gs w sl t q (.base ⟨p, kl, ka, hTl, rfl, rfl⟩) (by simp) hF
  exact this.trans fun gs' g' wp' w' sl' t' q' _ hK hF' => To.here sl' hF' (atB_of hK)
theorem lone_fin {b : Frame} {a : Act} {k : List Item} {w : World} {x : List Item} {Q : Exit → Act → World → Prop} {Qn Qr : Act → World → Prop}
    (hQ : ∀ e a w, Q e a w → (e = .normal ∧ Qn a w) ∨ (e = .ret ∧ Qr a w))
    (h : ∃ e a' w', Q e a' w' ∧ Arrives P (lone (b.at a x) [bad] w) b [.code (.refuse "")] [bad] e a' w') :
    ∃ N us' w', runN P N (lo [b.at a x] w) = .next (lo us' w') ∧ FinB b Qn Qr us' w' := by
  obtain ⟨e, a', w', q, har⟩ := h
  rcases hQ _ _ _ q with ⟨rfl, hq⟩ | ⟨rfl, hq⟩
  · obtain ⟨N, hN⟩ := har
    exact ⟨N, [b.at a' [.code (.refuse "")]], w', hN, .inl ⟨a', rfl, hq⟩⟩
  · obtain ⟨todo, N, hN⟩ := har
    exact ⟨N, [{ b.at a' todo with mode := .returning }], w', hN, .inr ⟨a', todo, rfl, hq⟩⟩
def QQ (Qn Qr : Act → World → Prop) (e : Exit) (a : Act) (w : World) : Prop := (e = .normal ∧ Qn a w) ∨ (e = .ret ∧ Qr a w)
/-- Plain code ahead of a rest that is not. -/
theorem lift_code (hOk : OkP P S) (hS : ∀ l, Shun l → ∃ a, l = .cell a ∧ D a.block)
    {b : Frame} {a : Act} {c Z : Code} {k : List Item} {cs : List Frame} {wp : World} {Qn Qr : Act → World → Prop} (hk : b.kind = .normal) (hr : resOk P b.fn = true) (hd : a.defers = []) (hp : plainCode S c = true)
    (hQn : ∀ a w T d, Qn a w → Qn a (tp w T d)) (hQr : ∀ a w T d, Qr a w → Qr a (tp w T d)) 
    (hwp : ∀ T, c.wp P (QQ Qn Qr) a (tp wp T 0))
    {gs : Array Goroutine} {w : World} (sl : Option (Nat × Nat)) {t : Trace} {q : Nat → Nat} (hF : Fr P Shun D (G (b.at a (.code (graft c Z) :: k)) cs) wp gs w t q) :
    To P Shun D (AtB b (.code Z :: k) cs Qn Qr) gs w sl t :=
  lift_items (p := []) hOk hS hk hr hd (fun x hx => by rcases List.mem_cons.1 hx with rfl | hx; · exact hp
                                                       · obtain rfl := List.mem_singleton.1 hx; rfl) (.graft c Z k) hQn hQr hF.np (fun T => lone_fin (k := []) (fun _ _ _ h => h) (hwp T b _ _)) sl hF
/-- Plain code to its end. -/
theorem lift_last (hOk : OkP P S) (hS : ∀ l, Shun l → ∃ a, l = .cell a ∧ D a.block)
    {b : Frame} {a : Act} {c : Code} {K : List Item} {cs : List Frame} {wp : World} {Qn Qr : Act → World → Prop} (hk : b.kind = .normal) (hr : resOk P b.fn = true) (hd : a.defers = []) (hp : plainCode S c = true)
    (hQn : ∀ a w T d, Qn a w → Qn a (tp w T d)) (hQr : ∀ a w T d, Qr a w → Qr a (tp w T d)) 
    (hwp : ∀ T, c.wp P (QQ Qn Qr) a (tp wp T 0))
    {gs : Array Goroutine} {w : World} (sl : Option (Nat × Nat)) {t : Trace} {q : Nat → Nat} (hF : Fr P Shun D (G (b.at a (.code c :: K)) cs) wp gs w t q) :
    To P Shun D (AtB b K cs Qn Qr) gs w sl t :=
  lift_items (p := [.code c]) hOk hS hk hr hd (fun x hx => by rcases List.mem_cons.1 hx with rfl | hx; · exact hp
                                                              · obtain rfl := List.mem_singleton.1 hx; rfl) (.stop K) hQn hQr hF.np (fun T => lone_fin (k := []) (fun _ _ _ h => h) (hwp T b _ _)) sl hF
/-- A region's rest. -/
theorem lift_ops (hOk : OkP P S) (hS : ∀ l, Shun l → ∃ a, l = .cell a ∧ D a.block)
    {b : Frame} {a : Act} {ops : Array Oper} {l : List Nat} {K : List Item} {cs : List Frame} {wp : World} {Qn Qr : Act → World → Prop} (hk : b.kind = .normal) (hr : resOk P b.fn = true) (hd : a.defers = []) (hp : (l.all fun i => ((ops[i]?).map fun o => plainOp S o.op).getD true) = true)
    (hQn : ∀ a w T d, Qn a w → Qn a (tp w T d)) (hQr : ∀ a w T d, Qr a w → Qr a (tp w T d)) 
    (hwp : ∀ T, wpOps P ops (QQ Qn Qr) l a (tp wp T 0))
    {gs : Array Goroutine} {w : World} (sl : Option (Nat × Nat)) {t : Trace} {q : Nat → Nat} (hF : Fr P Shun D (G (b.at a (.inRegion ops l :: K)) cs) wp gs w t q) :
    To P Shun D (AtB b K cs Qn Qr) gs w sl t :=
  lift_items (p := [.inRegion ops l]) hOk hS hk hr hd (fun x hx => by rcases List.mem_cons.1 hx with rfl | hx; · exact hp
                                                                      · obtain rfl := List.mem_singleton.1 hx; rfl) (.stop K) hQn hQr hF.np (fun T => lone_fin (k := []) (fun _ _ _ h => h) (wp_ops l a _ (hwp T) b _ _)) sl hF
end
end Go.Proofs.YtafhpbghogdipaaGreatDoor

/- Beside leavers: a quiet walk; an allocation; entering a function; the frame's end. -/
namespace Go.Proofs.YtafhpbghogdipaaGreatDoor
open Go.Conc
open Go.ConcN (sumTo upd sumTo_upd upd_ne upd_same)
open Go.ConcR (DC0)
set_option maxHeartbeats 4000000
set_option linter.unusedVariables false
set_option linter.unusedSimpArgs false

section
variable {P : Program} {S : FuncId → Bool} {Shun : Loc → Prop} {D : DS} {Stop : Goroutine → World → Prop}
theorem ofEvents_none (t : Trace) (g : Nat) (fn : FuncId) (pos : String) : t ++ MemOp.ofEvents g fn pos #[] = t := by
  simp [MemOp.ofEvents]
/-- A walk that lists nothing and changes nothing. -/
theorem quiet_beside {B : Nat} :
    ∀ (M n : Nat) (gs : Array Goroutine) (a : Goroutine) (w : World) (sl : Option (Nat × Nat)) (t : Trace) (q : Nat → Nat), n + sumTo gs.size q ≤ M → gs[0]? = some a → Leavers P t gs q → PastX Shun B t →
      Goes P true AtRel DC0 Stop n a w →
      ∃ (N : Nat) (gs' : Array Goroutine) (a' : Goroutine) (sl' : Option (Nat × Nat)) (t' : Trace) (q' : Nat → Nat) (d : Nat),
        runNT P N (crowd gs w sl) t = (.next (crowd gs' (w.at d) sl'), t') ∧ gs'.size = gs.size ∧ gs'[0]? = some a' ∧ Stop a' (w.at d) ∧ Leavers P t' gs' q' ∧ PastX Shun B t' := by
  intro M
  induction M with
  | zero =>
    intro n gs a w sl t q hM h0 hL hP hG
    obtain rfl : n = 0 := by omega
    exact ⟨0, gs, a, sl, t, q, w.drawn, rfl, rfl, h0, hG w (atRel_refl w), hL, hP⟩
  | succ M ih =>
    intro n gs a w sl t q hM h0 hL hP hG
    cases n with
    | zero => exact ⟨0, gs, a, sl, t, q, w.drawn, rfl, rfl, h0, hG w (atRel_refl w), hL, hP⟩
    | succ n =>
      rcases hG with hstop | ⟨hrun, hstep⟩
      · exact ⟨0, gs, a, sl, t, q, w.drawn, rfl, rfl, h0, hstop w (atRel_refl w), hL, hP⟩
      have haw : ∀ g ∈ gs, awake g := by
        intro g hg
        obtain ⟨i, hi, rfl⟩ := Array.mem_iff_getElem.1 hg
        rcases Nat.eq_zero_or_pos i with rfl | hpos
        · have : gs[0] = a := by simpa [Array.getElem?_eq_getElem hi] using h0
          rw [this]; exact awake_of (.inl hrun)
        · exact awake_of ((hL.old i _ hpos (Array.getElem?_eq_getElem hi)).status.elim .inl fun x => .inr (.inr x))
      obtain ⟨i, g, d, sl', hi, hg, hst⟩ := crowd_pick (P := P) (w := w) (sl := sl) haw ⟨0, a, h0, hrun⟩
      rcases Nat.eq_zero_or_pos i with rfl | hpos
      · obtain rfl : g = a := by rw [h0] at hi; exact (Option.some.inj hi).symm
        have hs := hstep (w.at d) ⟨d, rfl⟩
        cases hgo : stepG P true g (w.at d) with
        | go a' w' es =>
          rw [hgo, goes_go] at hs
          obtain ⟨⟨rfl, rfl⟩, hG'⟩ := hs
          have hrunT := runT_crowd_go (P := P) (sl := sl') (i := 0) hi (show stepG P (0 == 0) g (w.at d) = _ from hgo)
          have hlt : 0 < gs.size := (Array.getElem?_eq_some_iff.1 h0).1
          have hsz : ((gs.map (woken P g a' (w.at d))).setIfInBounds 0 a').size = gs.size := by simp
          have hlv := leavers_own (P := P) hL hlt g a' (w.at d) g.frame.fn g.frame.place #[]
          rw [ofEvents_none] at hlv
          obtain ⟨N, gs', a'', sl'', t', q', d', hr, hs', h0', hS, hL', hP'⟩ := ih n ((gs.map (woken P g a' (w.at d))).setIfInBounds 0 a') a' (w.at d) sl' t q (by rw [hsz]; omega) (by simp [hlt]) hlv hP hG'
          exact ⟨N + 1, gs', a'', sl'', t', q', d', by simp only [runNT, hst, hrunT]; rw [ofEvents_none]; exact hr, hs'.trans hsz, h0', hS, hL', hP'⟩
        | _ => rw [hgo] at hs; exact hs.elim
      · have hq := hL.old i g hpos hi
        have hi0 : (i == 0) = false := by simp; omega
        have hlt : i < gs.size := (Array.getElem?_eq_some_iff.1 hi).1
        cases hqi : q i with
        | zero => rw [hqi] at hq; rw [hq.1] at hg; cases hg
        | succ k =>
          rw [hqi] at hq
          rcases hq with ⟨hf, _⟩ | ⟨_, g', es, hm, hstp, hq'⟩
          · rw [hf] at hg; cases hg
          have hrunT := runT_crowd_go (P := P) (sl := sl') (i := i) hi (by rw [hi0]; exact hstp (w.at d))
          have hsz : ((gs.map (woken P g g' (w.at d))).setIfInBounds i g').size = gs.size := by simp
          have hsum : sumTo gs.size (upd q i k) + (k + 1) = sumTo gs.size q + k := by
            have := sumTo_upd q k id hlt
            simpa [hqi] using this
          have h0' : ((gs.map (woken P g g' (w.at d))).setIfInBounds i g')[0]? = some a := by
            have hne : i ≠ 0 := by omega
            rw [Array.getElem?_setIfInBounds_ne hne, Array.getElem?_map, h0]
            simp [woken_run hrun]
          obtain ⟨N, gs', a'', sl'', t', q', d', hr, hs', h0'', hS, hL', hP'⟩ := ih (n + 1) _ a (w.at d) sl' _ (upd q i k) (by rw [hsz]; omega) h0' (leavers_slip hL hpos hlt hq') (hP.mute (by omega) hm)
            (Goes.rely (fun a b c h k => atRel_trans a b c h k) (.inr ⟨hrun, hstep⟩) ⟨d, rfl⟩)
          exact ⟨N + 1, gs', a'', sl'', t', q', d', by simp only [runNT, hst, hrunT]; exact hr, hs'.trans hsz, h0'', hS, hL', hP'⟩
theorem step_goes_of {g g' : Goroutine} (hrun : g.status = .running) (hs : ∀ w, stepG P true g w = .go g' w #[]) {n : Nat} {w : World} (h : ∀ d, Goes P true AtRel DC0 Stop n g' (w.at d)) : Goes P true AtRel DC0 Stop (n + 1) g w := by
  refine .step hrun fun w₁ hw => ?_
  obtain ⟨d, rfl⟩ := hw
  rw [hs, goes_go]
  exact ⟨⟨rfl, rfl⟩, h d⟩
/-- It gives its results to its caller. -/
theorem leave_beside (hS : ∀ l, Shun l → ∃ a, l = .cell a ∧ D a.block) {b : Frame} {a : Act} {todo : List Item} {c : Frame} {cs : List Frame} (hk : b.kind = .normal) (hd : a.defers = []) {wp : World} {gs : Array Goroutine} {w : World} {t : Trace} {q : Nat → Nat} (sl : Option (Nat × Nat))
    {fn : Func} {v : Value} (hf : P.funcs[b.fn]? = some fn) (hv : ∀ T d, (results fn a.tmps).run P (tp wp T d) = .ok v (tp wp T d))
    (hF : Fr P Shun D (G { b.at a todo with mode := .returning } (c :: cs)) wp gs w t q) : To P Shun D (fun g wp' => g = G (c.finish v) cs ∧ ∃ T d, wp' = tp wp T d) gs w sl t := by
  refine one_beside hS rfl _ gs w sl t q (Nat.le_refl _) hF fun w1 d hpz => ?_
  have hs := (results_nice (P := P) (D := D) fn a.tmps).sim _ _ hpz (np_tp hF.np w1.tape d)
  rw [hv] at hs
  obtain ⟨hnp1, w3, hw3, hpz1, hcl⟩ := hs
  have hreal := ret_real (fr := { b.at a todo with mode := .returning }) hf hd hk rfl todo (w1.at d) c cs
  have hw3' : (results fn ({ b.at a todo with mode := .returning } : Frame).tmps).run P (w1.at d) = .ok v w3 := hw3
  rw [hw3'] at hreal
  obtain ⟨es, hstep, hes⟩ := hreal
  have hlow := run_low (P := P) (results fn a.tmps) (w1.at d) #[]
  have e1 : ((results fn a.tmps).runT P (w1.at d) #[]).1 = .ok v w3 := by rw [Sem.runT_fst]; exact hw3
  rw [e1] at hlow
  exact ⟨_, w3, es, _, hstep, hlow.1, fun e he => ⟨hcl e (hes e he), (hlow.2 e (hes e he)).elim (fun h => by simp at h) id⟩, hpz1, hnp1, rfl, _, _, rfl⟩
end
end Go.Proofs.YtafhpbghogdipaaGreatDoor

/- Poisoned twins made; the first frame; behind a crowd; the end of the run. -/
namespace Go.Proofs.YtafhpbghogdipaaGreatDoor
open Go.Conc
open Go.ConcN (sumTo upd sumTo_upd upd_ne upd_same)
open Go.ConcR (DC0)
set_option maxHeartbeats 4000000
set_option linter.unusedVariables false
set_option linter.unusedSimpArgs false

def Pend (w : World) (b : Nat) : Prop := ∃ c e, w.heap[b]? = some (.pending c e)
/-- w with the blocks of D poisoned. -/
noncomputable def psn (D : DS) (w : World) : World := { w with heap := w.heap.mapIdx fun i o => @ite _ (D i) (Classical.propDecidable _) poison o }
theorem psn_in {D : DS} {w : World} {b : Nat} (h : D b) (hb : b < w.heap.size) : (psn D w).heap[b]? = some poison := by
  simp [psn, hb, h]
theorem psn_out {D : DS} {w : World} {b : Nat} (h : ¬ D b) : (psn D w).heap[b]? = w.heap[b]? := by
  simp only [psn, Array.getElem?_mapIdx, h, if_false]
  cases w.heap[b]? <;> rfl
theorem psn_size {D : DS} {w : World} : (psn D w).heap.size = w.heap.size := by simp [psn]
/-- The dead ones and those that wait. -/
def Dd (E : Nat → Prop) (w : World) : DS := ⟨fun b => E b ∨ Pend w b, fun b => w.heap[b]?⟩
theorem psn_pz {E : Nat → Prop} {w : World} (hE : ∀ b, E b → (∃ c e, w.heap[b]? = some (.cells c e (0, 0))) ∨ Pend w b) : Pz (Dd E w) (psn (Dd E w) w) w := by
  have lo : ∀ b, Dd E w b → b < w.heap.size := fun b h => by
    have : ∃ o, w.heap[b]? = some o := by
      rcases h with h | ⟨c, e, h⟩
      · rcases hE b h with ⟨c, e, h⟩ | ⟨c, e, h⟩ <;> exact ⟨_, h⟩
      · exact ⟨_, h⟩
    obtain ⟨o, ho⟩ := this
    exact (Array.getElem?_eq_some_iff.1 ho).1
  exact ⟨rfl, rfl, rfl, rfl, psn_size, fun b h => psn_out h, lo, fun b h => psn_in h (lo b h), fun b h => ⟨rfl, h.elim (fun h => hE b h) .inr⟩⟩
theorem psn_np {E : Nat → Prop} {w : World} : NP (psn (Dd E w) w) := by
  intro b c e h
  by_cases hD : Dd E w b
  · have hb : b < w.heap.size := by
      have := (Array.getElem?_eq_some_iff.1 h).1
      rwa [psn_size] at this
    rw [psn_in hD hb] at h
    cases h
  · rw [psn_out hD] at h
    exact hD (.inr ⟨c, e, h⟩)
theorem Pz.retape {D : DS} {u w : World} (h : Pz D u w) (T : Nat → Question → Nat) (d : Nat) : Pz D (tp (tp u T d) w.tape w.drawn) w := ⟨rfl, rfl, h.os, h.output, h.size, h.same, h.lo, h.dead, h.real⟩
theorem Pz.cell {D : DS} {u w : World} (h : Pz D u w) {a : Addr} {v : Value} (hv : u.cell? a = some v) : w.cell? a = some v := by
  have hb : ¬ D a.block := fun hd => by
    have := h.dead _ hd
    unfold World.cell? at hv
    rw [this] at hv
    cases hv
  have := h.same _ hb
  unfold World.cell? at hv ⊢
  rw [← this]
  exact hv
theorem Pz.block {D : DS} {u w : World} (h : Pz D u w) {b : Nat} {c : Array Value} {e : TypeId} {k : Nat × Nat} (hv : u.heap[b]? = some (.cells c e k)) : ¬ D b ∧ w.heap[b]? = some (.cells c e k) := by
  have hb : ¬ D b := fun hd => by
    rw [h.dead _ hd] at hv
    cases hv
  exact ⟨hb, by rw [← h.same _ hb]; exact hv⟩

section
variable {P : Program} {Shun : Loc → Prop} {D : DS}
/-- The first frame. -/
theorem fr_first (P : Program) (g : Goroutine) (W : World) : Fr P (fun _ => False) (Dd (fun _ => False) W) g (psn (Dd (fun _ => False) W) W) #[g] W #[] (fun _ => 0) :=
  ⟨rfl, leavers_one P g, ⟨past_nil.clean, fun i a ha => by simp [touchAt, Trace.act?] at ha, past_nil.over, rfl, fun i a ha => by simp [touchAt, Trace.act?] at ha⟩, psn_pz (fun b h => h.elim), psn_np⟩
/-- Behind a crowd: all is as it was below Low but the group's block and the payload's. -/
theorem fr_crowd {Wg C Low : Nat} {wp w w' : World} {g : Goroutine} {gs : Array Goroutine} {t : Trace} {q : Nat → Nat} {c : Array Value} {e : TypeId} (hz : Pz D (tp wp w.tape w.drawn) w) (hnp : NP wp) (hDl : ∀ b, D b → b < Low ∧ b ≠ Wg ∧ b ≠ C) (hWg : w'.heap[Wg]? = some (.cells c e (0, 0)))
    (hlow : ∀ b, b < Low → b ≠ Wg → b ≠ C → w'.heap[b]? = w.heap[b]?) (h0 : gs[0]? = some g) (hL : Leavers P t gs q) (hP : PastX (fun l => Shun l ∨ Go.ConcN.ShN Wg l) w'.heap.size t) :
    Fr P (fun l => Shun l ∨ Go.ConcN.ShN Wg l) (Dd (fun b => D b ∨ b = Wg) w') g (tp (psn (Dd (fun b => D b ∨ b = Wg) w') w') wp.tape 0) gs w' t q ∧
      ∀ b, b < Low → b ≠ Wg → b ≠ C → (psn (Dd (fun b => D b ∨ b = Wg) w') w').heap[b]? = wp.heap[b]? := by
  have hE : ∀ b, (D b ∨ b = Wg) → (∃ c e, w'.heap[b]? = some (.cells c e (0, 0))) ∨ Pend w' b := by
    rintro b (h | rfl)
    · obtain ⟨h1, h2, h3⟩ := hDl b h
      unfold Pend
      rw [hlow b h1 h2 h3]
      exact (hz.real b h).2
    · exact .inl ⟨c, e, hWg⟩
  refine ⟨⟨h0, hL, hP, (psn_pz hE).retape _ _, np_tp psn_np _ _⟩, fun b h1 h2 h3 => ?_⟩
  by_cases hd : D b
  · have hb : b < w'.heap.size := by
      rcases hE b (.inl hd) with ⟨c, e, h⟩ | ⟨c, e, h⟩ <;> exact (Array.getElem?_eq_some_iff.1 h).1
    rw [psn_in (show (Dd (fun b => D b ∨ b = Wg) w').dead b from Or.inl (Or.inl hd)) hb]
    exact (hz.dead b hd).symm
  · have e1 : w'.heap[b]? = wp.heap[b]? := (hlow b h1 h2 h3).trans (hz.same b hd).symm
    rw [psn_out, e1]
    rintro ((h | h) | ⟨c, e, h⟩)
    · exact hd h
    · exact h2 h
    · rw [e1] at h
      exact hnp _ _ _ h
/-- The last step, in company. -/
theorem end_beside {B : Nat} {Post : Value → World → Prop} {v : Value} {a : Goroutine} (hrun : a.status = .running) (hend : ∀ w : World, stepG P true a w = .ended (.done v) w #[]) :
    ∀ (M : Nat) (gs : Array Goroutine) (w : World) (sl : Option (Nat × Nat)) (t : Trace) (q : Nat → Nat), sumTo gs.size q ≤ M → gs[0]? = some a → Leavers P t gs q → PastX Shun B t → (∀ d, Post v (w.at d)) →
      ∃ N last o w' t', runNT P (N + 1) (crowd gs w sl) t = (.ended o w', t') ∧ runN P N (crowd gs w sl) = .next last ∧ step P last = .ended o w' ∧ Conc.Good P Post last o w' t' := by
  have key : ∀ (gs : Array Goroutine) (w : World) (sl : Option (Nat × Nat)) (t : Trace) (q : Nat → Nat), gs[0]? = some a → Leavers P t gs q → PastX Shun B t → (∀ d, Post v (w.at d)) →
      (∀ (gs' : Array Goroutine) (w' : World) (sl : Option (Nat × Nat)) (t' : Trace) (q' : Nat → Nat), sumTo gs'.size q' < sumTo gs.size q → gs'[0]? = some a → Leavers P t' gs' q' → PastX Shun B t' → (∀ d, Post v (w'.at d)) →
        ∃ N last o w'' t'', runNT P (N + 1) (crowd gs' w' sl) t' = (.ended o w'', t'') ∧ runN P N (crowd gs' w' sl) = .next last ∧ step P last = .ended o w'' ∧ Conc.Good P Post last o w'' t'') →
      ∃ N last o w' t', runNT P (N + 1) (crowd gs w sl) t = (.ended o w', t') ∧ runN P N (crowd gs w sl) = .next last ∧ step P last = .ended o w' ∧ Conc.Good P Post last o w' t' := by
    intro gs w sl t q h0 hL hP hpost ih
    have haw : ∀ g ∈ gs, awake g := by
      intro g hg
      obtain ⟨i, hi, rfl⟩ := Array.mem_iff_getElem.1 hg
      rcases Nat.eq_zero_or_pos i with rfl | hpos
      · have : gs[0] = a := by simpa [Array.getElem?_eq_getElem hi] using h0
        rw [this]; exact awake_of (.inl hrun)
      · exact awake_of ((hL.old i _ hpos (Array.getElem?_eq_getElem hi)).status.elim .inl fun x => .inr (.inr x))
    obtain ⟨i, g, d, sl', hi, hg, hst⟩ := crowd_pick (P := P) (w := w) (sl := sl) haw ⟨0, a, h0, hrun⟩
    rcases Nat.eq_zero_or_pos i with rfl | hpos
    · obtain rfl : g = a := by rw [h0] at hi; exact (Option.some.inj hi).symm
      have hrunT := runT_many_ended (P := P) (sl := sl') (i := 0) hi (show stepG P (0 == 0) g (w.at d) = _ from hend (w.at d))
      have hs := hst.trans hrunT
      refine ⟨0, crowd gs w sl, .done v, w.at d, t, ?_, rfl, ?_, v, rfl, hpost d, hP.clean, hP.over, ⟨fun x hx => ?_, rfl⟩, fun j x hx hj => ?_⟩
      · simp only [runNT, hs, ofEvents_none]
      · unfold step
        rw [hs]
      · obtain ⟨j, hj⟩ := List.mem_iff_getElem?.1 hx
        rw [List.getElem?_drop] at hj
        exact ⟨_, (hL.old (1 + j) x (by omega) (by simpa [crowd] using hj)).leaves⟩
      · have hq := hL.old j x (by omega) hx
        exact ⟨q j, hq.hears _⟩
    · have hq := hL.old i g hpos hi
      have hi0 : (i == 0) = false := by simp; omega
      have hlt : i < gs.size := (Array.getElem?_eq_some_iff.1 hi).1
      cases hqi : q i with
      | zero => rw [hqi] at hq; rw [hq.1] at hg; cases hg
      | succ k =>
        rw [hqi] at hq
        rcases hq with ⟨hf, _⟩ | ⟨_, g', es, hm, hstp, hq'⟩
        · rw [hf] at hg; cases hg
        have hrunT := runT_crowd_go (P := P) (sl := sl') (i := i) hi (by rw [hi0]; exact hstp (w.at d))
        have hsz : ((gs.map (woken P g g' (w.at d))).setIfInBounds i g').size = gs.size := by simp
        have hsum : sumTo gs.size (upd q i k) + (k + 1) = sumTo gs.size q + k := by
          have := sumTo_upd q k id hlt
          simpa [hqi] using this
        have h0' : ((gs.map (woken P g g' (w.at d))).setIfInBounds i g')[0]? = some a := by
          have hne : i ≠ 0 := by omega
          rw [Array.getElem?_setIfInBounds_ne hne, Array.getElem?_map, h0]
          simp [woken_run hrun]
        have hs := hst.trans hrunT
        obtain ⟨N, last, o, w', t', hr1, hr2, hr3, hG⟩ := ih _ (w.at d) sl' _ (upd q i k) (by rw [hsz]; omega) h0' (leavers_slip hL hpos hlt hq') (hP.mute (by omega) hm) (fun d' => hpost d')
        refine ⟨N + 1, last, o, w', t', ?_, ?_, hr3, hG⟩
        · rw [runNT, hs]
          exact hr1
        · have h1 : step P (crowd gs w sl) = .next (crowd ((gs.map (woken P g g' (w.at d))).setIfInBounds i g') (w.at d) sl') := by
            unfold step
            rw [hs]
          rw [runN, h1]
          exact hr2
  intro M
  induction M with
  | zero =>
    intro gs w sl t q hM h0 hL hP hpost
    exact key gs w sl t q h0 hL hP hpost fun gs' w' sl' t' q' hlt _ _ _ _ => absurd hlt (by omega)
  | succ M ih =>
    intro gs w sl t q hM h0 hL hP hpost
    exact key gs w sl t q h0 hL hP hpost fun gs' w' sl' t' q' hlt k1 k2 k3 k4 => ih gs' w' sl' t' q' (by omega) k1 k2 k3 k4
/-- What comes to the end comes to it from ahead. -/
theorem good_from {Post : Value → World → Prop} {m m' : Machine} {t t' : Trace} {N : Nat} (h : runNT P N m t = (.next m', t'))
    (hg : ∃ M last o w'' t'', runNT P (M + 1) m' t' = (.ended o w'', t'') ∧ runN P M m' = .next last ∧ step P last = .ended o w'' ∧ Conc.Good P Post last o w'' t'') :
    ∃ M last o w'' t'', runNT P (M + 1) m t = (.ended o w'', t'') ∧ runN P M m = .next last ∧ step P last = .ended o w'' ∧ Conc.Good P Post last o w'' t'' := by
  obtain ⟨M, last, o, w'', t'', h1, h2, h3, h4⟩ := hg
  refine ⟨N + M, last, o, w'', t'', ?_, ?_, h3, h4⟩
  · rw [Nat.add_assoc, runNT_add, h]
    exact h1
  · have : runN P N m = .next m' := by rw [← runNT_fst _ _ _ t, h]
    rw [runN_add, this]
    exact h2
end
end Go.Proofs.YtafhpbghogdipaaGreatDoor

/- Beside leavers: a walk that lists nothing; a called function carried out. -/
namespace Go.Proofs.YtafhpbghogdipaaGreatDoor
open Go.Conc
open Go.ConcN (sumTo upd sumTo_upd upd_ne upd_same)
open Go.ConcR (DC0)
set_option maxHeartbeats 4000000
set_option linter.unusedVariables false
set_option linter.unusedSimpArgs false

/-- It lists nothing. -/
def DH (w w' : World) (es : Array Event) : Prop := es = #[]
section
variable {P : Program} {S : FuncId → Bool} {Shun : Loc → Prop} {D : DS} {Stop : Goroutine → World → Prop}
theorem hush_beside {B : Nat} :
    ∀ (M n : Nat) (gs : Array Goroutine) (a : Goroutine) (w : World) (sl : Option (Nat × Nat)) (t : Trace) (q : Nat → Nat), n + sumTo gs.size q ≤ M → gs[0]? = some a → Leavers P t gs q → PastX Shun B t →
      Goes P true AtRel DH Stop n a w →
      ∃ (N : Nat) (gs' : Array Goroutine) (a' : Goroutine) (w' : World) (sl' : Option (Nat × Nat)) (t' : Trace) (q' : Nat → Nat),
        runNT P N (crowd gs w sl) t = (.next (crowd gs' w' sl'), t') ∧ gs'.size = gs.size ∧ gs'[0]? = some a' ∧ Stop a' w' ∧ Leavers P t' gs' q' ∧ PastX Shun B t' := by
  intro M
  induction M with
  | zero =>
    intro n gs a w sl t q hM h0 hL hP hG
    obtain rfl : n = 0 := by omega
    exact ⟨0, gs, a, w, sl, t, q, rfl, rfl, h0, hG w (atRel_refl w), hL, hP⟩
  | succ M ih =>
    intro n gs a w sl t q hM h0 hL hP hG
    cases n with
    | zero => exact ⟨0, gs, a, w, sl, t, q, rfl, rfl, h0, hG w (atRel_refl w), hL, hP⟩
    | succ n =>
      rcases hG with hstop | ⟨hrun, hstep⟩
      · exact ⟨0, gs, a, w, sl, t, q, rfl, rfl, h0, hstop w (atRel_refl w), hL, hP⟩
      have haw : ∀ g ∈ gs, awake g := by
        intro g hg
        obtain ⟨i, hi, rfl⟩ := Array.mem_iff_getElem.1 hg
        rcases Nat.eq_zero_or_pos i with rfl | hpos
        · have : gs[0] = a := by simpa [Array.getElem?_eq_getElem hi] using h0
          rw [this]; exact awake_of (.inl hrun)
        · exact awake_of ((hL.old i _ hpos (Array.getElem?_eq_getElem hi)).status.elim .inl fun x => .inr (.inr x))
      obtain ⟨i, g, d, sl', hi, hg, hst⟩ := crowd_pick (P := P) (w := w) (sl := sl) haw ⟨0, a, h0, hrun⟩
      rcases Nat.eq_zero_or_pos i with rfl | hpos
      · obtain rfl : g = a := by rw [h0] at hi; exact (Option.some.inj hi).symm
        have hs := hstep (w.at d) ⟨d, rfl⟩
        cases hgo : stepG P true g (w.at d) with
        | go a' w' es =>
          rw [hgo, goes_go] at hs
          obtain ⟨he, hG'⟩ := hs
          have he' : es = #[] := he
          subst he'
          have hrunT := runT_crowd_go (P := P) (sl := sl') (i := 0) hi (show stepG P (0 == 0) g (w.at d) = _ from hgo)
          have hlt : 0 < gs.size := (Array.getElem?_eq_some_iff.1 h0).1
          have hsz : ((gs.map (woken P g a' w')).setIfInBounds 0 a').size = gs.size := by simp
          have hlv := leavers_own (P := P) hL hlt g a' w' g.frame.fn g.frame.place #[]
          rw [ofEvents_none] at hlv
          obtain ⟨N, gs', a'', w'', sl'', t', q', hr, hs', h0', hS, hL', hP'⟩ := ih n ((gs.map (woken P g a' w')).setIfInBounds 0 a') a' w' sl' t q (by rw [hsz]; omega) (by simp [hlt]) hlv hP hG'
          exact ⟨N + 1, gs', a'', w'', sl'', t', q', by simp only [runNT, hst, hrunT]; rw [ofEvents_none]; exact hr, hs'.trans hsz, h0', hS, hL', hP'⟩
        | _ => rw [hgo] at hs; exact hs.elim
      · have hq := hL.old i g hpos hi
        have hi0 : (i == 0) = false := by simp; omega
        have hlt : i < gs.size := (Array.getElem?_eq_some_iff.1 hi).1
        cases hqi : q i with
        | zero => rw [hqi] at hq; rw [hq.1] at hg; cases hg
        | succ k =>
          rw [hqi] at hq
          rcases hq with ⟨hf, _⟩ | ⟨_, g', es, hm, hstp, hq'⟩
          · rw [hf] at hg; cases hg
          have hrunT := runT_crowd_go (P := P) (sl := sl') (i := i) hi (by rw [hi0]; exact hstp (w.at d))
          have hsz : ((gs.map (woken P g g' (w.at d))).setIfInBounds i g').size = gs.size := by simp
          have hsum : sumTo gs.size (upd q i k) + (k + 1) = sumTo gs.size q + k := by
            have := sumTo_upd q k id hlt
            simpa [hqi] using this
          have h0' : ((gs.map (woken P g g' (w.at d))).setIfInBounds i g')[0]? = some a := by
            have hne : i ≠ 0 := by omega
            rw [Array.getElem?_setIfInBounds_ne hne, Array.getElem?_map, h0]
            simp [woken_run hrun]
          obtain ⟨N, gs', a'', w'', sl'', t', q', hr, hs', h0'', hS, hL', hP'⟩ := ih (n + 1) _ a (w.at d) sl' _ (upd q i k) (by rw [hsz]; omega) h0' (leavers_slip hL hpos hlt hq') (hP.mute (by omega) hm)
            (Goes.rely (fun a b c h k => atRel_trans a b c h k) (.inr ⟨hrun, hstep⟩) ⟨d, rfl⟩)
          exact ⟨N + 1, gs', a'', w'', sl'', t', q', by simp only [runNT, hst, hrunT]; exact hr, hs'.trans hsz, h0'', hS, hL', hP'⟩
/-- A walk that lists and changes nothing, from frame to frame. -/
theorem quiet_to {g g' : Goroutine} {wp : World} {gs : Array Goroutine} {w : World} {t : Trace} {q : Nat → Nat} (sl : Option (Nat × Nat)) (hF : Fr P Shun D g wp gs w t q) {n : Nat} (hG : ∀ w, True → Goes P true AtRel DC0 (fun g1 _ => g1 = g') n g w) :
    To P Shun D (fun g1 wp1 => g1 = g' ∧ wp1 = wp) gs w sl t := by
  obtain ⟨N, gs', a', sl', t', q', d, h1, h2, h3, rfl, h5, h6⟩ := quiet_beside _ n gs g w sl t q (Nat.le_refl _) hF.h0 hF.lv hF.past (hG w trivial)
  exact ⟨N, gs', a', wp, w.at d, sl', t', q', h1, h2, ⟨rfl, rfl⟩, h3, h5, h6, hF.at d, hF.np⟩
/-- One plain operation that gives a value and leaves the world as it is. -/
theorem op_beside (hOk : OkP P S) (hS : ∀ l, Shun l → ∃ a, l = .cell a ∧ D a.block) {f : FuncId} {tmps : Array Value} {ops : Array Oper} {i : Nat} {rest : List Nat} {o : Oper} {K : List Item} {cs : List Frame} {wp : World} {v : Value} (ho : ops[i]? = some o) (hw : Region.wanted o (yielded ops tmps) = true) (hpo : plainOp S o.op = true)
    (hx : ∀ T d, (execOp (fx f tmps (.inRegion ops (i :: rest)) []).eval o).run P (tp wp T d) = .ok (.value v) (tp wp T d))
    {gs : Array Goroutine} {w : World} {t : Trace} {q : Nat → Nat} (sl : Option (Nat × Nat)) (hF : Fr P Shun D (G (fx f tmps (.inRegion ops (i :: rest)) K) cs) wp gs w t q) :
    To P Shun D (fun g wp' => g = G ((fx f tmps (.inRegion ops (i :: rest)) K).finish v) cs ∧ ∃ T d, wp' = tp wp T d) gs w sl t := by
  refine one_beside hS rfl _ gs w sl t q (Nat.le_refl _) hF fun w1 d hpz => ?_
  obtain ⟨hN, _⟩ := plain_exec hOk (fx f tmps (.inRegion ops (i :: rest)) []).eval (fun _ => rfl) hpo
  have hs := (hN D).sim _ _ hpz (np_tp hF.np w1.tape d)
  have hxx := hx w1.tape d
  have hstep := oper_step (P := P) (fn := f) (rest := rest) ho hw K cs (w1.at d)
  generalize execOp (fx f tmps (.inRegion ops (i :: rest)) []).eval o = ex at hs hxx hstep
  rw [hxx] at hs
  obtain ⟨hnp1, w3, hw3, hpz1, hcl⟩ := hs
  have hlow := run_low (P := P) ex (w1.at d) #[]
  have e1 : (ex.runT P (w1.at d) #[]).1 = .ok (.value v) w3 := by rw [Sem.runT_fst]; exact hw3
  rw [e1] at hlow
  have hgo : stepG P true (G (fx f tmps (.inRegion ops (i :: rest)) K) cs) (w1.at d) = .go (G ((fx f tmps (.inRegion ops (i :: rest)) K).finish v) cs) w3 (seen P f (ex.events P (w1.at d) #[])) := by
    rw [hstep]
    simp [stepG.apply, hw3, fx, GStep.after, G]
  exact ⟨_, w3, _, _, hgo, hlow.1, fun e he => ⟨hcl e (seen_sub P f _ e he), (hlow.2 e (seen_sub P f _ e he)).elim (fun h => by simp at h) id⟩, hpz1, hnp1, rfl, _, _, rfl⟩
theorem To.then {K K' : Goroutine → World → Prop} {gs : Array Goroutine} {w : World} {sl : Option (Nat × Nat)} {t : Trace} (h : To P Shun D K gs w sl t)
    (hk : ∀ (gs' : Array Goroutine) (g' : Goroutine) (wp' w' : World) (sl' : Option (Nat × Nat)) (t' : Trace) (q' : Nat → Nat), K g' wp' → Fr P Shun D g' wp' gs' w' t' q' → To P Shun D K' gs' w' sl' t') : To P Shun D K' gs w sl t :=
  h.trans fun gs' g' wp' w' sl' t' q' _ hK hF => hk gs' g' wp' w' sl' t' q' hK hF
theorem enter_base {f : FuncId} {fn : Func} {c : Code} (args : Array Value) (hf : P.funcs[f]? = some fn) (hb : fn.body = some c) :
    Frame.enter P f args .normal = (base f).at { tmps := args ++ Array.replicate (fn.ntmps - args.size) undef, defers := [] } [.code c] := by
  simp [Frame.enter, Frame.at, hf, hb, base]
/-- ████ A called plain function, carried out in company, up to its caller. ████ -/
theorem lift_fun (hOk : OkP P S) (hS : ∀ l, Shun l → ∃ a, l = .cell a ∧ D a.block)
    {f : FuncId} {fn : Func} {c : Code} {args : Array Value} {ca : Frame} {cs : List Frame} {wp : World} {R : Value → World → Prop} (hf : P.funcs[f]? = some fn) (hb : fn.body = some c) (hSf : S f = true)
    (hR : ∀ v w T d, R v w → R v (tp w T d))
    (hwp : ∀ T, c.wp P (bodyPost P fn fun e w' => ∃ v, e = .returned v ∧ R v w') { tmps := args ++ Array.replicate (fn.ntmps - args.size) undef, defers := [] } (tp wp T 0))
    {gs : Array Goroutine} {w : World} (sl : Option (Nat × Nat)) {t : Trace} {q : Nat → Nat} (hF : Fr P Shun D (G (Frame.enter P f args .normal) (ca :: cs)) wp gs w t q) :
    To P Shun D (fun g' wp' => ∃ v, g' = G (ca.finish v) cs ∧ R v wp') gs w sl t := by
  have hok := hOk.fn f hSf
  have hres := okFunc_res hok
  have hpl : plainCode S c = true := by
    unfold okFunc at hok
    simp only [hf, hb, Bool.and_eq_true] at hok
    exact hok.2
  rw [enter_base args hf hb] at hF
  have still : ∀ (tm : Array Value) v w, (results fn tm).run P w = .ok v w → ∀ T d, (results fn tm).run P (tp w T d) = .ok v (tp w T d) := fun tm v w h T d => by
    have := ((results_nice (P := P) (D := DS.nil) fn tm).loc w v w h).2.2 T d fun i hi => absurd hi (by omega)
    simpa [tp] using this
  have key := lift_last (b := base f) (K := []) (Qn := fun a w => a.defers = [] ∧ ∃ v, (∀ T d, (results fn a.tmps).run P (tp w T d) = .ok v (tp w T d)) ∧ R v w) (Qr := fun a w => a.defers = [] ∧ ∃ v, (∀ T d, (results fn a.tmps).run P (tp w T d) = .ok v (tp w T d)) ∧ R v w) hOk hS rfl hres rfl hpl
    (fun a w T d ⟨h1, v, h2, h3⟩ => ⟨h1, v, fun T' d' => h2 T' d', hR v w T d h3⟩) (fun a w T d ⟨h1, v, h2, h3⟩ => ⟨h1, v, fun T' d' => h2 T' d', hR v w T d h3⟩)
    (fun T => wp_mono (hwp T) (fun e a w h => by
      cases e with
      | normal =>
        obtain ⟨h1, v, h2, v', h3, h4⟩ := h
        cases h3
        exact .inl ⟨rfl, h1, v, still _ _ _ h2, h4⟩
      | ret =>
        obtain ⟨h1, v, h2, v', h3, h4⟩ := h
        cases h3
        exact .inr ⟨rfl, h1, v, still _ _ _ h2, h4⟩
      | panic ch =>
        obtain ⟨_, v', h3, _⟩ := h
        cases h3
      | outgrown =>
        obtain ⟨v', h3, _⟩ := h
        cases h3
      | exit _ => exact h.elim
      | goto _ => exact h.elim)) sl hF
  refine key.then ?_
  rintro gs' g' wp' w' sl' t' q' (⟨a, rfl, h1, v, h2, h3⟩ | ⟨a, todo, rfl, h1, v, h2, h3⟩) hF'
  · refine (silent_beside hS rfl (fun w => done_step (S := S) (u := (base f).at a []) ⟨rfl, rfl, h1, hres, by simp [Frame.at], .inl rfl⟩ rfl rfl _ w) sl' hF').then ?_
    rintro gs2 g2 wp2 w2 sl2 t2 q2 ⟨rfl, T, d, rfl⟩ hF2
    refine (leave_beside hS (b := base f) (todo := []) rfl h1 sl2 hf h2 hF2.tp).then ?_
    rintro gs3 g3 wp3 w3 sl3 t3 q3 ⟨rfl, T3, d3, rfl⟩ hF3
    exact To.here sl3 hF3 ⟨v, rfl, hR _ _ _ _ h3⟩
  · refine (leave_beside hS (b := base f) rfl h1 sl' hf h2 hF').then ?_
    rintro gs3 g3 wp3 w3 sl3 t3 q3 ⟨rfl, T3, d3, rfl⟩ hF3
    exact To.here sl3 hF3 ⟨v, rfl, hR _ _ _ _ h3⟩
end
end Go.Proofs.YtafhpbghogdipaaGreatDoor
