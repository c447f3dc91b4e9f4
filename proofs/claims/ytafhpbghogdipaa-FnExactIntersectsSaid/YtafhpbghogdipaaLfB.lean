/- Lf6 Lf7 Lf8 Lf9 Lf10 (merge.py). -/
import Derived.Test.YtafhpbghogdipaaLfA
import Derived.Calls
/- A plain frame's step: the tree behind it is nice; what comes of it hangs on no caller. -/
namespace Go.Proofs.Ytafhpbghogdipaa
open Go.Conc
set_option maxHeartbeats 4000000
set_option linter.unusedVariables false
set_option linter.unusedSimpArgs false

/-! ### plain code -/
def plainCallee (S : FuncId → Bool) : Callee → Bool
  | .builtin .len | .builtin .cap | .builtin .append => true
  | .value (.func f) => S f
  | _ => false
def plainOp (S : FuncId → Bool) : Op → Bool
  | .move _ | .assign _ | .pick .. | .load .. | .store .. | .binOp .. | .unOp .. | .indexAddr .. | .extract .. | .buildSlice .. | .makeSlice .. | .slice .. | .makeInterface .. | .panic _ | .box .. | .alloc _ => true
  | .call c => plainCallee S c.callee
  | _ => false
def plainCode (S : FuncId → Bool) : Code → Bool
  | .skip | .exit _ | .ret | .label _ | .refuse _ => true
  | .region _ ops _ => ops.all fun o => plainOp S o.op
  | .seq a b | .cond _ a b => plainCode S a && plainCode S b
  | .block _ c | .loop c | .scope c => plainCode S c
  | _ => false
def plainItem (S : FuncId → Bool) : Item → Bool
  | .code c | .inLoop c | .inScope c => plainCode S c
  | .inBlock _ => true
  | .inRegion ops _ => ops.all fun o => plainOp S o.op
  | _ => false
def okFunc (P : Program) (S : FuncId → Bool) (f : FuncId) : Bool :=
  match P.funcs[f]? with
  | some fn => fn.name != "runtime.NumGoroutine" && (match fn.body with | some c => plainCode S c | none => false) && fn.results.all fun | .tmp _ => true | _ => false
  | none => false
/-- The function gives its temporaries back. -/
def resOk (P : Program) (f : FuncId) : Bool :=
  match P.funcs[f]? with
  | some fn => fn.results.all fun | .tmp _ => true | _ => false
  | none => false
theorem okFunc_res {P : Program} {S : FuncId → Bool} {f : FuncId} (h : okFunc P S f = true) : resOk P f = true := by
  unfold okFunc at h
  unfold resOk
  cases hp : P.funcs[f]? with
  | none => simp only [hp] at h; cases h
  | some fn => simp only [hp, Bool.and_eq_true] at h; exact h.2
/-- What a step does to the frames on top. -/
inductive Out where
  | keep (u : Frame)
  | push (f : FuncId) (args : Array Value)
  | ret (v : Value)
structure PF (P : Program) (S : FuncId → Bool) (fr : Frame) : Prop where
  kind : fr.kind = .normal
  round : fr.roundOf = none
  defers : fr.defers = []
  fn : resOk P fr.fn = true
  todo : ∀ x ∈ fr.todo, plainItem S x = true
  mode : fr.mode = .run ∨ fr.mode = .returning
def OutOk (P : Program) (S : FuncId → Bool) : Out → Prop
  | .keep u => PF P S u
  | .push f _ => S f = true
  | .ret _ => True
def StepO (P : Program) (fr : Frame) (w : World) (out : Out) (w' : World) (es : Array Event) : Prop :=
  match out with
  | .keep u => ∀ cs, stepG P true (G fr cs) w = .go (G u cs) w' es
  | .push f a => ∀ cs, stepG P true (G fr cs) w = .go (G (Frame.enter P f a .normal) (fr :: cs)) w' es
  | .ret v => fr.mode = .returning ∧ ∀ c cs, stepG P true (G fr (c :: cs)) w = .go (G (c.finish v) cs) w' es
def Doomed (P : Program) (fr : Frame) (w : World) : Prop :=
  ∀ cs, (∃ o w' es, stepG P true (G fr cs) w = .ended o w' es) ∨ ∃ chain w' es, stepG P true (G fr cs) w = .go (G { fr with mode := .panicking chain } cs) w' es
def Real (P : Program) (fr : Frame) (t : Sem Out) : Prop :=
  ∀ w, match t.run P w with
    | .ok out w' => ∃ es, StepO P fr w out w' es ∧ ∀ e ∈ es, e ∈ t.events P w #[]
    | .halt h _ => Dull h → Doomed P fr w

section
variable {P : Program} {D : DS} {S : FuncId → Bool} {α β : Type}
theorem Nice.program_bind {f : Program → Sem α} (h : Nice P D (f P)) : Nice P D (Go.program >>= f) := by
  have e : ∀ w, (Go.program >>= f).run P w = (f P).run P w := fun w => rfl
  have ev : ∀ w, (Go.program >>= f).events P w #[] = (f P).events P w #[] := fun w => rfl
  refine ⟨fun u w hp hn => ?_, fun w a w' hr => ?_⟩
  · have := h.sim u w hp hn
    rw [e]
    simp only [e, ev]
    exact this
  · rw [e] at hr
    obtain ⟨h1, h2, h3⟩ := h.loc w a w' hr
    exact ⟨h1, h2, fun T d hT => by rw [e]; exact h3 T d hT⟩
theorem value_of {s : Sem Value} {w w' : World} {n : Next} (h : (s >>= fun x => (Pure.pure (Next.value x) : Sem Next)).run P w = .ok n w') : ∃ v, n = .value v := by
  rw [Sem.run_bind] at h
  cases hs : s.run P w with
  | ok a w1 =>
    rw [hs] at h
    simp only [Result.andThen_ok, Sem.run_pure, Result.ok.injEq] at h
    exact ⟨a, h.1.symm⟩
  | halt x w1 => rw [hs] at h; cases h
def NextOk (S : FuncId → Bool) (n : Next) : Prop := (∃ v, n = .value v) ∨ n = .skip ∨ ∃ f a, n = .enter f a ∧ S f = true
theorem plain_value {s : Sem Value} (hs : ∀ D, Nice P D s) : (∀ D, Nice P D (s >>= fun x => (Pure.pure (Next.value x) : Sem Next))) ∧ ∀ w n w', (s >>= fun x => (Pure.pure (Next.value x) : Sem Next)).run P w = .ok n w' → NextOk S n :=
  ⟨fun D => (hs D).bind fun _ => .pure _, fun w n w' h => .inl (value_of h)⟩
/-- A plain operation's tree. -/
theorem plain_exec (hS : ∀ f, S f = true → okFunc P S f = true) (ρ : Operand → Value) (hρ : ∀ f, ρ (.func f) = .func (.func f) #[] #[]) {o : Oper} (ho : plainOp S o.op = true) :
    (∀ D, Nice P D (execOp ρ o)) ∧ ∀ w n w', (execOp ρ o).run P w = .ok n w' → NextOk S n := by
  obtain ⟨dst, op, ty, pos, after, guard⟩ := o
  cases op with
  | move x => exact ⟨fun D => .pure _, fun w n w' h => by cases h; exact .inl ⟨_, rfl⟩⟩
  | assign x => exact ⟨fun D => .pure _, fun w n w' h => by cases h; exact .inl ⟨_, rfl⟩⟩
  | pick c a b =>
    unfold execOp
    dsimp only
    refine ⟨fun D => (Nice.asBool _).bind fun _ => ?_, fun w n w' h => ?_⟩
    · exact Nice.pure _
    · rw [Sem.run_bind] at h
      cases hs : (Go.asBool (ρ c)).run P w with
      | ok a w1 =>
        rw [hs] at h
        cases h
        exact .inl ⟨_, rfl⟩
      | halt x w1 => rw [hs] at h; cases h
  | alloc t => exact plain_value fun D => Nice.alloc _ _ _
  | box t x => exact plain_value fun D => Nice.box _ _
  | buildSlice t n ps => exact plain_value fun D => Nice.buildSlice _ _ _
  | load t a => exact plain_value fun D => Nice.loadAt _ _
  | store t a x =>
    unfold execOp
    dsimp only
    refine ⟨fun D => (Nice.storeAt _ _ _).bind fun _ => .pure _, fun w n w' h => ?_⟩
    rw [Sem.run_bind] at h
    cases hs : (Instr.storeAt t (ρ a) (ρ x)).run P w with
    | ok b w1 =>
      rw [hs] at h
      cases h
      exact .inr (.inl rfl)
    | halt y w1 => rw [hs] at h; cases h
  | binOp b t x y t2 => exact plain_value fun D => (Nice.eqGuard _ _ _ _ _ _).bind fun _ => Nice.binOp _ _ _ _
  | unOp b t x => exact plain_value fun D => Nice.unary _ _
  | indexAddr t x i => exact plain_value fun D => Nice.indexAt _ _ _
  | extract x n => exact plain_value fun D => Nice.extract _ _
  | makeSlice t l c => exact plain_value fun D => Nice.makeSlice _ _ _
  | slice t x lo hi mx => exact plain_value fun D => Nice.sliceAt _ _ _ _ _
  | makeInterface t x => exact plain_value fun D => Nice.makeInterface _ _
  | panic x => exact plain_value fun D => Nice.panic _
  | call c =>
    obtain ⟨callee, args, ats⟩ := c
    cases callee with
    | value f =>
      cases f with
      | func f =>
        have hf : S f = true := ho
        have hok := hS f hf
        unfold okFunc at hok
        split at hok
        · rename_i fn hfn
          simp only [Bool.and_eq_true, bne_iff_ne, ne_eq] at hok
          have hname : (fn.name == "runtime.NumGoroutine") = false := by simpa using hok.1.1
          have hb : fn.body.isNone = false := by
            have := hok.1.2
            cases hb : fn.body with
            | none => rw [hb] at this; cases this
            | some c => rfl
          have hc : ∀ a, (∀ D, Nice P D (callFunc f a)) ∧ ∀ w, (callFunc f a).run P w = .ok (.enter f a) w := by
            intro a
            refine ⟨fun D => ?_, fun w => ?_⟩
            · unfold callFunc
              refine Nice.program_bind ?_
              rw [hfn]
              dsimp only
              rw [hname, hb]
              exact .pure _
            · unfold callFunc
              rw [Sem.run_bind, run_program]
              simp only [Result.andThen_ok]
              rw [hfn]
              dsimp only
              rw [hname, hb]
              rfl
          obtain ⟨a, e⟩ : ∃ a, execOp ρ ⟨dst, .call ⟨.value (.func f), args, ats⟩, ty, pos, after, guard⟩ = callFunc f a := by
            unfold execOp resolve
            dsimp only
            rw [hρ]
            exact ⟨_, rfl⟩
          rw [e]
          refine ⟨(hc a).1, fun w n w' h => ?_⟩
          rw [(hc a).2] at h
          cases h
          exact .inr (.inr ⟨f, a, rfl, hf⟩)
        · cases hok
      | _ => cases ho
    | builtin b =>
      cases b <;> first
        | exact plain_value fun D => Nice.len_ _ _ _
        | exact plain_value fun D => Nice.cap_ _ _ _
        | exact plain_value fun D => Nice.append_ _ _ _
        | cases ho
    | invoke _ _ => cases ho
  | _ => cases ho
end
end Go.Proofs.Ytafhpbghogdipaa

/- Every step of a plain frame is behind a nice tree. -/
namespace Go.Proofs.Ytafhpbghogdipaa
open Go.Conc
set_option maxHeartbeats 4000000
set_option linter.unusedVariables false
set_option linter.unusedSimpArgs false

section
variable {P : Program} {D : DS} {S : FuncId → Bool} {fr : Frame}
/-- What a step does to the item on top, whatever stands below it. -/
inductive OutP where
  | keep (tmps : Array Value) (pre : List Item)
  | exit (id : Nat)
  | push (f : FuncId) (args : Array Value)
  | back
def OutPOk (S : FuncId → Bool) : OutP → Prop
  | .keep _ pre => ∀ x ∈ pre, plainItem S x = true
  | .push f _ => S f = true
  | _ => True
/-- The frame with item x on top. -/
def fx (fn : FuncId) (tmps : Array Value) (x : Item) (r : List Item) : Frame := { fn, tmps, todo := x :: r, defers := [], mode := .run, kind := .normal }
def StepP (P : Program) (fn : FuncId) (tmps : Array Value) (x : Item) (w : World) (out : OutP) (w' : World) (es : Array Event) : Prop :=
  ∀ r cs, match out with
    | .keep tm pre => stepG P true (G (fx fn tmps x r) cs) w = .go (G { fn, tmps := tm, todo := pre ++ r, defers := [], mode := .run, kind := .normal } cs) w' es
    | .exit id => (∀ k, exitTo id r = some k → stepG P true (G (fx fn tmps x r) cs) w = .go (G { fn, tmps, todo := k, defers := [], mode := .run, kind := .normal } cs) w' es) ∧
        (exitTo id r = none → ∃ o w1 es1, stepG P true (G (fx fn tmps x r) cs) w = .ended o w1 es1)
    | .push f a => stepG P true (G (fx fn tmps x r) cs) w = .go (G (Frame.enter P f a .normal) (fx fn tmps x r :: cs)) w' es
    | .back => stepG P true (G (fx fn tmps x r) cs) w = .go (G { fn, tmps, todo := x :: r, defers := [], mode := .returning, kind := .normal } cs) w' es
def DoomP (P : Program) (fn : FuncId) (tmps : Array Value) (x : Item) (w : World) : Prop :=
  ∀ r cs, (∃ o w' es, stepG P true (G (fx fn tmps x r) cs) w = .ended o w' es) ∨ ∃ chain w' es, stepG P true (G (fx fn tmps x r) cs) w = .go (G { fx fn tmps x r with mode := .panicking chain } cs) w' es
def RealP (P : Program) (fn : FuncId) (tmps : Array Value) (x : Item) (t : Sem OutP) : Prop :=
  ∀ w, match t.run P w with
    | .ok out w' => ∃ es, StepP P fn tmps x w out w' es ∧ ∀ e ∈ es, e ∈ t.events P w #[]
    | .halt h _ => Dull h → DoomP P fn tmps x w
/-- A tree stands behind the item's step. -/
def HasTreeP (P : Program) (S : FuncId → Bool) (fn : FuncId) (tmps : Array Value) (x : Item) : Prop :=
  ∃ t : Sem OutP, (∀ D, Nice P D t) ∧ (∀ w out w', t.run P w = .ok out w' → OutPOk S out) ∧ RealP P fn tmps x t
theorem of_ctl {fn : FuncId} {tmps : Array Value} {x : Item} {pre : List Item} (hu : ∀ y ∈ pre, plainItem S y = true)
    (hs : ∀ r cs w, stepG P true (G (fx fn tmps x r) cs) w = .go (G { fn, tmps, todo := pre ++ r, defers := [], mode := .run, kind := .normal } cs) w #[]) : HasTreeP P S fn tmps x := by
  refine ⟨Pure.pure (.keep tmps pre), fun D => .pure _, fun w out w' h => ?_, fun w => ?_⟩
  · simp only [Sem.run_pure, Result.ok.injEq] at h
    rw [← h.1]
    exact hu
  · simp only [Sem.run_pure]
    exact ⟨#[], fun r cs => hs r cs w, by simp⟩
theorem of_lost {fn : FuncId} {tmps : Array Value} {x : Item} (hs : ∀ r cs w, ∃ o w' es, stepG P true (G (fx fn tmps x r) cs) w = .ended o w' es) : HasTreeP P S fn tmps x :=
  ⟨Go.stuck "", fun D => .stuck _, fun w out w' h => by simp at h, fun w => fun _ r cs => .inl (hs r cs w)⟩
theorem fold_sub {f : Bool × Array Event → Event → Bool × Array Event} (hf : ∀ x e, (f x e).2 = x.2 ∨ (f x e).2 = x.2.push e) : ∀ (l : List Event) (x : Bool × Array Event), ∀ e ∈ (l.foldl f x).2, e ∈ x.2 ∨ e ∈ l
  | [], x, e, he => .inl he
  | a :: l, x, e, he => by
    rw [List.foldl_cons] at he
    rcases fold_sub hf l _ e he with h | h
    · rcases hf x a with h1 | h1
      · rw [h1] at h; exact .inl h
      · rw [h1] at h
        rcases Array.mem_push.1 h with h | h
        · exact .inl h
        · subst h; exact .inr (List.mem_cons_self ..)
    · exact .inr (List.mem_cons_of_mem _ h)
theorem seen_sub (P : Program) (fn : FuncId) (es : Array Event) : ∀ e ∈ seen P fn es, e ∈ es := by
  intro e he
  unfold seen at he
  dsimp only at he
  rw [← Array.foldl_toList] at he
  refine (fold_sub (fun x e => ?_) es.toList _ e he).elim (fun h => by simp at h) (fun h => Array.mem_toList_iff.1 h)
  obtain ⟨q, kept⟩ := x
  dsimp only
  split
  · exact .inl rfl
  · dsimp only
    split
    · exact .inl rfl
    · exact .inr rfl
theorem PF.finish (h : PF P S fr) (v : Value) : PF P S (fr.finish v) := by
  obtain ⟨fn, tmps, todo, defers, mode, kind, roundOf⟩ := fr
  obtain ⟨h1, h2, h3, h4, h5, h6⟩ := h
  simp only at h1 h2 h3 h4 h5 h6
  cases todo with
  | nil => exact ⟨h1, h2, h3, h4, h5, h6⟩
  | cons x k =>
    have hx := h5 x (List.mem_cons_self ..)
    have hk : ∀ y ∈ k, plainItem S y = true := fun y hy => h5 y (List.mem_cons_of_mem _ hy)
    cases x <;> first
      | exact ⟨h1, h2, h3, h4, h5, h6⟩
      | cases hx
      | skip
    rename_i ops todo
    cases todo with
    | nil => exact ⟨h1, h2, h3, h4, h5, h6⟩
    | cons i rest =>
      refine ⟨h1, h2, h3, h4, fun y hy => ?_, h6⟩
      rcases List.mem_cons.1 hy with h | h
      · rw [h]; exact hx
      · exact hk y h
theorem exitTo_sub {id : Nat} : ∀ {k k' : List Item}, exitTo id k = some k' → ∀ y ∈ k', y ∈ k
  | [], k', h => by simp [exitTo] at h
  | x :: k, k', h => by
    intro y hy
    cases x <;> simp only [exitTo] at h <;> first
      | exact List.mem_cons_of_mem _ (exitTo_sub h y hy)
      | (split at h
         · obtain rfl := Option.some.inj h
           exact List.mem_cons_of_mem _ hy
         · exact List.mem_cons_of_mem _ (exitTo_sub h y hy))
theorem mapM_run {f : ResultVar → Sem Value} : ∀ (l : List ResultVar) (acc : Array Value), (∀ x ∈ l, ∃ v, ∀ w, (f x).run P w = .ok v w ∧ (f x).events P w #[] = #[]) →
    ∃ a : Array Value, ∀ w, (l.foldlM (fun acc x => Functor.map acc.push (f x)) acc : Sem (Array Value)).run P w = .ok a w ∧ (l.foldlM (fun acc x => Functor.map acc.push (f x)) acc : Sem (Array Value)).events P w #[] = #[]
  | [], acc, _ => ⟨acc, fun w => ⟨rfl, rfl⟩⟩
  | x :: l, acc, hl => by
    obtain ⟨v, hv⟩ := hl x (List.mem_cons_self ..)
    obtain ⟨a, ha⟩ := mapM_run l (acc.push v) fun y hy => hl y (List.mem_cons_of_mem _ hy)
    refine ⟨a, fun w => ?_⟩
    rw [List.foldlM_cons]
    simp only [Sem.run_bind, Sem.events_bind, Sem.run_map, Sem.events_map, (hv w).1, (hv w).2, Result.andThen_ok, Result.evThen_ok]
    exact ha w
theorem results_run {fn : Func} (h : fn.results.all (fun | .tmp _ => true | _ => false) = true) (tmps : Array Value) : ∃ v, ∀ w, (results fn tmps).run P w = .ok v w ∧ (results fn tmps).events P w #[] = #[] := by
  have hl : ∀ x ∈ fn.results.toList, ∃ t, x = .tmp t := by
    intro x hx
    have := Array.all_eq_true_iff_forall_mem.1 h x (Array.mem_toList_iff.1 hx)
    cases x with
    | tmp t => exact ⟨t, rfl⟩
    | cell a t => cases this
  unfold results
  rw [Array.mapM_eq_foldlM, ← Array.foldlM_toList]
  obtain ⟨a, ha⟩ := mapM_run (P := P) (f := fun x => match x with
    | .tmp t => Pure.pure (tmps.getD t undef)
    | .cell a t => asAddr (tmps.getD a undef) >>= loadVar t) fn.results.toList #[] fun x hx => by
      obtain ⟨t, rfl⟩ := hl x hx
      exact ⟨tmps.getD t undef, fun w => ⟨rfl, rfl⟩⟩
  refine ⟨if h : a.size = 1 then a[0] else .tuple a, fun w => ?_⟩
  rw [Sem.run_bind, Sem.events_bind]
  have h1 := (ha w).1
  have h2 := (ha w).2
  constructor
  · exact (congrArg (fun r => Result.andThen r _) h1).trans rfl
  · refine Eq.trans (congrArg (fun r => Result.evThen r _ _) h1) ?_
    exact h2
end
end Go.Proofs.Ytafhpbghogdipaa

/- Every plain item has a tree. -/
namespace Go.Proofs.Ytafhpbghogdipaa
open Go.Conc
set_option maxHeartbeats 4000000
set_option linter.unusedVariables false
set_option linter.unusedSimpArgs false

section
variable {P : Program} {D : DS} {S : FuncId → Bool}
theorem oper_step {fn : FuncId} {tmps : Array Value} {ops : Array Oper} {i : Nat} {rest : List Nat} {o : Oper} (ho : ops[i]? = some o) (hw : Region.wanted o (yielded ops tmps) = true)
    (k : List Item) (cs : List Frame) (w : World) : stepG P true (G (fx fn tmps (.inRegion ops (i :: rest)) k) cs) w =
      stepG.apply P true (fx fn tmps (.inRegion ops (i :: rest)) k) cs none (execOp (fx fn tmps (.inRegion ops (i :: rest)) []).eval o) w := by
  have e : (fx fn tmps (.inRegion ops (i :: rest)) k).eval = (fx fn tmps (.inRegion ops (i :: rest)) []).eval := by funext x; cases x <;> rfl
  rw [← e]
  simp [fx, G, stepG, stepG.exec, stepG.oper, Frame.oper?, ho, hw]
theorem plain_item (hS : ∀ f, S f = true → okFunc P S f = true) {fn : FuncId} {tmps : Array Value} {x : Item} (hx : plainItem S x = true) : HasTreeP P S fn tmps x := by
  cases x with
  | code c =>
    cases c with
    | skip => exact of_ctl (pre := []) (by simp) fun r cs w => by simp [fx, G, stepG, stepG.exec]
    | label l => exact of_ctl (pre := []) (by simp) fun r cs w => by simp [fx, G, stepG, stepG.exec]
    | refuse why => exact of_lost fun r cs w => ⟨_, _, _, by simp [fx, G, stepG, stepG.exec]; exact ⟨rfl, rfl, rfl⟩⟩
    | ret =>
      refine ⟨Pure.pure .back, fun D => .pure _, fun w out w' h => ?_, fun w => ?_⟩
      · simp only [Sem.run_pure, Result.ok.injEq] at h
        rw [← h.1]
        trivial
      · simp only [Sem.run_pure]
        exact ⟨#[], fun r cs => by simp [fx, G, stepG, stepG.exec], by simp⟩
    | seq a b =>
      have hab : plainCode S a = true ∧ plainCode S b = true := by simpa [plainItem, plainCode] using hx
      exact of_ctl (pre := [.code a, .code b]) (by intro y hy; simp only [List.mem_cons, List.not_mem_nil, or_false] at hy; rcases hy with rfl | rfl; exact hab.1; exact hab.2) fun r cs w => by simp [fx, G, stepG, stepG.exec]
    | cond c a b =>
      have hab : plainCode S a = true ∧ plainCode S b = true := by simpa [plainItem, plainCode] using hx
      have hev : ∀ r, (fx fn tmps (.code (.cond c a b)) r).eval c = (fx fn tmps (.code (.cond c a b)) []).eval c := fun r => by cases c <;> rfl
      cases hc : (fx fn tmps (.code (.cond c a b)) []).eval c with
      | bool t =>
        cases t with
        | true =>
          exact of_ctl (pre := [.code a]) (by intro y hy; simp only [List.mem_cons, List.not_mem_nil, or_false] at hy; rcases hy with rfl; exact hab.1) fun r cs w => by
            have h1 := (hev r).trans hc
            unfold fx at h1
            simp [fx, G, stepG, stepG.exec, h1]
        | false =>
          exact of_ctl (pre := [.code b]) (by intro y hy; simp only [List.mem_cons, List.not_mem_nil, or_false] at hy; rcases hy with rfl; exact hab.2) fun r cs w => by
            have h1 := (hev r).trans hc
            unfold fx at h1
            simp [fx, G, stepG, stepG.exec, h1]
      | _ =>
        exact of_lost fun r cs w => by
          have h1 := (hev r).trans hc
          unfold fx at h1
          exact ⟨_, _, _, by simp [fx, G, stepG, stepG.exec, h1]; exact ⟨rfl, rfl, rfl⟩⟩
    | block id b => exact of_ctl (pre := [.code b, .inBlock id]) (by intro y hy; simp only [List.mem_cons, List.not_mem_nil, or_false] at hy; rcases hy with rfl | rfl; exact hx; rfl) fun r cs w => by simp [fx, G, stepG, stepG.exec]
    | loop b => exact of_ctl (pre := [.code b, .inLoop b]) (by intro y hy; simp only [List.mem_cons, List.not_mem_nil, or_false] at hy; rcases hy with rfl | rfl; exact hx; exact hx) fun r cs w => by simp [fx, G, stepG, stepG.exec]
    | scope b => exact of_ctl (pre := [.code b, .inScope b]) (by intro y hy; simp only [List.mem_cons, List.not_mem_nil, or_false] at hy; rcases hy with rfl | rfl; exact hx; exact hx) fun r cs w => by simp [fx, G, stepG, stepG.exec]
    | exit id =>
      refine ⟨Pure.pure (.exit id), fun D => .pure _, fun w out w' h => ?_, fun w => ?_⟩
      · simp only [Sem.run_pure, Result.ok.injEq] at h
        rw [← h.1]
        trivial
      · simp only [Sem.run_pure]
        exact ⟨#[], fun r cs => ⟨fun k hk => by simp [fx, G, stepG, stepG.exec, hk], fun hk => ⟨_, _, _, by simp [fx, G, stepG, stepG.exec, hk]; exact ⟨rfl, rfl, rfl⟩⟩⟩, by simp⟩
    | region id ops draw =>
      cases draw with
      | false => exact of_ctl (pre := [.inRegion ops (List.range ops.size)]) (by intro y hy; simp only [List.mem_cons, List.not_mem_nil, or_false] at hy; rcases hy with rfl; exact hx) fun r cs w => by simp [fx, G, stepG, stepG.exec]
      | true =>
        refine ⟨Go.choose (.order fn id) >>= fun t => (Pure.pure (OutP.keep tmps [.inRegion ops (Region.schedule (P.follows .mixedOrders) ops t)]) : Sem OutP), fun D => (Nice.choose _).bind fun _ => .pure _, fun w out w' h => ?_, fun w => ?_⟩
        · rw [Sem.run_bind] at h
          cases hc : (Go.choose (.order fn id)).run P w with
          | ok t w1 =>
            rw [hc] at h
            simp only [Result.andThen_ok, Sem.run_pure, Result.ok.injEq] at h
            rw [← h.1]
            intro y hy
            simp only [List.mem_cons, List.not_mem_nil, or_false] at hy
            subst hy
            exact hx
          | halt y w1 => rw [hc] at h; cases h
        · rw [Sem.run_bind]
          have hc : (Go.choose (.order fn id)).run P w = .ok (w.tape w.drawn (.order fn id)) { w with drawn := w.drawn + 1 } := rfl
          rw [hc]
          simp only [Result.andThen_ok, Sem.run_pure]
          refine ⟨#[], fun r cs => ?_, by simp⟩
          simp only [fx, G, stepG, stepG.exec, Bool.not_true, Bool.false_eq_true, if_false]
          rw [hc]
          rfl
    | _ => cases hx
  | inBlock id => exact of_ctl (pre := []) (by simp) fun r cs w => by simp [fx, G, stepG, stepG.exec]
  | inScope b => exact of_ctl (pre := []) (by simp) fun r cs w => by simp [fx, G, stepG, stepG.exec]
  | inLoop b => exact of_ctl (pre := [.code b, .inLoop b]) (by intro y hy; simp only [List.mem_cons, List.not_mem_nil, or_false] at hy; rcases hy with rfl | rfl; exact hx; exact hx) fun r cs w => by simp [fx, G, stepG, stepG.exec]
  | inRegion ops todo =>
    cases todo with
    | nil => exact of_ctl (pre := []) (by simp) fun r cs w => by simp [fx, G, stepG, stepG.exec]
    | cons i rest =>
      have hrest : ∀ y ∈ [Item.inRegion ops rest], plainItem S y = true := by intro y hy; simp only [List.mem_cons, List.not_mem_nil, or_false] at hy; subst hy; exact hx
      have hfin : ∀ v r, (fx fn tmps (.inRegion ops (i :: rest)) r).finish v = { fn, tmps := (fx fn tmps (.inRegion ops (i :: rest)) []).finish v |>.tmps, todo := [Item.inRegion ops rest] ++ r, defers := [], mode := .run, kind := .normal } := fun v r => rfl
      by_cases hwd : ((ops[i]?).map (Region.wanted · (yielded ops tmps))).getD false = true
      · cases ho : ops[i]? with
        | none => rw [ho] at hwd; simp at hwd
        | some o =>
          rw [ho] at hwd
          have hw : Region.wanted o (yielded ops tmps) = true := by simpa using hwd
          have hpo : plainOp S o.op = true := by
            have : ops.all (fun o => plainOp S o.op) = true := hx
            exact Array.all_eq_true_iff_forall_mem.1 this o (Array.mem_of_getElem? ho)
          have hstep := fun k cs w => oper_step (P := P) (fn := fn) (rest := rest) ho hw k cs w
          obtain ⟨hn, hok⟩ := plain_exec hS (fx fn tmps (.inRegion ops (i :: rest)) []).eval (fun _ => rfl) hpo
          generalize hex : execOp (fx fn tmps (.inRegion ops (i :: rest)) []).eval o = ex at hstep hn hok
          refine ⟨ex >>= fun n => (match n with
            | .value v => Pure.pure (OutP.keep ((fx fn tmps (.inRegion ops (i :: rest)) []).finish v).tmps [.inRegion ops rest])
            | .skip => Pure.pure (OutP.keep ((fx fn tmps (.inRegion ops (i :: rest)) []).finish undef).tmps [.inRegion ops rest])
            | .enter f a => Pure.pure (OutP.push f a)
            | _ => Go.stuck "" : Sem OutP), fun D => (hn D).bind fun n => ?_, fun w out w' h => ?_, fun w => ?_⟩
          · cases n <;> first | exact Nice.pure _ | exact Nice.stuck _
          · rw [Sem.run_bind] at h
            cases hc : ex.run P w with
            | halt y w1 => rw [hc] at h; cases h
            | ok n w1 =>
              rw [hc] at h
              rcases hok w n w1 hc with ⟨v, rfl⟩ | rfl | ⟨f, a, rfl, hf⟩
              · simp only [Result.andThen_ok, Sem.run_pure, Result.ok.injEq] at h
                rw [← h.1]
                exact hrest
              · simp only [Result.andThen_ok, Sem.run_pure, Result.ok.injEq] at h
                rw [← h.1]
                exact hrest
              · simp only [Result.andThen_ok, Sem.run_pure, Result.ok.injEq] at h
                rw [← h.1]
                exact hf
          · rw [Sem.run_bind, Sem.events_bind]
            cases hc : ex.run P w with
            | halt y w1 =>
              simp only [Result.andThen_halt]
              intro hd r cs
              rw [hstep]
              cases y with
              | panic v => exact .inr ⟨[{ v, recovered := false }], w1, seen P fn (ex.events P w #[]), by simp [stepG.apply, hc, fx, GStep.after, G, Frame.raise]⟩
              | stuck s => exact .inl ⟨_, w1, seen P fn (ex.events P w #[]), by simp [stepG.apply, hc, fx, GStep.after]; rfl⟩
              | unsupported x =>
                cases x <;> first
                  | exact hd.elim
                  | exact .inl ⟨_, w1, seen P fn (ex.events P w #[]), by simp [stepG.apply, hc, fx, GStep.after]; rfl⟩
              | _ => exact hd.elim
            | ok n w1 =>
              rcases hok w n w1 hc with ⟨v, rfl⟩ | rfl | ⟨f, a, rfl, hf⟩
              · simp only [Result.andThen_ok, Result.evThen_ok, Sem.run_pure, Sem.events_pure]
                refine ⟨seen P fn (ex.events P w #[]), fun r cs => ?_, seen_sub P fn _⟩
                show stepG P true (G (fx fn tmps (.inRegion ops (i :: rest)) r) cs) w = _
                rw [hstep, ← hfin]
                simp [stepG.apply, hc, fx, GStep.after, G]
              · simp only [Result.andThen_ok, Result.evThen_ok, Sem.run_pure, Sem.events_pure]
                refine ⟨seen P fn (ex.events P w #[]), fun r cs => ?_, seen_sub P fn _⟩
                show stepG P true (G (fx fn tmps (.inRegion ops (i :: rest)) r) cs) w = _
                rw [hstep, ← hfin]
                simp [stepG.apply, hc, fx, GStep.after, G]
              · simp only [Result.andThen_ok, Result.evThen_ok, Sem.run_pure, Sem.events_pure]
                refine ⟨seen P fn (ex.events P w #[]), fun r cs => ?_, seen_sub P fn _⟩
                show stepG P true (G (fx fn tmps (.inRegion ops (i :: rest)) r) cs) w = _
                rw [hstep]
                simp [stepG.apply, hc, fx, GStep.after, G]
      · refine ⟨Pure.pure (.keep ((fx fn tmps (.inRegion ops (i :: rest)) []).finish undef).tmps [.inRegion ops rest]), fun D => .pure _, fun w out w' h => ?_, fun w => ?_⟩
        · simp only [Sem.run_pure, Result.ok.injEq] at h
          rw [← h.1]
          exact hrest
        · simp only [Sem.run_pure]
          refine ⟨#[], fun r cs => ?_, by simp⟩
          show stepG P true (G (fx fn tmps (.inRegion ops (i :: rest)) r) cs) w = _
          rw [← hfin]
          simp only [fx, G, stepG, stepG.exec]
          exact if_neg hwd
  | _ => cases hx
/-- The base's return. -/
theorem ret_step {fr : Frame} (hf : resOk P fr.fn = true) (hd : fr.defers = []) (hk : fr.kind = .normal) (hm : fr.mode = .returning) : ∃ v, ∀ td w c cs, stepG P true (G { fr with todo := td } (c :: cs)) w = .go (G (c.finish v) cs) w #[] := by
  have hok := hf
  unfold resOk at hok
  split at hok
  · rename_i f hf
    obtain ⟨v, hv⟩ := results_run (P := P) hok fr.tmps
    refine ⟨v, fun td w c cs => ?_⟩
    have h1 := (hv w).1
    have h2 := (hv w).2
    have es : seen P fr.fn #[] = #[] := by simp [seen]
    simp [G, stepG, unwind, hd, hk, hm, hf, h1, h2, doReturn, GStep.after, es]
  · cases hok
end
end Go.Proofs.Ytafhpbghogdipaa

/- The frames on top of a lone machine; what ends whatever is drawn (the tape may turn at every step). -/
namespace Go.Proofs.Ytafhpbghogdipaa
open Go.Conc
set_option maxHeartbeats 4000000
set_option linter.unusedVariables false
set_option linter.unusedSimpArgs false

/-- w at place d of tape T. -/
def tp (w : World) (T : Nat → Question → Nat) (d : Nat) : World := { w with tape := T, drawn := d }
/-- The caller who ends the run at once. -/
def bad : Frame := { fn := 0, tmps := #[], todo := [.code (.refuse "")], defers := [⟨.nil, #[]⟩], mode := .run, kind := .normal }
def notSeq : Item → Prop
  | .code (.seq _ _) => False
  | _ => True
/-- The frames on top, behind a step of the topmost's item. -/
def nextP (P : Program) : OutP → FuncId → Array Value → Item → List Item → List Frame → Option (List Frame)
  | .keep tm pre, fn, _, _, r, rest => some ({ fn, tmps := tm, todo := pre ++ r, defers := [], mode := .run, kind := .normal } :: rest)
  | .exit id, fn, tmps, _, r, rest => (exitTo id r).map fun k => { fn, tmps, todo := k, defers := [], mode := .run, kind := .normal } :: rest
  | .push f a, fn, tmps, x, r, rest => some (Frame.enter P f a .normal :: fx fn tmps x r :: rest)
  | .back, fn, tmps, x, r, rest => some ({ fn, tmps, todo := x :: r, defers := [], mode := .returning, kind := .normal } :: rest)
/-- It ends, whatever is drawn, as Fin says. -/
inductive Term (P : Program) (S : FuncId → Bool) (Fin : List Frame → World → Prop) : List Frame → World → Prop
  | fin {us : List Frame} {w : World} : Fin us w → Term P S Fin us w
  | done {u : Frame} {rest : List Frame} {w : World} : PF P S u → u.mode = .run → u.todo = [] → Term P S Fin ({ u with mode := .returning } :: rest) w → Term P S Fin (u :: rest) w
  | ret {u c : Frame} {rest : List Frame} {w : World} (v : Value) : PF P S u → u.mode = .returning → (∀ td w' c' cs, stepG P true (G { u with todo := td } (c' :: cs)) w' = .go (G (c'.finish v) cs) w' #[]) → Term P S Fin (c.finish v :: rest) w → Term P S Fin (u :: c :: rest) w
  | seq {fn : FuncId} {tmps : Array Value} {a b : Code} {r : List Item} {rest : List Frame} {w : World} :
      Term P S Fin ({ fn, tmps, todo := .code a :: .code b :: r, defers := [], mode := .run, kind := .normal } :: rest) w → Term P S Fin (fx fn tmps (.code (.seq a b)) r :: rest) w
  | step {fn : FuncId} {tmps : Array Value} {x : Item} {r : List Item} {rest : List Frame} {w : World} (t : Sem OutP) : notSeq x → (∀ D, Nice P D t) → RealP P fn tmps x t →
      (∀ T d, ∃ out w' us', t.run P (tp w T d) = .ok out w' ∧ nextP P out fn tmps x r rest = some us') →
      (∀ T d out w' us', t.run P (tp w T d) = .ok out w' → nextP P out fn tmps x r rest = some us' → Term P S Fin us' w') → Term P S Fin (fx fn tmps x r :: rest) w

section
variable {P : Program} {S : FuncId → Bool} {Fin : List Frame → World → Prop}
def PFs (P : Program) (S : FuncId → Bool) (us : List Frame) : Prop := ∀ u ∈ us, PF P S u
theorem pf_enter (hS : ∀ f, S f = true → okFunc P S f = true) {f : FuncId} (hf : S f = true) (a : Array Value) : PF P S (Frame.enter P f a .normal) := by
  have := hS f hf
  unfold okFunc at this
  split at this
  · rename_i fn hfn
    simp only [Bool.and_eq_true] at this
    refine ⟨rfl, rfl, rfl, okFunc_res (hS f hf), fun x hx => ?_, .inl rfl⟩
    simp only [Frame.enter, hfn, Option.bind_some, List.mem_singleton] at hx
    subst hx
    have hb := this.1.2
    cases hbd : fn.body with
    | none => rw [hbd] at hb; cases hb
    | some c => rw [hbd] at hb; simpa [plainItem] using hb
  · cases this
theorem pf_fx {u : Frame} (h : PF P S u) (hm : u.mode = .run) {x : Item} {r : List Item} (ht : u.todo = x :: r) : u = fx u.fn u.tmps x r := by
  obtain ⟨fn, tmps, todo, defers, mode, kind, roundOf⟩ := u
  obtain ⟨h1, h2, h3, _, _, _⟩ := h
  simp only at h1 h2 h3 hm ht
  subst h1 h2 h3 hm ht
  rfl
theorem pfs_next (hS : ∀ f, S f = true → okFunc P S f = true) {out : OutP} {fn : FuncId} {tmps : Array Value} {x : Item} {r : List Item} {rest us' : List Frame} (h : PFs P S (fx fn tmps x r :: rest)) (ho : OutPOk S out) (hn : nextP P out fn tmps x r rest = some us') : PFs P S us' := by
  have hu := h _ (List.mem_cons_self ..)
  have hr : ∀ y ∈ rest, PF P S y := fun y hy => h y (List.mem_cons_of_mem _ hy)
  cases out with
  | keep tm pre =>
    cases hn
    intro y hy
    rcases List.mem_cons.1 hy with e | hy
    · rw [e]
      refine ⟨rfl, rfl, rfl, hu.fn, fun z hz => ?_, .inl rfl⟩
      rcases List.mem_append.1 hz with hz | hz
      · exact ho z hz
      · exact hu.todo z (List.mem_cons_of_mem _ hz)
    · exact hr y hy
  | exit id =>
    simp only [nextP] at hn
    obtain ⟨k, hk, rfl⟩ := Option.map_eq_some_iff.1 hn
    intro y hy
    rcases List.mem_cons.1 hy with e | hy
    · rw [e]
      exact ⟨rfl, rfl, rfl, hu.fn, fun z hz => hu.todo z (List.mem_cons_of_mem _ (exitTo_sub hk z hz)), .inl rfl⟩
    · exact hr y hy
  | push f a =>
    cases hn
    intro y hy
    rcases List.mem_cons.1 hy with e | hy
    · rw [e]; exact pf_enter hS ho a
    · exact h y hy
  | back =>
    cases hn
    intro y hy
    rcases List.mem_cons.1 hy with e | hy
    · rw [e]; exact ⟨rfl, rfl, rfl, hu.fn, hu.todo, .inr rfl⟩
    · exact hr y hy
theorem next_ne {out : OutP} {fn : FuncId} {tmps : Array Value} {x : Item} {r : List Item} {rest us' : List Frame} (hn : nextP P out fn tmps x r rest = some us') : us' ≠ [] := by
  cases out with
  | exit id =>
    simp only [nextP] at hn
    obtain ⟨k, _, rfl⟩ := Option.map_eq_some_iff.1 hn
    simp
  | _ => cases hn; simp

/-! ### the lone machine -/
def lo (us : List Frame) (w : World) : Machine := lone (us.headD bad) (us.tail ++ [bad]) w
theorem lo_inj {us us' : List Frame} {w w' : World} (hne : us ≠ []) (hne' : us' ≠ []) (h : lo us w = lo us' w') : us = us' ∧ w = w' := by
  cases us with
  | nil => exact absurd rfl hne
  | cons u r =>
    cases us' with
    | nil => exact absurd rfl hne'
    | cons u' r' =>
      simp only [lo, lone, List.headD_cons, List.tail_cons, Machine.mk.injEq] at h
      obtain ⟨h1, h2, _⟩ := h
      simp only [Array.mk.injEq, List.cons.injEq, Goroutine.mk.injEq] at h2
      obtain ⟨⟨h3, h4, _⟩, _⟩ := h2
      exact ⟨by rw [h3, List.append_cancel_right h4], h1⟩
theorem step_go {fr fr' : Frame} {cs cs' : List Frame} {w w' : World} {es : Array Event} (h : stepG P true (G fr cs) w = .go (G fr' cs') w' es) : step P (lone fr cs w) = .next (lone fr' cs' w') := by
  refine step_lone_go ?_
  unfold G at h
  rw [h]
  rfl
theorem step_end' {fr : Frame} {cs : List Frame} {w w' : World} {o : Outcome} {es : Array Event} (h : stepG P true (G fr cs) w = .ended o w' es) : step P (lone fr cs w) = .ended o w' := by
  refine step_lone_ended ?_
  unfold G at h
  rw [h]
  rfl
theorem raise_mode (c : Frame) (chain : List PanicEntry) : ∃ ch, c.raise chain = { c with mode := .panicking ch } := by
  unfold Frame.raise
  split <;> exact ⟨_, rfl⟩
theorem no_catch {c : Frame} (h : PF P S c) (m : FrameMode) : ({ c with mode := m } : Frame).catches P = false := by
  unfold Frame.catches
  split
  · rename_i h1 h2
    have := h.todo _ (by rw [show c.todo = _ from h2]; exact List.mem_cons_self ..)
    cases this
  · rfl
/-- No end of ours panics. -/
def Calm (us : List Frame) : Prop := us ≠ [] ∧ ∀ ch, (us.headD bad).mode ≠ .panicking ch
theorem panic_dead : ∀ (N : Nat) (r : List Frame), PFs P S r → ∀ (u : Frame), PF P S u → ∀ (chain : List PanicEntry) (w : World) (us' : List Frame) (w' : World), Calm us' →
    runN P N (lone { u with mode := .panicking chain } (r ++ [bad]) w) ≠ .next (lo us' w')
  | 0, r, _, u, _, chain, w, us', w', hm => by
    intro h
    simp only [runN, Stepped.next.injEq] at h
    obtain ⟨e, _⟩ := lo_inj (us := { u with mode := .panicking chain } :: r) (by simp) hm.1 h
    exact hm.2 chain (by rw [← e]; rfl)
  | N + 1, r, hr, u, hu, chain, w, us', w', hm => by
    intro h
    have hcat : ({ u with mode := .panicking chain } : Frame).catches P = false := no_catch hu _
    simp only [hu.defers] at hcat
    cases r with
    | cons c r =>
      obtain ⟨ch, hc⟩ := raise_mode c chain
      have hs : stepG P true (G { u with mode := .panicking chain } (c :: (r ++ [bad]))) w = .go (G { c with mode := .panicking ch } (r ++ [bad])) w #[] := by
        simp only [G, stepG, unwind, hu.defers, hcat, hc]
        simp
      have hn := step_go hs
      simp only [runN, List.cons_append, hn] at h
      exact panic_dead N r (fun x hx => hr x (List.mem_cons_of_mem _ hx)) c (hr c (List.mem_cons_self ..)) ch w us' w' hm h
    | nil =>
      obtain ⟨ch, hc⟩ := raise_mode bad chain
      have hs : stepG P true (G { u with mode := .panicking chain } [bad]) w = .go (G { bad with mode := .panicking ch } []) w #[] := by
        simp only [G, stepG, unwind, hu.defers, hcat, hc]
        simp
      have hn := step_go hs
      simp only [runN, List.nil_append, hn] at h
      cases N with
      | zero =>
        simp only [runN, Stepped.next.injEq, lo, lone, Machine.mk.injEq] at h
        have h2 := h.2.1
        simp at h2
      | succ N =>
        have he : ∃ o w1 es, stepG P true (G { bad with mode := .panicking ch } []) w = .ended o w1 es := by
          simp only [G, stepG, unwind, bad, callDeferred]
          exact ⟨_, _, _, rfl⟩
        obtain ⟨o, w1, es, he⟩ := he
        simp only [runN, step_end' he] at h
        cases h
theorem bad_dead (N : Nat) (w : World) (v : Value) (us' : List Frame) (w' : World) : runN P N (lone (bad.finish v) [] w) ≠ .next (lo us' w') := by
  intro h
  cases N with
  | zero =>
    simp only [runN, Stepped.next.injEq, lo, lone, Machine.mk.injEq] at h
    have h2 := h.2.1
    simp at h2
  | succ N =>
    have he : ∃ o w1 es, stepG P true (G (bad.finish v) []) w = .ended o w1 es := by
      simp only [G, stepG, stepG.exec, bad, Frame.finish]
      exact ⟨_, _, _, rfl⟩
    obtain ⟨o, w1, es, he⟩ := he
    simp only [runN, step_end' he] at h
    cases h
/-- What the machine does, by the tree. -/
theorem stepP_go {fn : FuncId} {tmps : Array Value} {x : Item} {r : List Item} {rest us' : List Frame} {out : OutP} {w w' : World} {es : Array Event} (hs : StepP P fn tmps x w out w' es) (hn : nextP P out fn tmps x r rest = some us') (cs : List Frame) :
    stepG P true (G (fx fn tmps x r) (rest ++ cs)) w = .go (G (us'.headD bad) (us'.tail ++ cs)) w' es := by
  have := hs r (rest ++ cs)
  cases out with
  | keep tm pre => cases hn; exact this
  | exit id =>
    simp only [nextP] at hn
    obtain ⟨k, hk, rfl⟩ := Option.map_eq_some_iff.1 hn
    exact this.1 k hk
  | push f a => cases hn; exact this
  | back => cases hn; exact this
theorem lo_step {fn : FuncId} {tmps : Array Value} {x : Item} {r : List Item} {rest us' : List Frame} {t : Sem OutP} (hR : RealP P fn tmps x t) {w w' : World} {out : OutP} (ht : t.run P w = .ok out w') (hn : nextP P out fn tmps x r rest = some us') : step P (lo (fx fn tmps x r :: rest) w) = .next (lo us' w') := by
  have := hR w
  rw [ht] at this
  obtain ⟨es, hs, _⟩ := this
  exact step_go (stepP_go hs hn [bad])
theorem done_step {u : Frame} (h : PF P S u) (hm : u.mode = .run) (ht : u.todo = []) (cs : List Frame) (w : World) : stepG P true (G u cs) w = .go (G { u with mode := .returning } cs) w #[] := by
  obtain ⟨fn, tmps, todo, defers, mode, kind, roundOf⟩ := u
  obtain ⟨h1, h2, h3, _, _, _⟩ := h
  simp only at h1 h2 h3 hm ht
  subst h1 h2 h3 hm ht
  simp [G, stepG, stepG.exec]
theorem seq_step (fn : FuncId) (tmps : Array Value) (a b : Code) (r : List Item) (cs : List Frame) (w : World) : stepG P true (G (fx fn tmps (.code (.seq a b)) r) cs) w = .go (G { fn, tmps, todo := .code a :: .code b :: r, defers := [], mode := .run, kind := .normal } cs) w #[] := by
  simp [fx, G, stepG, stepG.exec]
end
end Go.Proofs.Ytafhpbghogdipaa

/- A lone run that comes to its end on every tape comes to it whatever is drawn: the bar's argument. -/
namespace Go.Proofs.Ytafhpbghogdipaa
open Go.Conc
set_option maxHeartbeats 4000000
set_option linter.unusedVariables false
set_option linter.unusedSimpArgs false

section
variable {P : Program} {S : FuncId → Bool} {Fin : List Frame → World → Prop}
theorem pz_refl (w : World) : Pz DS.nil w w := ⟨rfl, rfl, rfl, rfl, rfl, fun _ _ => rfl, fun _ h => h.elim, fun _ h => h.elim, fun _ h => h.elim⟩
theorem np_tp {w : World} (h : NP w) (T : Nat → Question → Nat) (d : Nat) : NP (tp w T d) := h
theorem runN_split {a b : Nat} {m m' : Machine} (h : runN P a m = .next m') : runN P (a + b) m = runN P b m' := by
  rw [runN_add, h]
structure Node where
  us : List Frame
  w : World
  A : Nat → Question → Nat
  s : Nat
structure Good (P : Program) (S : FuncId → Bool) (Fin : List Frame → World → Prop) (us0 : List Frame) (w0 : World) (k : Nat) (x : Node) : Prop where
  pf : PFs P S x.us
  ne : x.us ≠ []
  np : NP x.w
  nt : ¬ Term P S Fin x.us x.w
  run : ∀ T : Nat → Question → Nat, (∀ i, i < x.s → T i = x.A i) → runN P k (lo us0 (tp w0 T 0)) = .next (lo x.us (tp x.w T x.s))
  hist : ∀ T : Nat → Question → Nat, (∀ i, i < x.s → T i = x.A i) → ∀ j, j ≤ k → ∀ us' w', runN P j (lo us0 (tp w0 T 0)) = .next (lo us' w') → ¬ Fin us' w'

section
variable (hFin : ∀ us w T d, Fin us w → Fin us (tp w T d)) (hCalm : ∀ us w, Fin us w → Calm us)
include hFin hCalm
/-- The next node, if the step is known. -/
theorem good_by {us0 : List Frame} {w0 : World} {k : Nat} {x : Node} (hx : Good P S Fin us0 w0 k x) {us' : List Frame} {w' : World} (hpf : PFs P S us') (hne : us' ≠ []) (hnp : NP w') (hnt : ¬ Term P S Fin us' w') (A' : Nat → Question → Nat) (s' : Nat) (hs : x.s ≤ s') (hA : ∀ i, i < x.s → A' i = x.A i)
    (hstep : ∀ T : Nat → Question → Nat, (∀ i, i < s' → T i = A' i) → step P (lo x.us (tp x.w T x.s)) = .next (lo us' (tp w' T s'))) : Good P S Fin us0 w0 (k + 1) ⟨us', w', A', s'⟩ := by
  have hag : ∀ T : Nat → Question → Nat, (∀ i, i < s' → T i = A' i) → ∀ i, i < x.s → T i = x.A i := fun T hT i hi => (hT i (by omega)).trans (hA i hi)
  have hrun : ∀ T : Nat → Question → Nat, (∀ i, i < s' → T i = A' i) → runN P (k + 1) (lo us0 (tp w0 T 0)) = .next (lo us' (tp w' T s')) := by
    intro T hT
    rw [runN_split (hx.run T (hag T hT))]
    simp only [runN, hstep T hT]
  refine ⟨hpf, hne, hnp, hnt, hrun, fun T hT j hj us2 w2 hj2 hf => ?_⟩
  rcases Nat.lt_or_ge j (k + 1) with h | h
  · exact hx.hist T (hag T hT) j (by omega) us2 w2 hj2 hf
  · obtain rfl : j = k + 1 := by omega
    rw [hrun T hT, Stepped.next.injEq] at hj2
    obtain ⟨e1, e2⟩ := lo_inj hne (hCalm _ _ hf).1 hj2
    subst e1
    refine hnt (.fin ?_)
    have := hFin us' w2 w'.tape w'.drawn hf
    rw [← e2] at this
    exact this

theorem good_next (hS : ∀ f, S f = true → okFunc P S f = true) {us0 : List Frame} {w0 : World}
    (hL : ∀ T, ∃ N us' w', runN P N (lo us0 (tp w0 T 0)) = .next (lo us' w') ∧ Fin us' w') {k : Nat} {x : Node} (hx : Good P S Fin us0 w0 k x) :
    ∃ y, Good P S Fin us0 w0 (k + 1) y ∧ x.s ≤ y.s ∧ ∀ i, i < x.s → y.A i = x.A i := by
  have hx0 := hx
  obtain ⟨us, w, A, s⟩ := x
  obtain ⟨hpf, hne, hnp, hnt, hrun, hhist⟩ := hx
  simp only at hpf hne hnp hnt hrun hhist ⊢
  -- on whatever tape there is a step more to take
  have more : ∀ T : Nat → Question → Nat, (∀ i, i < s → T i = A i) → ∃ M us' w', runN P (M + 1) (lo us (tp w T s)) = .next (lo us' w') ∧ Calm us' := by
    intro T hT
    obtain ⟨N, us', w', h1, h2⟩ := hL T
    have hNk : k < N := by
      apply Classical.byContradiction
      intro hlt
      exact hhist T hT N (by omega) us' w' h1 h2
    obtain ⟨M, rfl⟩ : ∃ M, N = k + (M + 1) := ⟨N - k - 1, by omega⟩
    rw [runN_split (hrun T hT)] at h1
    exact ⟨M, us', w', h1, hCalm _ _ h2⟩
  cases us with
  | nil => exact absurd rfl hne
  | cons u rest =>
    have hu := hpf u (List.mem_cons_self ..)
    have hr : PFs P S rest := fun x hx => hpf x (List.mem_cons_of_mem _ hx)
    rcases hu.mode with hm | hm
    · cases ht : u.todo with
      | nil =>
        refine ⟨⟨{ u with mode := .returning } :: rest, w, A, s⟩, good_by hFin hCalm hx0 ?_ (by simp) hnp (fun h => hnt (.done hu hm ht h)) A s (Nat.le_refl _) (fun _ _ => rfl) (fun T hT => step_go (done_step hu hm ht _ _)), Nat.le_refl _, fun _ _ => rfl⟩
        intro y hy
        rcases List.mem_cons.1 hy with e | hy
        · rw [e]; exact ⟨hu.kind, hu.round, hu.defers, hu.fn, hu.todo, .inr rfl⟩
        · exact hr y hy
      | cons x r =>
        have hux := pf_fx hu hm ht
        rw [hux] at hpf hnt hrun more hx0
        generalize u.fn = fn at hpf hnt hrun more hx0
        generalize u.tmps = tmps at hpf hnt hrun more hx0
        have hpx : plainItem S x = true := hu.todo x (by rw [ht]; exact List.mem_cons_self ..)
        by_cases hsq : ∃ a b, x = .code (.seq a b)
        · obtain ⟨a, b, rfl⟩ := hsq
          have hab : plainCode S a = true ∧ plainCode S b = true := by simpa [plainItem, plainCode] using hpx
          have hux' := hpf _ (List.mem_cons_self ..)
          refine ⟨⟨{ fn, tmps, todo := .code a :: .code b :: r, defers := [], mode := .run, kind := .normal } :: rest, w, A, s⟩, good_by hFin hCalm hx0 ?_ (by simp) hnp (fun h => hnt (.seq h)) A s (Nat.le_refl _) (fun _ _ => rfl) (fun T hT => step_go (seq_step _ _ _ _ _ _ _)), Nat.le_refl _, fun _ _ => rfl⟩
          intro y hy
          rcases List.mem_cons.1 hy with e | hy
          · rw [e]
            refine ⟨rfl, rfl, rfl, hux'.fn, fun z hz => ?_, .inl rfl⟩
            rcases List.mem_cons.1 hz with rfl | hz
            · exact hab.1
            rcases List.mem_cons.1 hz with rfl | hz
            · exact hab.2
            exact hux'.todo z (List.mem_cons_of_mem _ hz)
          · exact hr y hy
        · have hns : notSeq x := by
            cases x with
            | code c => cases c <;> first | trivial | exact absurd ⟨_, _, rfl⟩ hsq
            | _ => trivial
          obtain ⟨t, hN, hOut, hReal⟩ := plain_item hS (fn := fn) (tmps := tmps) hpx
          have simT : ∀ T d out w', t.run P (tp w T d) = .ok out w' → NP w' := fun T d out w' h => by
            have := (hN DS.nil).sim (tp w T d) (tp w T d) (pz_refl _) (np_tp hnp T d)
            rw [h] at this
            exact this.1
          have dull : ∀ T d h w', t.run P (tp w T d) = .halt h w' → Dull h := fun T d h w' e => by
            have := (hN DS.nil).sim (tp w T d) (tp w T d) (pz_refl _) (np_tp hnp T d)
            rw [e] at this
            exact this
          apply Classical.byContradiction
          intro hno
          refine hnt (Term.step t hns hN hReal (fun T d => ?_) (fun T d out w' us' ht hn => ?_))
          · -- there is a step
            obtain ⟨M, us2, w2, hN1, hcalm⟩ := more (fun i => if i < s then A i else T (d + (i - s))) (fun i hi => if_pos hi)
            have agree : ∀ i, (fun i => if i < s then A i else T (d + (i - s))) (s + i) = T (d + i) := fun i => by
              have h1 : ¬ (s + i < s) := by omega
              have h2 : s + i - s = i := by omega
              simp only [h1, if_false, h2]
            generalize (fun i => if i < s then A i else T (d + (i - s))) = T1 at hN1 agree
            cases ht : t.run P (tp w T1 s) with
            | halt h w1 =>
              exfalso
              have hd := hReal (tp w T1 s)
              rw [ht] at hd
              rcases hd (dull _ _ _ _ ht) r (rest ++ [bad]) with ⟨o, w3, es, he⟩ | ⟨chain, w3, es, he⟩
              · simp only [runN, lo, List.headD_cons, List.tail_cons, step_end' he] at hN1
                cases hN1
              · simp only [runN, lo, List.headD_cons, List.tail_cons, step_go he] at hN1
                exact panic_dead M rest hr (fx fn tmps x r) (hpf _ (List.mem_cons_self ..)) chain w3 us2 w2 hcalm hN1
            | ok out w1 =>
              cases hn : nextP P out fn tmps x r rest with
              | none =>
                exfalso
                have hd := hReal (tp w T1 s)
                rw [ht] at hd
                obtain ⟨es, hs, _⟩ := hd
                cases out with
                | exit id =>
                  simp only [nextP, Option.map_eq_none_iff] at hn
                  obtain ⟨o, w3, es1, he⟩ := (hs r (rest ++ [bad])).2 hn
                  simp only [runN, lo, List.headD_cons, List.tail_cons, step_end' he] at hN1
                  cases hN1
                | _ => cases hn
              | some us' =>
                obtain ⟨_, _, hl⟩ := (hN DS.nil).loc _ _ _ ht
                have := hl T d fun i hi => (agree i).symm
                exact ⟨out, _, us', this, hn⟩
          · apply Classical.byContradiction
            intro hnt'
            obtain ⟨e1, e2, hl⟩ := (hN DS.nil).loc _ _ _ ht
            have e2' : d ≤ w'.drawn := e2
            refine hno ⟨⟨us', w', fun i => if i < s then A i else T (d + (i - s)), s + (w'.drawn - d)⟩, good_by hFin hCalm hx0 (pfs_next hS hpf (hOut _ _ _ ht) hn) (next_ne hn) (simT _ _ _ _ ht) hnt' _ _ (Nat.le_add_right _ _) (fun i hi => if_pos hi) (fun T1 hT1 => ?_), Nat.le_add_right _ _, fun i hi => if_pos hi⟩
            have h1 := hl T1 s fun i hi => by
              have hi' : i < w'.drawn - d := hi
              have := hT1 (s + i) (by omega)
              rw [this]
              have h1 : ¬ (s + i < s) := by omega
              have h2 : s + i - s = i := by omega
              show (if s + i < s then A (s + i) else T (d + (s + i - s))) = T (d + i)
              rw [if_neg h1, h2]
            exact lo_step hReal h1 hn
    · -- it returns
      obtain ⟨v, hv⟩ := ret_step hu.fn hu.defers hu.kind hm
      cases rest with
      | nil =>
        exfalso
        obtain ⟨M, us2, w2, hN1, _⟩ := more A (fun _ _ => rfl)
        simp only [runN, lo, List.headD_cons, List.tail_cons, List.nil_append, step_go (hv u.todo _ bad [])] at hN1
        exact bad_dead M _ _ _ _ hN1
      | cons c rest =>
        refine ⟨⟨c.finish v :: rest, w, A, s⟩, good_by hFin hCalm hx0 ?_ (by simp) hnp (fun h => hnt (.ret v hu hm hv h)) A s (Nat.le_refl _) (fun _ _ => rfl) (fun T hT => step_go (hv u.todo _ c _)), Nat.le_refl _, fun _ _ => rfl⟩
        intro y hy
        rcases List.mem_cons.1 hy with e | hy
        · rw [e]; exact (hr c (List.mem_cons_self ..)).finish v
        · exact hr y (List.mem_cons_of_mem _ hy)

/-- It ends, whatever is drawn. -/
theorem term_of (hS : ∀ f, S f = true → okFunc P S f = true) {us0 : List Frame} {w0 : World} (hpf : PFs P S us0) (hne : us0 ≠ []) (hnp : NP w0)
    (hL : ∀ T, ∃ N us' w', runN P N (lo us0 (tp w0 T 0)) = .next (lo us' w') ∧ Fin us' w') : Term P S Fin us0 w0 := by
  apply Classical.byContradiction
  intro hnot
  let start : { x : Node // Good P S Fin us0 w0 0 x } := ⟨⟨us0, w0, fun _ _ => 0, 0⟩, ⟨hpf, hne, hnp, hnot, fun T _ => rfl, fun T _ j hj us' w' h hf => by
    obtain rfl : j = 0 := by omega
    simp only [runN, Stepped.next.injEq] at h
    obtain ⟨e1, e2⟩ := lo_inj hne (hCalm _ _ hf).1 h
    subst e1
    refine hnot (.fin ?_)
    have := hFin us0 w' w0.tape w0.drawn hf
    rw [← e2] at this
    exact this⟩⟩
  let f : ∀ k, { x : Node // Good P S Fin us0 w0 k x } := fun k => Nat.rec (motive := fun k => { x : Node // Good P S Fin us0 w0 k x }) start
    (fun k x => ⟨Classical.choose (good_next hFin hCalm hS hL x.2), (Classical.choose_spec (good_next hFin hCalm hS hL x.2)).1⟩) k
  have hsucc : ∀ k, (f k).1.s ≤ (f (k + 1)).1.s ∧ ∀ i, i < (f k).1.s → (f (k + 1)).1.A i = (f k).1.A i := fun k => (Classical.choose_spec (good_next hFin hCalm hS hL (f k).2)).2
  clear_value f
  have hmono : ∀ k j, (f k).1.s ≤ (f (k + j)).1.s ∧ ∀ i, i < (f k).1.s → (f (k + j)).1.A i = (f k).1.A i := by
    intro k j
    induction j with
    | zero => exact ⟨Nat.le_refl _, fun _ _ => rfl⟩
    | succ j ih =>
      obtain ⟨h1, h2⟩ := hsucc (k + j)
      exact ⟨Nat.le_trans ih.1 h1, fun i hi => (h2 i (by omega)).trans (ih.2 i hi)⟩
  have hex : ∃ T : Nat → Question → Nat, ∀ k i, i < (f k).1.s → T i = (f k).1.A i := by
    refine ⟨fun i => @dite _ (∃ k, i < (f k).1.s) (Classical.propDecidable _) (fun h => (f (Classical.choose h)).1.A i) (fun _ _ => 0), fun k i hi => ?_⟩
    have h : ∃ k, i < (f k).1.s := ⟨k, hi⟩
    simp only [dif_pos h]
    have hc := Classical.choose_spec h
    rcases Nat.le_total (Classical.choose h) k with hle | hle
    · obtain ⟨j, hj⟩ : ∃ j, k = Classical.choose h + j := ⟨k - Classical.choose h, by omega⟩
      have := (hmono (Classical.choose h) j).2 i hc
      rw [← hj] at this
      exact this.symm
    · obtain ⟨j, hj⟩ : ∃ j, Classical.choose h = k + j := ⟨Classical.choose h - k, by omega⟩
      have := (hmono k j).2 i hi
      rw [← hj] at this
      exact this
  obtain ⟨T, hT⟩ := hex
  obtain ⟨N, us', w', h1, h2⟩ := hL T
  exact (f N).2.hist T (fun i hi => hT N i hi) N (Nat.le_refl _) us' w' h1 h2
end
end
end Go.Proofs.Ytafhpbghogdipaa
