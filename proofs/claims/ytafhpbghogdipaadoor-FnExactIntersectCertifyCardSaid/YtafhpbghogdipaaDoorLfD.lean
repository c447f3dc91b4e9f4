/- LfN LfS (merge.py). -/
import Derived.Test.YtafhpbghogdipaaDoorLfA
import Derived.WalkKit
/- Type assertions, methods behind an interface, entries without a body, conversions of integers, fields, structs built: nice trees. -/
namespace Go.Proofs.YtafhpbghogdipaaDoor
open Go.Conc
set_option maxHeartbeats 8000000
set_option linter.unusedVariables false
set_option linter.unusedSimpArgs false

section
variable {P : Program} {D : DS} {α β : Type}
theorem Nice.markExtern (f : FuncId) : Nice P D (Go.mark (Mark.extern f)) := by
  have e : ∀ w : World, (Go.mark (Mark.extern f)).run P w = .ok () w := fun w => rfl
  refine ⟨fun u w h hn => ⟨hn, w, rfl, h, fun x hx => ?_⟩, fun w b w' hr => ?_⟩
  · simp [Go.mark, Sem.events, Sem.runT] at hx
    subst hx
    exact .inr ⟨f, rfl⟩
  · rw [e, Result.ok.injEq] at hr
    obtain ⟨rfl, rfl⟩ := hr
    exact ⟨rfl, Nat.le_refl _, fun T d _ => by rw [e]; simp⟩
theorem Nice.mapM_list {γ : Type} {f : γ → Sem β} (hf : ∀ a, Nice P D (f a)) : ∀ (l : List γ) (acc : Array β), Nice P D (l.foldlM (fun acc x => Functor.map acc.push (f x)) acc)
  | [], acc => .pure _
  | a :: l, acc => by
    rw [List.foldlM_cons]
    exact ((hf a).map).bind fun r => Nice.mapM_list hf l _
theorem Nice.mapM_array {γ : Type} {f : γ → Sem β} (hf : ∀ a, Nice P D (f a)) (l : Array γ) : Nice P D (l.mapM f) := by
  rw [Array.mapM_eq_foldlM, ← Array.foldlM_toList]
  exact Nice.mapM_list hf _ _
theorem Nice.typeAssert (x : Value) (a b : TypeId) (c : Bool) : Nice P D (Instr.typeAssert x a b c) := by
  unfold Instr.typeAssert
  repeat' (first
    | with_reducible exact Nice.pure _
    | with_reducible exact Nice.pure' _
    | with_reducible exact Nice.stuck _
    | with_reducible exact Nice.goPanic _
    | (with_reducible refine Nice.unsupported ?_); trivial
    | with_reducible exact Nice.program
    | with_reducible exact Nice.choose _
    | with_reducible exact Nice.load _ _
    | with_reducible exact Nice.store _ _ _
    | with_reducible exact Nice.frozen _
    | with_reducible exact Nice.askRoom _
    | with_reducible exact Nice.noRoom
    | exact Nice.newObj (fun _ _ h => by cases h)
    | with_reducible exact Nice.typeInfo _
    | with_reducible exact Nice.underlying _
    | with_reducible exact Nice.typeStr _
    | with_reducible exact Nice.zeroValue _
    | with_reducible exact Nice.sizeOf _
    | with_reducible exact Nice.isAgg _
    | with_reducible exact Nice.loadCells _ _
    | with_reducible exact Nice.storeCells _ _ _
    | with_reducible exact Nice.loadVar _ _
    | with_reducible exact Nice.storeVar _ _ _
    | with_reducible exact Nice.newRow _ _
    | with_reducible exact Nice.newVar _ _
    | with_reducible exact Nice.elemOf _
    | with_reducible exact Nice.part _ _ _
    | with_reducible exact Nice.runtimePanic _
    | with_reducible exact Nice.boundsPanic _ _ _ _
    | with_reducible exact Nice.asIntOf _
    | with_reducible exact Nice.asInt _
    | with_reducible exact Nice.asBool _
    | with_reducible exact Nice.asAddr _
    | with_reducible exact Nice.sureAddr _
    | with_reducible exact Nice.loadAt _ _
    | with_reducible exact Nice.storeAt _ _ _
    | with_reducible exact Nice.indexAt _ _ _
    | with_reducible exact Nice.sliceBound _ _ _
    | with_reducible exact Nice.sliceBounds _ _ _ _ _ _
    | with_reducible exact Nice.slice _ _ _ _ _
    | with_reducible exact Nice.sliceAt _ _ _ _ _
    | with_reducible exact Nice.makeSlice _ _ _
    | with_reducible exact Nice.buildSlice _ _ _
    | with_reducible exact Nice.box _ _
    | with_reducible exact Nice.alloc _ _ _
    | with_reducible exact Nice.extract _ _
    | with_reducible exact Nice.makeInterface _ _
    | with_reducible exact Nice.len_ _ _ _
    | with_reducible exact Nice.cap_ _ _ _
    | with_reducible exact Nice.panic _
    | with_reducible exact Nice.firstCells _ _ _
    | with_reducible exact Nice.lenOf _
    | with_reducible exact Nice.append_ _ _ _
    | with_reducible exact Nice.noView _
    | with_reducible exact Nice.numberAt _
    | with_reducible exact Nice.asNumber _ _
    | with_reducible exact Nice.behindNumber _
    | with_reducible exact Nice.byteOf _
    | with_reducible exact Nice.sameAddr _ _
    | with_reducible exact Nice.samePointer _ _
    | with_reducible exact unsafeAdd_shape _ _ _ _
    | with_reducible exact Nice.movedNumber _ _ _
    | with_reducible exact Nice.movedPointer _ _ _
    | with_reducible exact Nice.twoPlaces _ _
    | with_reducible exact Nice.addrSub _ _ _
    | with_reducible exact Nice.addrCmp _ _ _
    | with_reducible exact Nice.addrMod _ _ _
    | with_reducible exact Nice.intArith _ _ _ _
    | with_reducible exact Nice.intDiv _ _ _ _
    | with_reducible exact Nice.intBits _ _ _ _
    | with_reducible exact Nice.intCmp _ _ _
    | with_reducible exact Nice.shift _ _ _ _ _
    | with_reducible exact Nice.floatArith _ _ _ _
    | with_reducible exact Nice.floatCmp _ _ _ _
    | with_reducible exact Nice.floatToFloat _ _ _
    | with_reducible exact Nice.stringOp _ _ _
    | with_reducible exact Nice.cArith _ _ _ _
    | with_reducible exact Nice.cCmp _ _ _ _
    | with_reducible exact Nice.cConv _ _ _
    | with_reducible exact Nice.c_add _ _
    | with_reducible exact Nice.c_sub _ _
    | with_reducible exact Nice.c_mul _ _
    | with_reducible exact Nice.c_quo _ _
    | with_reducible exact Nice.cProduct _ _ _ _
    | with_reducible exact Nice.cCorrected _ _ _ _ _
    | with_reducible exact Nice.cQuotient _ _ _ _
    | with_reducible exact Nice.complexOp _ _ _ _ _ _
    | with_reducible exact Nice.unary _ _
    | with_reducible exact Nice.equalIn _ _ _ _
    | with_reducible exact Nice.equal _ _ _
    | with_reducible exact Nice.eqGuardIn _ _ _ _
    | with_reducible exact Nice.eqGuard _ _ _ _ _ _
    | with_reducible exact Nice.binOp _ _ _ _
    | with_reducible exact Nice.markExtern _
    | (with_reducible refine Nice.bind ?_ (fun _ => ?_))
    | (with_reducible refine Nice.ite ?_ ?_)
    | (refine Nice.map ?_)
    | split
    | dsimp only)
theorem Nice.partAt (a : Addr) (n m : Nat) : Nice P D (Go.partAt a n m) := by
  unfold Go.partAt
  repeat' (first
    | with_reducible exact Nice.pure _
    | with_reducible exact Nice.pure' _
    | with_reducible exact Nice.stuck _
    | with_reducible exact Nice.goPanic _
    | (with_reducible refine Nice.unsupported ?_); trivial
    | with_reducible exact Nice.program
    | with_reducible exact Nice.choose _
    | with_reducible exact Nice.load _ _
    | with_reducible exact Nice.store _ _ _
    | with_reducible exact Nice.frozen _
    | with_reducible exact Nice.askRoom _
    | with_reducible exact Nice.noRoom
    | exact Nice.newObj (fun _ _ h => by cases h)
    | with_reducible exact Nice.typeInfo _
    | with_reducible exact Nice.underlying _
    | with_reducible exact Nice.typeStr _
    | with_reducible exact Nice.zeroValue _
    | with_reducible exact Nice.sizeOf _
    | with_reducible exact Nice.isAgg _
    | with_reducible exact Nice.loadCells _ _
    | with_reducible exact Nice.storeCells _ _ _
    | with_reducible exact Nice.loadVar _ _
    | with_reducible exact Nice.storeVar _ _ _
    | with_reducible exact Nice.newRow _ _
    | with_reducible exact Nice.newVar _ _
    | with_reducible exact Nice.elemOf _
    | with_reducible exact Nice.part _ _ _
    | with_reducible exact Nice.runtimePanic _
    | with_reducible exact Nice.boundsPanic _ _ _ _
    | with_reducible exact Nice.asIntOf _
    | with_reducible exact Nice.asInt _
    | with_reducible exact Nice.asBool _
    | with_reducible exact Nice.asAddr _
    | with_reducible exact Nice.sureAddr _
    | with_reducible exact Nice.loadAt _ _
    | with_reducible exact Nice.storeAt _ _ _
    | with_reducible exact Nice.indexAt _ _ _
    | with_reducible exact Nice.sliceBound _ _ _
    | with_reducible exact Nice.sliceBounds _ _ _ _ _ _
    | with_reducible exact Nice.slice _ _ _ _ _
    | with_reducible exact Nice.sliceAt _ _ _ _ _
    | with_reducible exact Nice.makeSlice _ _ _
    | with_reducible exact Nice.buildSlice _ _ _
    | with_reducible exact Nice.box _ _
    | with_reducible exact Nice.alloc _ _ _
    | with_reducible exact Nice.extract _ _
    | with_reducible exact Nice.makeInterface _ _
    | with_reducible exact Nice.len_ _ _ _
    | with_reducible exact Nice.cap_ _ _ _
    | with_reducible exact Nice.panic _
    | with_reducible exact Nice.firstCells _ _ _
    | with_reducible exact Nice.lenOf _
    | with_reducible exact Nice.append_ _ _ _
    | with_reducible exact Nice.noView _
    | with_reducible exact Nice.numberAt _
    | with_reducible exact Nice.asNumber _ _
    | with_reducible exact Nice.behindNumber _
    | with_reducible exact Nice.byteOf _
    | with_reducible exact Nice.sameAddr _ _
    | with_reducible exact Nice.samePointer _ _
    | with_reducible exact unsafeAdd_shape _ _ _ _
    | with_reducible exact Nice.movedNumber _ _ _
    | with_reducible exact Nice.movedPointer _ _ _
    | with_reducible exact Nice.twoPlaces _ _
    | with_reducible exact Nice.addrSub _ _ _
    | with_reducible exact Nice.addrCmp _ _ _
    | with_reducible exact Nice.addrMod _ _ _
    | with_reducible exact Nice.intArith _ _ _ _
    | with_reducible exact Nice.intDiv _ _ _ _
    | with_reducible exact Nice.intBits _ _ _ _
    | with_reducible exact Nice.intCmp _ _ _
    | with_reducible exact Nice.shift _ _ _ _ _
    | with_reducible exact Nice.floatArith _ _ _ _
    | with_reducible exact Nice.floatCmp _ _ _ _
    | with_reducible exact Nice.floatToFloat _ _ _
    | with_reducible exact Nice.stringOp _ _ _
    | with_reducible exact Nice.cArith _ _ _ _
    | with_reducible exact Nice.cCmp _ _ _ _
    | with_reducible exact Nice.cConv _ _ _
    | with_reducible exact Nice.c_add _ _
    | with_reducible exact Nice.c_sub _ _
    | with_reducible exact Nice.c_mul _ _
    | with_reducible exact Nice.c_quo _ _
    | with_reducible exact Nice.cProduct _ _ _ _
    | with_reducible exact Nice.cCorrected _ _ _ _ _
    | with_reducible exact Nice.cQuotient _ _ _ _
    | with_reducible exact Nice.complexOp _ _ _ _ _ _
    | with_reducible exact Nice.unary _ _
    | with_reducible exact Nice.equalIn _ _ _ _
    | with_reducible exact Nice.equal _ _ _
    | with_reducible exact Nice.eqGuardIn _ _ _ _
    | with_reducible exact Nice.eqGuard _ _ _ _ _ _
    | with_reducible exact Nice.binOp _ _ _ _
    | with_reducible exact Nice.markExtern _
    | with_reducible exact Nice.typeAssert _ _ _ _
    | (with_reducible refine Nice.bind ?_ (fun _ => ?_))
    | (with_reducible refine Nice.ite ?_ ?_)
    | (refine Nice.map ?_)
    | split
    | dsimp only)
theorem Nice.fieldPlace (a : Addr) (f : Field) : Nice P D (Go.fieldPlace a f) := by
  unfold Go.fieldPlace
  repeat' (first
    | with_reducible exact Nice.pure _
    | with_reducible exact Nice.pure' _
    | with_reducible exact Nice.stuck _
    | with_reducible exact Nice.goPanic _
    | (with_reducible refine Nice.unsupported ?_); trivial
    | with_reducible exact Nice.program
    | with_reducible exact Nice.choose _
    | with_reducible exact Nice.load _ _
    | with_reducible exact Nice.store _ _ _
    | with_reducible exact Nice.frozen _
    | with_reducible exact Nice.askRoom _
    | with_reducible exact Nice.noRoom
    | exact Nice.newObj (fun _ _ h => by cases h)
    | with_reducible exact Nice.typeInfo _
    | with_reducible exact Nice.underlying _
    | with_reducible exact Nice.typeStr _
    | with_reducible exact Nice.zeroValue _
    | with_reducible exact Nice.sizeOf _
    | with_reducible exact Nice.isAgg _
    | with_reducible exact Nice.loadCells _ _
    | with_reducible exact Nice.storeCells _ _ _
    | with_reducible exact Nice.loadVar _ _
    | with_reducible exact Nice.storeVar _ _ _
    | with_reducible exact Nice.newRow _ _
    | with_reducible exact Nice.newVar _ _
    | with_reducible exact Nice.elemOf _
    | with_reducible exact Nice.part _ _ _
    | with_reducible exact Nice.runtimePanic _
    | with_reducible exact Nice.boundsPanic _ _ _ _
    | with_reducible exact Nice.asIntOf _
    | with_reducible exact Nice.asInt _
    | with_reducible exact Nice.asBool _
    | with_reducible exact Nice.asAddr _
    | with_reducible exact Nice.sureAddr _
    | with_reducible exact Nice.loadAt _ _
    | with_reducible exact Nice.storeAt _ _ _
    | with_reducible exact Nice.indexAt _ _ _
    | with_reducible exact Nice.sliceBound _ _ _
    | with_reducible exact Nice.sliceBounds _ _ _ _ _ _
    | with_reducible exact Nice.slice _ _ _ _ _
    | with_reducible exact Nice.sliceAt _ _ _ _ _
    | with_reducible exact Nice.makeSlice _ _ _
    | with_reducible exact Nice.buildSlice _ _ _
    | with_reducible exact Nice.box _ _
    | with_reducible exact Nice.alloc _ _ _
    | with_reducible exact Nice.extract _ _
    | with_reducible exact Nice.makeInterface _ _
    | with_reducible exact Nice.len_ _ _ _
    | with_reducible exact Nice.cap_ _ _ _
    | with_reducible exact Nice.panic _
    | with_reducible exact Nice.firstCells _ _ _
    | with_reducible exact Nice.lenOf _
    | with_reducible exact Nice.append_ _ _ _
    | with_reducible exact Nice.noView _
    | with_reducible exact Nice.numberAt _
    | with_reducible exact Nice.asNumber _ _
    | with_reducible exact Nice.behindNumber _
    | with_reducible exact Nice.byteOf _
    | with_reducible exact Nice.sameAddr _ _
    | with_reducible exact Nice.samePointer _ _
    | with_reducible exact unsafeAdd_shape _ _ _ _
    | with_reducible exact Nice.movedNumber _ _ _
    | with_reducible exact Nice.movedPointer _ _ _
    | with_reducible exact Nice.twoPlaces _ _
    | with_reducible exact Nice.addrSub _ _ _
    | with_reducible exact Nice.addrCmp _ _ _
    | with_reducible exact Nice.addrMod _ _ _
    | with_reducible exact Nice.intArith _ _ _ _
    | with_reducible exact Nice.intDiv _ _ _ _
    | with_reducible exact Nice.intBits _ _ _ _
    | with_reducible exact Nice.intCmp _ _ _
    | with_reducible exact Nice.shift _ _ _ _ _
    | with_reducible exact Nice.floatArith _ _ _ _
    | with_reducible exact Nice.floatCmp _ _ _ _
    | with_reducible exact Nice.floatToFloat _ _ _
    | with_reducible exact Nice.stringOp _ _ _
    | with_reducible exact Nice.cArith _ _ _ _
    | with_reducible exact Nice.cCmp _ _ _ _
    | with_reducible exact Nice.cConv _ _ _
    | with_reducible exact Nice.c_add _ _
    | with_reducible exact Nice.c_sub _ _
    | with_reducible exact Nice.c_mul _ _
    | with_reducible exact Nice.c_quo _ _
    | with_reducible exact Nice.cProduct _ _ _ _
    | with_reducible exact Nice.cCorrected _ _ _ _ _
    | with_reducible exact Nice.cQuotient _ _ _ _
    | with_reducible exact Nice.complexOp _ _ _ _ _ _
    | with_reducible exact Nice.unary _ _
    | with_reducible exact Nice.equalIn _ _ _ _
    | with_reducible exact Nice.equal _ _ _
    | with_reducible exact Nice.eqGuardIn _ _ _ _
    | with_reducible exact Nice.eqGuard _ _ _ _ _ _
    | with_reducible exact Nice.binOp _ _ _ _
    | with_reducible exact Nice.markExtern _
    | with_reducible exact Nice.typeAssert _ _ _ _
    | with_reducible exact Nice.partAt _ _ _
    | (with_reducible refine Nice.bind ?_ (fun _ => ?_))
    | (with_reducible refine Nice.ite ?_ ?_)
    | (refine Nice.map ?_)
    | split
    | dsimp only)
theorem Nice.fieldAt (t : TypeId) (v : Value) (n : Nat) : Nice P D (Instr.fieldAt t v n) := by
  unfold Instr.fieldAt
  repeat' (first
    | with_reducible exact Nice.pure _
    | with_reducible exact Nice.pure' _
    | with_reducible exact Nice.stuck _
    | with_reducible exact Nice.goPanic _
    | (with_reducible refine Nice.unsupported ?_); trivial
    | with_reducible exact Nice.program
    | with_reducible exact Nice.choose _
    | with_reducible exact Nice.load _ _
    | with_reducible exact Nice.store _ _ _
    | with_reducible exact Nice.frozen _
    | with_reducible exact Nice.askRoom _
    | with_reducible exact Nice.noRoom
    | exact Nice.newObj (fun _ _ h => by cases h)
    | with_reducible exact Nice.typeInfo _
    | with_reducible exact Nice.underlying _
    | with_reducible exact Nice.typeStr _
    | with_reducible exact Nice.zeroValue _
    | with_reducible exact Nice.sizeOf _
    | with_reducible exact Nice.isAgg _
    | with_reducible exact Nice.loadCells _ _
    | with_reducible exact Nice.storeCells _ _ _
    | with_reducible exact Nice.loadVar _ _
    | with_reducible exact Nice.storeVar _ _ _
    | with_reducible exact Nice.newRow _ _
    | with_reducible exact Nice.newVar _ _
    | with_reducible exact Nice.elemOf _
    | with_reducible exact Nice.part _ _ _
    | with_reducible exact Nice.runtimePanic _
    | with_reducible exact Nice.boundsPanic _ _ _ _
    | with_reducible exact Nice.asIntOf _
    | with_reducible exact Nice.asInt _
    | with_reducible exact Nice.asBool _
    | with_reducible exact Nice.asAddr _
    | with_reducible exact Nice.sureAddr _
    | with_reducible exact Nice.loadAt _ _
    | with_reducible exact Nice.storeAt _ _ _
    | with_reducible exact Nice.indexAt _ _ _
    | with_reducible exact Nice.sliceBound _ _ _
    | with_reducible exact Nice.sliceBounds _ _ _ _ _ _
    | with_reducible exact Nice.slice _ _ _ _ _
    | with_reducible exact Nice.sliceAt _ _ _ _ _
    | with_reducible exact Nice.makeSlice _ _ _
    | with_reducible exact Nice.buildSlice _ _ _
    | with_reducible exact Nice.box _ _
    | with_reducible exact Nice.alloc _ _ _
    | with_reducible exact Nice.extract _ _
    | with_reducible exact Nice.makeInterface _ _
    | with_reducible exact Nice.len_ _ _ _
    | with_reducible exact Nice.cap_ _ _ _
    | with_reducible exact Nice.panic _
    | with_reducible exact Nice.firstCells _ _ _
    | with_reducible exact Nice.lenOf _
    | with_reducible exact Nice.append_ _ _ _
    | with_reducible exact Nice.noView _
    | with_reducible exact Nice.numberAt _
    | with_reducible exact Nice.asNumber _ _
    | with_reducible exact Nice.behindNumber _
    | with_reducible exact Nice.byteOf _
    | with_reducible exact Nice.sameAddr _ _
    | with_reducible exact Nice.samePointer _ _
    | with_reducible exact unsafeAdd_shape _ _ _ _
    | with_reducible exact Nice.movedNumber _ _ _
    | with_reducible exact Nice.movedPointer _ _ _
    | with_reducible exact Nice.twoPlaces _ _
    | with_reducible exact Nice.addrSub _ _ _
    | with_reducible exact Nice.addrCmp _ _ _
    | with_reducible exact Nice.addrMod _ _ _
    | with_reducible exact Nice.intArith _ _ _ _
    | with_reducible exact Nice.intDiv _ _ _ _
    | with_reducible exact Nice.intBits _ _ _ _
    | with_reducible exact Nice.intCmp _ _ _
    | with_reducible exact Nice.shift _ _ _ _ _
    | with_reducible exact Nice.floatArith _ _ _ _
    | with_reducible exact Nice.floatCmp _ _ _ _
    | with_reducible exact Nice.floatToFloat _ _ _
    | with_reducible exact Nice.stringOp _ _ _
    | with_reducible exact Nice.cArith _ _ _ _
    | with_reducible exact Nice.cCmp _ _ _ _
    | with_reducible exact Nice.cConv _ _ _
    | with_reducible exact Nice.c_add _ _
    | with_reducible exact Nice.c_sub _ _
    | with_reducible exact Nice.c_mul _ _
    | with_reducible exact Nice.c_quo _ _
    | with_reducible exact Nice.cProduct _ _ _ _
    | with_reducible exact Nice.cCorrected _ _ _ _ _
    | with_reducible exact Nice.cQuotient _ _ _ _
    | with_reducible exact Nice.complexOp _ _ _ _ _ _
    | with_reducible exact Nice.unary _ _
    | with_reducible exact Nice.equalIn _ _ _ _
    | with_reducible exact Nice.equal _ _ _
    | with_reducible exact Nice.eqGuardIn _ _ _ _
    | with_reducible exact Nice.eqGuard _ _ _ _ _ _
    | with_reducible exact Nice.binOp _ _ _ _
    | with_reducible exact Nice.markExtern _
    | with_reducible exact Nice.typeAssert _ _ _ _
    | with_reducible exact Nice.partAt _ _ _
    | with_reducible exact Nice.fieldPlace _ _
    | (with_reducible refine Nice.bind ?_ (fun _ => ?_))
    | (with_reducible refine Nice.ite ?_ ?_)
    | (refine Nice.map ?_)
    | split
    | dsimp only)
theorem Nice.build (t : TypeId) (ps : Array (Nat × Value)) : Nice P D (Instr.build t ps) := by
  unfold Instr.build
  repeat' (first
    | (with_reducible refine Nice.mapM_array (fun _ => ?_) _)
    | with_reducible exact Nice.pure _
    | with_reducible exact Nice.pure' _
    | with_reducible exact Nice.stuck _
    | with_reducible exact Nice.goPanic _
    | (with_reducible refine Nice.unsupported ?_); trivial
    | with_reducible exact Nice.program
    | with_reducible exact Nice.choose _
    | with_reducible exact Nice.load _ _
    | with_reducible exact Nice.store _ _ _
    | with_reducible exact Nice.frozen _
    | with_reducible exact Nice.askRoom _
    | with_reducible exact Nice.noRoom
    | exact Nice.newObj (fun _ _ h => by cases h)
    | with_reducible exact Nice.typeInfo _
    | with_reducible exact Nice.underlying _
    | with_reducible exact Nice.typeStr _
    | with_reducible exact Nice.zeroValue _
    | with_reducible exact Nice.sizeOf _
    | with_reducible exact Nice.isAgg _
    | with_reducible exact Nice.loadCells _ _
    | with_reducible exact Nice.storeCells _ _ _
    | with_reducible exact Nice.loadVar _ _
    | with_reducible exact Nice.storeVar _ _ _
    | with_reducible exact Nice.newRow _ _
    | with_reducible exact Nice.newVar _ _
    | with_reducible exact Nice.elemOf _
    | with_reducible exact Nice.part _ _ _
    | with_reducible exact Nice.runtimePanic _
    | with_reducible exact Nice.boundsPanic _ _ _ _
    | with_reducible exact Nice.asIntOf _
    | with_reducible exact Nice.asInt _
    | with_reducible exact Nice.asBool _
    | with_reducible exact Nice.asAddr _
    | with_reducible exact Nice.sureAddr _
    | with_reducible exact Nice.loadAt _ _
    | with_reducible exact Nice.storeAt _ _ _
    | with_reducible exact Nice.indexAt _ _ _
    | with_reducible exact Nice.sliceBound _ _ _
    | with_reducible exact Nice.sliceBounds _ _ _ _ _ _
    | with_reducible exact Nice.slice _ _ _ _ _
    | with_reducible exact Nice.sliceAt _ _ _ _ _
    | with_reducible exact Nice.makeSlice _ _ _
    | with_reducible exact Nice.buildSlice _ _ _
    | with_reducible exact Nice.box _ _
    | with_reducible exact Nice.alloc _ _ _
    | with_reducible exact Nice.extract _ _
    | with_reducible exact Nice.makeInterface _ _
    | with_reducible exact Nice.len_ _ _ _
    | with_reducible exact Nice.cap_ _ _ _
    | with_reducible exact Nice.panic _
    | with_reducible exact Nice.firstCells _ _ _
    | with_reducible exact Nice.lenOf _
    | with_reducible exact Nice.append_ _ _ _
    | with_reducible exact Nice.noView _
    | with_reducible exact Nice.numberAt _
    | with_reducible exact Nice.asNumber _ _
    | with_reducible exact Nice.behindNumber _
    | with_reducible exact Nice.byteOf _
    | with_reducible exact Nice.sameAddr _ _
    | with_reducible exact Nice.samePointer _ _
    | with_reducible exact unsafeAdd_shape _ _ _ _
    | with_reducible exact Nice.movedNumber _ _ _
    | with_reducible exact Nice.movedPointer _ _ _
    | with_reducible exact Nice.twoPlaces _ _
    | with_reducible exact Nice.addrSub _ _ _
    | with_reducible exact Nice.addrCmp _ _ _
    | with_reducible exact Nice.addrMod _ _ _
    | with_reducible exact Nice.intArith _ _ _ _
    | with_reducible exact Nice.intDiv _ _ _ _
    | with_reducible exact Nice.intBits _ _ _ _
    | with_reducible exact Nice.intCmp _ _ _
    | with_reducible exact Nice.shift _ _ _ _ _
    | with_reducible exact Nice.floatArith _ _ _ _
    | with_reducible exact Nice.floatCmp _ _ _ _
    | with_reducible exact Nice.floatToFloat _ _ _
    | with_reducible exact Nice.stringOp _ _ _
    | with_reducible exact Nice.cArith _ _ _ _
    | with_reducible exact Nice.cCmp _ _ _ _
    | with_reducible exact Nice.cConv _ _ _
    | with_reducible exact Nice.c_add _ _
    | with_reducible exact Nice.c_sub _ _
    | with_reducible exact Nice.c_mul _ _
    | with_reducible exact Nice.c_quo _ _
    | with_reducible exact Nice.cProduct _ _ _ _
    | with_reducible exact Nice.cCorrected _ _ _ _ _
    | with_reducible exact Nice.cQuotient _ _ _ _
    | with_reducible exact Nice.complexOp _ _ _ _ _ _
    | with_reducible exact Nice.unary _ _
    | with_reducible exact Nice.equalIn _ _ _ _
    | with_reducible exact Nice.equal _ _ _
    | with_reducible exact Nice.eqGuardIn _ _ _ _
    | with_reducible exact Nice.eqGuard _ _ _ _ _ _
    | with_reducible exact Nice.binOp _ _ _ _
    | with_reducible exact Nice.markExtern _
    | with_reducible exact Nice.typeAssert _ _ _ _
    | with_reducible exact Nice.partAt _ _ _
    | with_reducible exact Nice.fieldPlace _ _
    | with_reducible exact Nice.fieldAt _ _ _
    | (with_reducible refine Nice.bind ?_ (fun _ => ?_))
    | (with_reducible refine Nice.ite ?_ ?_)
    | (refine Nice.map ?_)
    | split
    | dsimp only)
theorem Nice.placeGet (t : TypeId) (x : Place) : Nice P D (Place.get t x) := by
  unfold Place.get
  repeat' (first
    | with_reducible exact Nice.pure _
    | with_reducible exact Nice.pure' _
    | with_reducible exact Nice.stuck _
    | with_reducible exact Nice.goPanic _
    | (with_reducible refine Nice.unsupported ?_); trivial
    | with_reducible exact Nice.program
    | with_reducible exact Nice.choose _
    | with_reducible exact Nice.load _ _
    | with_reducible exact Nice.store _ _ _
    | with_reducible exact Nice.frozen _
    | with_reducible exact Nice.askRoom _
    | with_reducible exact Nice.noRoom
    | exact Nice.newObj (fun _ _ h => by cases h)
    | with_reducible exact Nice.typeInfo _
    | with_reducible exact Nice.underlying _
    | with_reducible exact Nice.typeStr _
    | with_reducible exact Nice.zeroValue _
    | with_reducible exact Nice.sizeOf _
    | with_reducible exact Nice.isAgg _
    | with_reducible exact Nice.loadCells _ _
    | with_reducible exact Nice.storeCells _ _ _
    | with_reducible exact Nice.loadVar _ _
    | with_reducible exact Nice.storeVar _ _ _
    | with_reducible exact Nice.newRow _ _
    | with_reducible exact Nice.newVar _ _
    | with_reducible exact Nice.elemOf _
    | with_reducible exact Nice.part _ _ _
    | with_reducible exact Nice.runtimePanic _
    | with_reducible exact Nice.boundsPanic _ _ _ _
    | with_reducible exact Nice.asIntOf _
    | with_reducible exact Nice.asInt _
    | with_reducible exact Nice.asBool _
    | with_reducible exact Nice.asAddr _
    | with_reducible exact Nice.sureAddr _
    | with_reducible exact Nice.loadAt _ _
    | with_reducible exact Nice.storeAt _ _ _
    | with_reducible exact Nice.indexAt _ _ _
    | with_reducible exact Nice.sliceBound _ _ _
    | with_reducible exact Nice.sliceBounds _ _ _ _ _ _
    | with_reducible exact Nice.slice _ _ _ _ _
    | with_reducible exact Nice.sliceAt _ _ _ _ _
    | with_reducible exact Nice.makeSlice _ _ _
    | with_reducible exact Nice.buildSlice _ _ _
    | with_reducible exact Nice.box _ _
    | with_reducible exact Nice.alloc _ _ _
    | with_reducible exact Nice.extract _ _
    | with_reducible exact Nice.makeInterface _ _
    | with_reducible exact Nice.len_ _ _ _
    | with_reducible exact Nice.cap_ _ _ _
    | with_reducible exact Nice.panic _
    | with_reducible exact Nice.firstCells _ _ _
    | with_reducible exact Nice.lenOf _
    | with_reducible exact Nice.append_ _ _ _
    | with_reducible exact Nice.noView _
    | with_reducible exact Nice.numberAt _
    | with_reducible exact Nice.asNumber _ _
    | with_reducible exact Nice.behindNumber _
    | with_reducible exact Nice.byteOf _
    | with_reducible exact Nice.sameAddr _ _
    | with_reducible exact Nice.samePointer _ _
    | with_reducible exact unsafeAdd_shape _ _ _ _
    | with_reducible exact Nice.movedNumber _ _ _
    | with_reducible exact Nice.movedPointer _ _ _
    | with_reducible exact Nice.twoPlaces _ _
    | with_reducible exact Nice.addrSub _ _ _
    | with_reducible exact Nice.addrCmp _ _ _
    | with_reducible exact Nice.addrMod _ _ _
    | with_reducible exact Nice.intArith _ _ _ _
    | with_reducible exact Nice.intDiv _ _ _ _
    | with_reducible exact Nice.intBits _ _ _ _
    | with_reducible exact Nice.intCmp _ _ _
    | with_reducible exact Nice.shift _ _ _ _ _
    | with_reducible exact Nice.floatArith _ _ _ _
    | with_reducible exact Nice.floatCmp _ _ _ _
    | with_reducible exact Nice.floatToFloat _ _ _
    | with_reducible exact Nice.stringOp _ _ _
    | with_reducible exact Nice.cArith _ _ _ _
    | with_reducible exact Nice.cCmp _ _ _ _
    | with_reducible exact Nice.cConv _ _ _
    | with_reducible exact Nice.c_add _ _
    | with_reducible exact Nice.c_sub _ _
    | with_reducible exact Nice.c_mul _ _
    | with_reducible exact Nice.c_quo _ _
    | with_reducible exact Nice.cProduct _ _ _ _
    | with_reducible exact Nice.cCorrected _ _ _ _ _
    | with_reducible exact Nice.cQuotient _ _ _ _
    | with_reducible exact Nice.complexOp _ _ _ _ _ _
    | with_reducible exact Nice.unary _ _
    | with_reducible exact Nice.equalIn _ _ _ _
    | with_reducible exact Nice.equal _ _ _
    | with_reducible exact Nice.eqGuardIn _ _ _ _
    | with_reducible exact Nice.eqGuard _ _ _ _ _ _
    | with_reducible exact Nice.binOp _ _ _ _
    | with_reducible exact Nice.markExtern _
    | with_reducible exact Nice.typeAssert _ _ _ _
    | with_reducible exact Nice.partAt _ _ _
    | with_reducible exact Nice.fieldPlace _ _
    | with_reducible exact Nice.fieldAt _ _ _
    | with_reducible exact Nice.build _ _
    | (with_reducible refine Nice.bind ?_ (fun _ => ?_))
    | (with_reducible refine Nice.ite ?_ ?_)
    | (refine Nice.map ?_)
    | split
    | dsimp only)
theorem Nice.follow : ∀ (l : List FieldStep) (t : TypeId) (x : Place), Nice P D (Go.follow l t x)
  | [], _, _ => .pure _
  | s :: l, t, x => by
    have ih := Nice.follow l
    unfold Go.follow
    repeat' (first
      | with_reducible exact ih _ _
      | with_reducible exact Nice.pure _
      | with_reducible exact Nice.pure' _
      | with_reducible exact Nice.stuck _
      | with_reducible exact Nice.goPanic _
      | (with_reducible refine Nice.unsupported ?_); trivial
      | with_reducible exact Nice.program
      | with_reducible exact Nice.choose _
      | with_reducible exact Nice.load _ _
      | with_reducible exact Nice.store _ _ _
      | with_reducible exact Nice.frozen _
      | with_reducible exact Nice.askRoom _
      | with_reducible exact Nice.noRoom
      | exact Nice.newObj (fun _ _ h => by cases h)
      | with_reducible exact Nice.typeInfo _
      | with_reducible exact Nice.underlying _
      | with_reducible exact Nice.typeStr _
      | with_reducible exact Nice.zeroValue _
      | with_reducible exact Nice.sizeOf _
      | with_reducible exact Nice.isAgg _
      | with_reducible exact Nice.loadCells _ _
      | with_reducible exact Nice.storeCells _ _ _
      | with_reducible exact Nice.loadVar _ _
      | with_reducible exact Nice.storeVar _ _ _
      | with_reducible exact Nice.newRow _ _
      | with_reducible exact Nice.newVar _ _
      | with_reducible exact Nice.elemOf _
      | with_reducible exact Nice.part _ _ _
      | with_reducible exact Nice.runtimePanic _
      | with_reducible exact Nice.boundsPanic _ _ _ _
      | with_reducible exact Nice.asIntOf _
      | with_reducible exact Nice.asInt _
      | with_reducible exact Nice.asBool _
      | with_reducible exact Nice.asAddr _
      | with_reducible exact Nice.sureAddr _
      | with_reducible exact Nice.loadAt _ _
      | with_reducible exact Nice.storeAt _ _ _
      | with_reducible exact Nice.indexAt _ _ _
      | with_reducible exact Nice.sliceBound _ _ _
      | with_reducible exact Nice.sliceBounds _ _ _ _ _ _
      | with_reducible exact Nice.slice _ _ _ _ _
      | with_reducible exact Nice.sliceAt _ _ _ _ _
      | with_reducible exact Nice.makeSlice _ _ _
      | with_reducible exact Nice.buildSlice _ _ _
      | with_reducible exact Nice.box _ _
      | with_reducible exact Nice.alloc _ _ _
      | with_reducible exact Nice.extract _ _
      | with_reducible exact Nice.makeInterface _ _
      | with_reducible exact Nice.len_ _ _ _
      | with_reducible exact Nice.cap_ _ _ _
      | with_reducible exact Nice.panic _
      | with_reducible exact Nice.firstCells _ _ _
      | with_reducible exact Nice.lenOf _
      | with_reducible exact Nice.append_ _ _ _
      | with_reducible exact Nice.noView _
      | with_reducible exact Nice.numberAt _
      | with_reducible exact Nice.asNumber _ _
      | with_reducible exact Nice.behindNumber _
      | with_reducible exact Nice.byteOf _
      | with_reducible exact Nice.sameAddr _ _
      | with_reducible exact Nice.samePointer _ _
      | with_reducible exact unsafeAdd_shape _ _ _ _
      | with_reducible exact Nice.movedNumber _ _ _
      | with_reducible exact Nice.movedPointer _ _ _
      | with_reducible exact Nice.twoPlaces _ _
      | with_reducible exact Nice.addrSub _ _ _
      | with_reducible exact Nice.addrCmp _ _ _
      | with_reducible exact Nice.addrMod _ _ _
      | with_reducible exact Nice.intArith _ _ _ _
      | with_reducible exact Nice.intDiv _ _ _ _
      | with_reducible exact Nice.intBits _ _ _ _
      | with_reducible exact Nice.intCmp _ _ _
      | with_reducible exact Nice.shift _ _ _ _ _
      | with_reducible exact Nice.floatArith _ _ _ _
      | with_reducible exact Nice.floatCmp _ _ _ _
      | with_reducible exact Nice.floatToFloat _ _ _
      | with_reducible exact Nice.stringOp _ _ _
      | with_reducible exact Nice.cArith _ _ _ _
      | with_reducible exact Nice.cCmp _ _ _ _
      | with_reducible exact Nice.cConv _ _ _
      | with_reducible exact Nice.c_add _ _
      | with_reducible exact Nice.c_sub _ _
      | with_reducible exact Nice.c_mul _ _
      | with_reducible exact Nice.c_quo _ _
      | with_reducible exact Nice.cProduct _ _ _ _
      | with_reducible exact Nice.cCorrected _ _ _ _ _
      | with_reducible exact Nice.cQuotient _ _ _ _
      | with_reducible exact Nice.complexOp _ _ _ _ _ _
      | with_reducible exact Nice.unary _ _
      | with_reducible exact Nice.equalIn _ _ _ _
      | with_reducible exact Nice.equal _ _ _
      | with_reducible exact Nice.eqGuardIn _ _ _ _
      | with_reducible exact Nice.eqGuard _ _ _ _ _ _
      | with_reducible exact Nice.binOp _ _ _ _
      | with_reducible exact Nice.markExtern _
      | with_reducible exact Nice.typeAssert _ _ _ _
      | with_reducible exact Nice.partAt _ _ _
      | with_reducible exact Nice.fieldPlace _ _
      | with_reducible exact Nice.fieldAt _ _ _
      | with_reducible exact Nice.build _ _
      | with_reducible exact Nice.placeGet _ _
      | (with_reducible refine Nice.bind ?_ (fun _ => ?_))
      | (with_reducible refine Nice.ite ?_ ?_)
      | (refine Nice.map ?_)
      | split
      | dsimp only)
theorem Nice.ssaWrapNilChk (xt : TypeId) (ptr : Value) (a n : String) : Nice P D (Builtin.ssaWrapNilChk_ #[xt] xt #[ptr, strVal a, strVal n]) := by
  cases ptr with
  | pointer q =>
    cases q with
    | some q => exact Nice.pure _
    | none =>
      refine Nice.bind (Nice.choose _) (fun r => ?_)
      by_cases hr : (r == 1) = true
      · rw [if_pos hr]
        refine Nice.bind (Nice.runtimePanic _) (fun _ => ?_)
        refine Nice.bind (Nice.underlying _) (fun _ => ?_)
        repeat' (first
          | with_reducible exact Nice.pure _
          | with_reducible exact Nice.pure' _
          | with_reducible exact Nice.stuck _
          | with_reducible exact Nice.goPanic _
          | (with_reducible refine Nice.unsupported ?_); trivial
          | with_reducible exact Nice.program
          | with_reducible exact Nice.choose _
          | with_reducible exact Nice.load _ _
          | with_reducible exact Nice.store _ _ _
          | with_reducible exact Nice.frozen _
          | with_reducible exact Nice.askRoom _
          | with_reducible exact Nice.noRoom
          | exact Nice.newObj (fun _ _ h => by cases h)
          | with_reducible exact Nice.typeInfo _
          | with_reducible exact Nice.underlying _
          | with_reducible exact Nice.typeStr _
          | with_reducible exact Nice.zeroValue _
          | with_reducible exact Nice.sizeOf _
          | with_reducible exact Nice.isAgg _
          | with_reducible exact Nice.loadCells _ _
          | with_reducible exact Nice.storeCells _ _ _
          | with_reducible exact Nice.loadVar _ _
          | with_reducible exact Nice.storeVar _ _ _
          | with_reducible exact Nice.newRow _ _
          | with_reducible exact Nice.newVar _ _
          | with_reducible exact Nice.elemOf _
          | with_reducible exact Nice.part _ _ _
          | with_reducible exact Nice.runtimePanic _
          | with_reducible exact Nice.boundsPanic _ _ _ _
          | with_reducible exact Nice.asIntOf _
          | with_reducible exact Nice.asInt _
          | with_reducible exact Nice.asBool _
          | with_reducible exact Nice.asAddr _
          | with_reducible exact Nice.sureAddr _
          | with_reducible exact Nice.loadAt _ _
          | with_reducible exact Nice.storeAt _ _ _
          | with_reducible exact Nice.indexAt _ _ _
          | with_reducible exact Nice.sliceBound _ _ _
          | with_reducible exact Nice.sliceBounds _ _ _ _ _ _
          | with_reducible exact Nice.slice _ _ _ _ _
          | with_reducible exact Nice.sliceAt _ _ _ _ _
          | with_reducible exact Nice.makeSlice _ _ _
          | with_reducible exact Nice.buildSlice _ _ _
          | with_reducible exact Nice.box _ _
          | with_reducible exact Nice.alloc _ _ _
          | with_reducible exact Nice.extract _ _
          | with_reducible exact Nice.makeInterface _ _
          | with_reducible exact Nice.len_ _ _ _
          | with_reducible exact Nice.cap_ _ _ _
          | with_reducible exact Nice.panic _
          | with_reducible exact Nice.firstCells _ _ _
          | with_reducible exact Nice.lenOf _
          | with_reducible exact Nice.append_ _ _ _
          | with_reducible exact Nice.noView _
          | with_reducible exact Nice.numberAt _
          | with_reducible exact Nice.asNumber _ _
          | with_reducible exact Nice.behindNumber _
          | with_reducible exact Nice.byteOf _
          | with_reducible exact Nice.sameAddr _ _
          | with_reducible exact Nice.samePointer _ _
          | with_reducible exact unsafeAdd_shape _ _ _ _
          | with_reducible exact Nice.movedNumber _ _ _
          | with_reducible exact Nice.movedPointer _ _ _
          | with_reducible exact Nice.twoPlaces _ _
          | with_reducible exact Nice.addrSub _ _ _
          | with_reducible exact Nice.addrCmp _ _ _
          | with_reducible exact Nice.addrMod _ _ _
          | with_reducible exact Nice.intArith _ _ _ _
          | with_reducible exact Nice.intDiv _ _ _ _
          | with_reducible exact Nice.intBits _ _ _ _
          | with_reducible exact Nice.intCmp _ _ _
          | with_reducible exact Nice.shift _ _ _ _ _
          | with_reducible exact Nice.floatArith _ _ _ _
          | with_reducible exact Nice.floatCmp _ _ _ _
          | with_reducible exact Nice.floatToFloat _ _ _
          | with_reducible exact Nice.stringOp _ _ _
          | with_reducible exact Nice.cArith _ _ _ _
          | with_reducible exact Nice.cCmp _ _ _ _
          | with_reducible exact Nice.cConv _ _ _
          | with_reducible exact Nice.c_add _ _
          | with_reducible exact Nice.c_sub _ _
          | with_reducible exact Nice.c_mul _ _
          | with_reducible exact Nice.c_quo _ _
          | with_reducible exact Nice.cProduct _ _ _ _
          | with_reducible exact Nice.cCorrected _ _ _ _ _
          | with_reducible exact Nice.cQuotient _ _ _ _
          | with_reducible exact Nice.complexOp _ _ _ _ _ _
          | with_reducible exact Nice.unary _ _
          | with_reducible exact Nice.equalIn _ _ _ _
          | with_reducible exact Nice.equal _ _ _
          | with_reducible exact Nice.eqGuardIn _ _ _ _
          | with_reducible exact Nice.eqGuard _ _ _ _ _ _
          | with_reducible exact Nice.binOp _ _ _ _
          | with_reducible exact Nice.markExtern _
          | with_reducible exact Nice.typeAssert _ _ _ _
          | with_reducible exact Nice.partAt _ _ _
          | with_reducible exact Nice.fieldPlace _ _
          | with_reducible exact Nice.fieldAt _ _ _
          | with_reducible exact Nice.build _ _
          | with_reducible exact Nice.placeGet _ _
          | with_reducible exact Nice.follow _ _ _
          | (with_reducible refine Nice.bind ?_ (fun _ => ?_))
          | (with_reducible refine Nice.ite ?_ ?_)
          | (refine Nice.map ?_)
          | split
          | dsimp only)
      · rw [if_neg hr]
        refine Nice.bind (Nice.underlying _) (fun _ => ?_)
        repeat' (first
          | with_reducible exact Nice.pure _
          | with_reducible exact Nice.pure' _
          | with_reducible exact Nice.stuck _
          | with_reducible exact Nice.goPanic _
          | (with_reducible refine Nice.unsupported ?_); trivial
          | with_reducible exact Nice.program
          | with_reducible exact Nice.choose _
          | with_reducible exact Nice.load _ _
          | with_reducible exact Nice.store _ _ _
          | with_reducible exact Nice.frozen _
          | with_reducible exact Nice.askRoom _
          | with_reducible exact Nice.noRoom
          | exact Nice.newObj (fun _ _ h => by cases h)
          | with_reducible exact Nice.typeInfo _
          | with_reducible exact Nice.underlying _
          | with_reducible exact Nice.typeStr _
          | with_reducible exact Nice.zeroValue _
          | with_reducible exact Nice.sizeOf _
          | with_reducible exact Nice.isAgg _
          | with_reducible exact Nice.loadCells _ _
          | with_reducible exact Nice.storeCells _ _ _
          | with_reducible exact Nice.loadVar _ _
          | with_reducible exact Nice.storeVar _ _ _
          | with_reducible exact Nice.newRow _ _
          | with_reducible exact Nice.newVar _ _
          | with_reducible exact Nice.elemOf _
          | with_reducible exact Nice.part _ _ _
          | with_reducible exact Nice.runtimePanic _
          | with_reducible exact Nice.boundsPanic _ _ _ _
          | with_reducible exact Nice.asIntOf _
          | with_reducible exact Nice.asInt _
          | with_reducible exact Nice.asBool _
          | with_reducible exact Nice.asAddr _
          | with_reducible exact Nice.sureAddr _
          | with_reducible exact Nice.loadAt _ _
          | with_reducible exact Nice.storeAt _ _ _
          | with_reducible exact Nice.indexAt _ _ _
          | with_reducible exact Nice.sliceBound _ _ _
          | with_reducible exact Nice.sliceBounds _ _ _ _ _ _
          | with_reducible exact Nice.slice _ _ _ _ _
          | with_reducible exact Nice.sliceAt _ _ _ _ _
          | with_reducible exact Nice.makeSlice _ _ _
          | with_reducible exact Nice.buildSlice _ _ _
          | with_reducible exact Nice.box _ _
          | with_reducible exact Nice.alloc _ _ _
          | with_reducible exact Nice.extract _ _
          | with_reducible exact Nice.makeInterface _ _
          | with_reducible exact Nice.len_ _ _ _
          | with_reducible exact Nice.cap_ _ _ _
          | with_reducible exact Nice.panic _
          | with_reducible exact Nice.firstCells _ _ _
          | with_reducible exact Nice.lenOf _
          | with_reducible exact Nice.append_ _ _ _
          | with_reducible exact Nice.noView _
          | with_reducible exact Nice.numberAt _
          | with_reducible exact Nice.asNumber _ _
          | with_reducible exact Nice.behindNumber _
          | with_reducible exact Nice.byteOf _
          | with_reducible exact Nice.sameAddr _ _
          | with_reducible exact Nice.samePointer _ _
          | with_reducible exact unsafeAdd_shape _ _ _ _
          | with_reducible exact Nice.movedNumber _ _ _
          | with_reducible exact Nice.movedPointer _ _ _
          | with_reducible exact Nice.twoPlaces _ _
          | with_reducible exact Nice.addrSub _ _ _
          | with_reducible exact Nice.addrCmp _ _ _
          | with_reducible exact Nice.addrMod _ _ _
          | with_reducible exact Nice.intArith _ _ _ _
          | with_reducible exact Nice.intDiv _ _ _ _
          | with_reducible exact Nice.intBits _ _ _ _
          | with_reducible exact Nice.intCmp _ _ _
          | with_reducible exact Nice.shift _ _ _ _ _
          | with_reducible exact Nice.floatArith _ _ _ _
          | with_reducible exact Nice.floatCmp _ _ _ _
          | with_reducible exact Nice.floatToFloat _ _ _
          | with_reducible exact Nice.stringOp _ _ _
          | with_reducible exact Nice.cArith _ _ _ _
          | with_reducible exact Nice.cCmp _ _ _ _
          | with_reducible exact Nice.cConv _ _ _
          | with_reducible exact Nice.c_add _ _
          | with_reducible exact Nice.c_sub _ _
          | with_reducible exact Nice.c_mul _ _
          | with_reducible exact Nice.c_quo _ _
          | with_reducible exact Nice.cProduct _ _ _ _
          | with_reducible exact Nice.cCorrected _ _ _ _ _
          | with_reducible exact Nice.cQuotient _ _ _ _
          | with_reducible exact Nice.complexOp _ _ _ _ _ _
          | with_reducible exact Nice.unary _ _
          | with_reducible exact Nice.equalIn _ _ _ _
          | with_reducible exact Nice.equal _ _ _
          | with_reducible exact Nice.eqGuardIn _ _ _ _
          | with_reducible exact Nice.eqGuard _ _ _ _ _ _
          | with_reducible exact Nice.binOp _ _ _ _
          | with_reducible exact Nice.markExtern _
          | with_reducible exact Nice.typeAssert _ _ _ _
          | with_reducible exact Nice.partAt _ _ _
          | with_reducible exact Nice.fieldPlace _ _
          | with_reducible exact Nice.fieldAt _ _ _
          | with_reducible exact Nice.build _ _
          | with_reducible exact Nice.placeGet _ _
          | with_reducible exact Nice.follow _ _ _
          | (with_reducible refine Nice.bind ?_ (fun _ => ?_))
          | (with_reducible refine Nice.ite ?_ ?_)
          | (refine Nice.map ?_)
          | split
          | dsimp only)
  | _ => exact Nice.stuck _
theorem Nice.receiverAt (t : TypeId) (x : Place) (b : Bool) (n : Option String) : Nice P D (Go.receiverAt t x b n) := by
  unfold Go.receiverAt
  repeat' (first
    | with_reducible exact Nice.pure _
    | with_reducible exact Nice.pure' _
    | with_reducible exact Nice.stuck _
    | with_reducible exact Nice.goPanic _
    | (with_reducible refine Nice.unsupported ?_); trivial
    | with_reducible exact Nice.program
    | with_reducible exact Nice.choose _
    | with_reducible exact Nice.load _ _
    | with_reducible exact Nice.store _ _ _
    | with_reducible exact Nice.frozen _
    | with_reducible exact Nice.askRoom _
    | with_reducible exact Nice.noRoom
    | exact Nice.newObj (fun _ _ h => by cases h)
    | with_reducible exact Nice.typeInfo _
    | with_reducible exact Nice.underlying _
    | with_reducible exact Nice.typeStr _
    | with_reducible exact Nice.zeroValue _
    | with_reducible exact Nice.sizeOf _
    | with_reducible exact Nice.isAgg _
    | with_reducible exact Nice.loadCells _ _
    | with_reducible exact Nice.storeCells _ _ _
    | with_reducible exact Nice.loadVar _ _
    | with_reducible exact Nice.storeVar _ _ _
    | with_reducible exact Nice.newRow _ _
    | with_reducible exact Nice.newVar _ _
    | with_reducible exact Nice.elemOf _
    | with_reducible exact Nice.part _ _ _
    | with_reducible exact Nice.runtimePanic _
    | with_reducible exact Nice.boundsPanic _ _ _ _
    | with_reducible exact Nice.asIntOf _
    | with_reducible exact Nice.asInt _
    | with_reducible exact Nice.asBool _
    | with_reducible exact Nice.asAddr _
    | with_reducible exact Nice.sureAddr _
    | with_reducible exact Nice.loadAt _ _
    | with_reducible exact Nice.storeAt _ _ _
    | with_reducible exact Nice.indexAt _ _ _
    | with_reducible exact Nice.sliceBound _ _ _
    | with_reducible exact Nice.sliceBounds _ _ _ _ _ _
    | with_reducible exact Nice.slice _ _ _ _ _
    | with_reducible exact Nice.sliceAt _ _ _ _ _
    | with_reducible exact Nice.makeSlice _ _ _
    | with_reducible exact Nice.buildSlice _ _ _
    | with_reducible exact Nice.box _ _
    | with_reducible exact Nice.alloc _ _ _
    | with_reducible exact Nice.extract _ _
    | with_reducible exact Nice.makeInterface _ _
    | with_reducible exact Nice.len_ _ _ _
    | with_reducible exact Nice.cap_ _ _ _
    | with_reducible exact Nice.panic _
    | with_reducible exact Nice.firstCells _ _ _
    | with_reducible exact Nice.lenOf _
    | with_reducible exact Nice.append_ _ _ _
    | with_reducible exact Nice.noView _
    | with_reducible exact Nice.numberAt _
    | with_reducible exact Nice.asNumber _ _
    | with_reducible exact Nice.behindNumber _
    | with_reducible exact Nice.byteOf _
    | with_reducible exact Nice.sameAddr _ _
    | with_reducible exact Nice.samePointer _ _
    | with_reducible exact unsafeAdd_shape _ _ _ _
    | with_reducible exact Nice.movedNumber _ _ _
    | with_reducible exact Nice.movedPointer _ _ _
    | with_reducible exact Nice.twoPlaces _ _
    | with_reducible exact Nice.addrSub _ _ _
    | with_reducible exact Nice.addrCmp _ _ _
    | with_reducible exact Nice.addrMod _ _ _
    | with_reducible exact Nice.intArith _ _ _ _
    | with_reducible exact Nice.intDiv _ _ _ _
    | with_reducible exact Nice.intBits _ _ _ _
    | with_reducible exact Nice.intCmp _ _ _
    | with_reducible exact Nice.shift _ _ _ _ _
    | with_reducible exact Nice.floatArith _ _ _ _
    | with_reducible exact Nice.floatCmp _ _ _ _
    | with_reducible exact Nice.floatToFloat _ _ _
    | with_reducible exact Nice.stringOp _ _ _
    | with_reducible exact Nice.cArith _ _ _ _
    | with_reducible exact Nice.cCmp _ _ _ _
    | with_reducible exact Nice.cConv _ _ _
    | with_reducible exact Nice.c_add _ _
    | with_reducible exact Nice.c_sub _ _
    | with_reducible exact Nice.c_mul _ _
    | with_reducible exact Nice.c_quo _ _
    | with_reducible exact Nice.cProduct _ _ _ _
    | with_reducible exact Nice.cCorrected _ _ _ _ _
    | with_reducible exact Nice.cQuotient _ _ _ _
    | with_reducible exact Nice.complexOp _ _ _ _ _ _
    | with_reducible exact Nice.unary _ _
    | with_reducible exact Nice.equalIn _ _ _ _
    | with_reducible exact Nice.equal _ _ _
    | with_reducible exact Nice.eqGuardIn _ _ _ _
    | with_reducible exact Nice.eqGuard _ _ _ _ _ _
    | with_reducible exact Nice.binOp _ _ _ _
    | with_reducible exact Nice.markExtern _
    | with_reducible exact Nice.typeAssert _ _ _ _
    | with_reducible exact Nice.partAt _ _ _
    | with_reducible exact Nice.fieldPlace _ _
    | with_reducible exact Nice.fieldAt _ _ _
    | with_reducible exact Nice.build _ _
    | with_reducible exact Nice.placeGet _ _
    | with_reducible exact Nice.follow _ _ _
    | with_reducible exact Nice.ssaWrapNilChk _ _ _ _
    | (with_reducible refine Nice.bind ?_ (fun _ => ?_))
    | (with_reducible refine Nice.ite ?_ ?_)
    | (refine Nice.map ?_)
    | split
    | dsimp only)
theorem Nice.method : ∀ (n : Nat) (t : TypeId) (v : Value) (s : String), Nice P D (Go.method n t v s)
  | 0, _, _, _ => by unfold Go.method; exact Nice.unsupported (x := .resourceLimit _) trivial
  | n + 1, t, v, s => by
    have ih := Nice.method n
    unfold Go.method
    repeat' (first
      | with_reducible exact ih _ _ _
      | with_reducible exact Nice.pure _
      | with_reducible exact Nice.pure' _
      | with_reducible exact Nice.stuck _
      | with_reducible exact Nice.goPanic _
      | (with_reducible refine Nice.unsupported ?_); trivial
      | with_reducible exact Nice.program
      | with_reducible exact Nice.choose _
      | with_reducible exact Nice.load _ _
      | with_reducible exact Nice.store _ _ _
      | with_reducible exact Nice.frozen _
      | with_reducible exact Nice.askRoom _
      | with_reducible exact Nice.noRoom
      | exact Nice.newObj (fun _ _ h => by cases h)
      | with_reducible exact Nice.typeInfo _
      | with_reducible exact Nice.underlying _
      | with_reducible exact Nice.typeStr _
      | with_reducible exact Nice.zeroValue _
      | with_reducible exact Nice.sizeOf _
      | with_reducible exact Nice.isAgg _
      | with_reducible exact Nice.loadCells _ _
      | with_reducible exact Nice.storeCells _ _ _
      | with_reducible exact Nice.loadVar _ _
      | with_reducible exact Nice.storeVar _ _ _
      | with_reducible exact Nice.newRow _ _
      | with_reducible exact Nice.newVar _ _
      | with_reducible exact Nice.elemOf _
      | with_reducible exact Nice.part _ _ _
      | with_reducible exact Nice.runtimePanic _
      | with_reducible exact Nice.boundsPanic _ _ _ _
      | with_reducible exact Nice.asIntOf _
      | with_reducible exact Nice.asInt _
      | with_reducible exact Nice.asBool _
      | with_reducible exact Nice.asAddr _
      | with_reducible exact Nice.sureAddr _
      | with_reducible exact Nice.loadAt _ _
      | with_reducible exact Nice.storeAt _ _ _
      | with_reducible exact Nice.indexAt _ _ _
      | with_reducible exact Nice.sliceBound _ _ _
      | with_reducible exact Nice.sliceBounds _ _ _ _ _ _
      | with_reducible exact Nice.slice _ _ _ _ _
      | with_reducible exact Nice.sliceAt _ _ _ _ _
      | with_reducible exact Nice.makeSlice _ _ _
      | with_reducible exact Nice.buildSlice _ _ _
      | with_reducible exact Nice.box _ _
      | with_reducible exact Nice.alloc _ _ _
      | with_reducible exact Nice.extract _ _
      | with_reducible exact Nice.makeInterface _ _
      | with_reducible exact Nice.len_ _ _ _
      | with_reducible exact Nice.cap_ _ _ _
      | with_reducible exact Nice.panic _
      | with_reducible exact Nice.firstCells _ _ _
      | with_reducible exact Nice.lenOf _
      | with_reducible exact Nice.append_ _ _ _
      | with_reducible exact Nice.noView _
      | with_reducible exact Nice.numberAt _
      | with_reducible exact Nice.asNumber _ _
      | with_reducible exact Nice.behindNumber _
      | with_reducible exact Nice.byteOf _
      | with_reducible exact Nice.sameAddr _ _
      | with_reducible exact Nice.samePointer _ _
      | with_reducible exact unsafeAdd_shape _ _ _ _
      | with_reducible exact Nice.movedNumber _ _ _
      | with_reducible exact Nice.movedPointer _ _ _
      | with_reducible exact Nice.twoPlaces _ _
      | with_reducible exact Nice.addrSub _ _ _
      | with_reducible exact Nice.addrCmp _ _ _
      | with_reducible exact Nice.addrMod _ _ _
      | with_reducible exact Nice.intArith _ _ _ _
      | with_reducible exact Nice.intDiv _ _ _ _
      | with_reducible exact Nice.intBits _ _ _ _
      | with_reducible exact Nice.intCmp _ _ _
      | with_reducible exact Nice.shift _ _ _ _ _
      | with_reducible exact Nice.floatArith _ _ _ _
      | with_reducible exact Nice.floatCmp _ _ _ _
      | with_reducible exact Nice.floatToFloat _ _ _
      | with_reducible exact Nice.stringOp _ _ _
      | with_reducible exact Nice.cArith _ _ _ _
      | with_reducible exact Nice.cCmp _ _ _ _
      | with_reducible exact Nice.cConv _ _ _
      | with_reducible exact Nice.c_add _ _
      | with_reducible exact Nice.c_sub _ _
      | with_reducible exact Nice.c_mul _ _
      | with_reducible exact Nice.c_quo _ _
      | with_reducible exact Nice.cProduct _ _ _ _
      | with_reducible exact Nice.cCorrected _ _ _ _ _
      | with_reducible exact Nice.cQuotient _ _ _ _
      | with_reducible exact Nice.complexOp _ _ _ _ _ _
      | with_reducible exact Nice.unary _ _
      | with_reducible exact Nice.equalIn _ _ _ _
      | with_reducible exact Nice.equal _ _ _
      | with_reducible exact Nice.eqGuardIn _ _ _ _
      | with_reducible exact Nice.eqGuard _ _ _ _ _ _
      | with_reducible exact Nice.binOp _ _ _ _
      | with_reducible exact Nice.markExtern _
      | with_reducible exact Nice.typeAssert _ _ _ _
      | with_reducible exact Nice.partAt _ _ _
      | with_reducible exact Nice.fieldPlace _ _
      | with_reducible exact Nice.fieldAt _ _ _
      | with_reducible exact Nice.build _ _
      | with_reducible exact Nice.placeGet _ _
      | with_reducible exact Nice.follow _ _ _
      | with_reducible exact Nice.ssaWrapNilChk _ _ _ _
      | with_reducible exact Nice.receiverAt _ _ _ _
      | (with_reducible refine Nice.bind ?_ (fun _ => ?_))
      | (with_reducible refine Nice.ite ?_ ?_)
      | (refine Nice.map ?_)
      | split
      | dsimp only)
theorem Nice.ofHandle (v : Value) : Nice P D (Extern.Rtype.ofHandle v) := by
  unfold Extern.Rtype.ofHandle
  repeat' (first
    | with_reducible exact Nice.pure _
    | with_reducible exact Nice.pure' _
    | with_reducible exact Nice.stuck _
    | with_reducible exact Nice.goPanic _
    | (with_reducible refine Nice.unsupported ?_); trivial
    | with_reducible exact Nice.program
    | with_reducible exact Nice.choose _
    | with_reducible exact Nice.load _ _
    | with_reducible exact Nice.store _ _ _
    | with_reducible exact Nice.frozen _
    | with_reducible exact Nice.askRoom _
    | with_reducible exact Nice.noRoom
    | exact Nice.newObj (fun _ _ h => by cases h)
    | with_reducible exact Nice.typeInfo _
    | with_reducible exact Nice.underlying _
    | with_reducible exact Nice.typeStr _
    | with_reducible exact Nice.zeroValue _
    | with_reducible exact Nice.sizeOf _
    | with_reducible exact Nice.isAgg _
    | with_reducible exact Nice.loadCells _ _
    | with_reducible exact Nice.storeCells _ _ _
    | with_reducible exact Nice.loadVar _ _
    | with_reducible exact Nice.storeVar _ _ _
    | with_reducible exact Nice.newRow _ _
    | with_reducible exact Nice.newVar _ _
    | with_reducible exact Nice.elemOf _
    | with_reducible exact Nice.part _ _ _
    | with_reducible exact Nice.runtimePanic _
    | with_reducible exact Nice.boundsPanic _ _ _ _
    | with_reducible exact Nice.asIntOf _
    | with_reducible exact Nice.asInt _
    | with_reducible exact Nice.asBool _
    | with_reducible exact Nice.asAddr _
    | with_reducible exact Nice.sureAddr _
    | with_reducible exact Nice.loadAt _ _
    | with_reducible exact Nice.storeAt _ _ _
    | with_reducible exact Nice.indexAt _ _ _
    | with_reducible exact Nice.sliceBound _ _ _
    | with_reducible exact Nice.sliceBounds _ _ _ _ _ _
    | with_reducible exact Nice.slice _ _ _ _ _
    | with_reducible exact Nice.sliceAt _ _ _ _ _
    | with_reducible exact Nice.makeSlice _ _ _
    | with_reducible exact Nice.buildSlice _ _ _
    | with_reducible exact Nice.box _ _
    | with_reducible exact Nice.alloc _ _ _
    | with_reducible exact Nice.extract _ _
    | with_reducible exact Nice.makeInterface _ _
    | with_reducible exact Nice.len_ _ _ _
    | with_reducible exact Nice.cap_ _ _ _
    | with_reducible exact Nice.panic _
    | with_reducible exact Nice.firstCells _ _ _
    | with_reducible exact Nice.lenOf _
    | with_reducible exact Nice.append_ _ _ _
    | with_reducible exact Nice.noView _
    | with_reducible exact Nice.numberAt _
    | with_reducible exact Nice.asNumber _ _
    | with_reducible exact Nice.behindNumber _
    | with_reducible exact Nice.byteOf _
    | with_reducible exact Nice.sameAddr _ _
    | with_reducible exact Nice.samePointer _ _
    | with_reducible exact unsafeAdd_shape _ _ _ _
    | with_reducible exact Nice.movedNumber _ _ _
    | with_reducible exact Nice.movedPointer _ _ _
    | with_reducible exact Nice.twoPlaces _ _
    | with_reducible exact Nice.addrSub _ _ _
    | with_reducible exact Nice.addrCmp _ _ _
    | with_reducible exact Nice.addrMod _ _ _
    | with_reducible exact Nice.intArith _ _ _ _
    | with_reducible exact Nice.intDiv _ _ _ _
    | with_reducible exact Nice.intBits _ _ _ _
    | with_reducible exact Nice.intCmp _ _ _
    | with_reducible exact Nice.shift _ _ _ _ _
    | with_reducible exact Nice.floatArith _ _ _ _
    | with_reducible exact Nice.floatCmp _ _ _ _
    | with_reducible exact Nice.floatToFloat _ _ _
    | with_reducible exact Nice.stringOp _ _ _
    | with_reducible exact Nice.cArith _ _ _ _
    | with_reducible exact Nice.cCmp _ _ _ _
    | with_reducible exact Nice.cConv _ _ _
    | with_reducible exact Nice.c_add _ _
    | with_reducible exact Nice.c_sub _ _
    | with_reducible exact Nice.c_mul _ _
    | with_reducible exact Nice.c_quo _ _
    | with_reducible exact Nice.cProduct _ _ _ _
    | with_reducible exact Nice.cCorrected _ _ _ _ _
    | with_reducible exact Nice.cQuotient _ _ _ _
    | with_reducible exact Nice.complexOp _ _ _ _ _ _
    | with_reducible exact Nice.unary _ _
    | with_reducible exact Nice.equalIn _ _ _ _
    | with_reducible exact Nice.equal _ _ _
    | with_reducible exact Nice.eqGuardIn _ _ _ _
    | with_reducible exact Nice.eqGuard _ _ _ _ _ _
    | with_reducible exact Nice.binOp _ _ _ _
    | with_reducible exact Nice.markExtern _
    | with_reducible exact Nice.typeAssert _ _ _ _
    | with_reducible exact Nice.partAt _ _ _
    | with_reducible exact Nice.fieldPlace _ _
    | with_reducible exact Nice.fieldAt _ _ _
    | with_reducible exact Nice.build _ _
    | with_reducible exact Nice.placeGet _ _
    | with_reducible exact Nice.follow _ _ _
    | with_reducible exact Nice.ssaWrapNilChk _ _ _ _
    | with_reducible exact Nice.receiverAt _ _ _ _
    | with_reducible exact Nice.method _ _ _ _
    | (with_reducible refine Nice.bind ?_ (fun _ => ?_))
    | (with_reducible refine Nice.ite ?_ ?_)
    | (refine Nice.map ?_)
    | split
    | dsimp only)
theorem Nice.noPack (s : String) (t : TypeId) : Nice P D (Extern.Rtype.noPack s t) := by
  unfold Extern.Rtype.noPack
  repeat' (first
    | with_reducible exact Nice.pure _
    | with_reducible exact Nice.pure' _
    | with_reducible exact Nice.stuck _
    | with_reducible exact Nice.goPanic _
    | (with_reducible refine Nice.unsupported ?_); trivial
    | with_reducible exact Nice.program
    | with_reducible exact Nice.choose _
    | with_reducible exact Nice.load _ _
    | with_reducible exact Nice.store _ _ _
    | with_reducible exact Nice.frozen _
    | with_reducible exact Nice.askRoom _
    | with_reducible exact Nice.noRoom
    | exact Nice.newObj (fun _ _ h => by cases h)
    | with_reducible exact Nice.typeInfo _
    | with_reducible exact Nice.underlying _
    | with_reducible exact Nice.typeStr _
    | with_reducible exact Nice.zeroValue _
    | with_reducible exact Nice.sizeOf _
    | with_reducible exact Nice.isAgg _
    | with_reducible exact Nice.loadCells _ _
    | with_reducible exact Nice.storeCells _ _ _
    | with_reducible exact Nice.loadVar _ _
    | with_reducible exact Nice.storeVar _ _ _
    | with_reducible exact Nice.newRow _ _
    | with_reducible exact Nice.newVar _ _
    | with_reducible exact Nice.elemOf _
    | with_reducible exact Nice.part _ _ _
    | with_reducible exact Nice.runtimePanic _
    | with_reducible exact Nice.boundsPanic _ _ _ _
    | with_reducible exact Nice.asIntOf _
    | with_reducible exact Nice.asInt _
    | with_reducible exact Nice.asBool _
    | with_reducible exact Nice.asAddr _
    | with_reducible exact Nice.sureAddr _
    | with_reducible exact Nice.loadAt _ _
    | with_reducible exact Nice.storeAt _ _ _
    | with_reducible exact Nice.indexAt _ _ _
    | with_reducible exact Nice.sliceBound _ _ _
    | with_reducible exact Nice.sliceBounds _ _ _ _ _ _
    | with_reducible exact Nice.slice _ _ _ _ _
    | with_reducible exact Nice.sliceAt _ _ _ _ _
    | with_reducible exact Nice.makeSlice _ _ _
    | with_reducible exact Nice.buildSlice _ _ _
    | with_reducible exact Nice.box _ _
    | with_reducible exact Nice.alloc _ _ _
    | with_reducible exact Nice.extract _ _
    | with_reducible exact Nice.makeInterface _ _
    | with_reducible exact Nice.len_ _ _ _
    | with_reducible exact Nice.cap_ _ _ _
    | with_reducible exact Nice.panic _
    | with_reducible exact Nice.firstCells _ _ _
    | with_reducible exact Nice.lenOf _
    | with_reducible exact Nice.append_ _ _ _
    | with_reducible exact Nice.noView _
    | with_reducible exact Nice.numberAt _
    | with_reducible exact Nice.asNumber _ _
    | with_reducible exact Nice.behindNumber _
    | with_reducible exact Nice.byteOf _
    | with_reducible exact Nice.sameAddr _ _
    | with_reducible exact Nice.samePointer _ _
    | with_reducible exact unsafeAdd_shape _ _ _ _
    | with_reducible exact Nice.movedNumber _ _ _
    | with_reducible exact Nice.movedPointer _ _ _
    | with_reducible exact Nice.twoPlaces _ _
    | with_reducible exact Nice.addrSub _ _ _
    | with_reducible exact Nice.addrCmp _ _ _
    | with_reducible exact Nice.addrMod _ _ _
    | with_reducible exact Nice.intArith _ _ _ _
    | with_reducible exact Nice.intDiv _ _ _ _
    | with_reducible exact Nice.intBits _ _ _ _
    | with_reducible exact Nice.intCmp _ _ _
    | with_reducible exact Nice.shift _ _ _ _ _
    | with_reducible exact Nice.floatArith _ _ _ _
    | with_reducible exact Nice.floatCmp _ _ _ _
    | with_reducible exact Nice.floatToFloat _ _ _
    | with_reducible exact Nice.stringOp _ _ _
    | with_reducible exact Nice.cArith _ _ _ _
    | with_reducible exact Nice.cCmp _ _ _ _
    | with_reducible exact Nice.cConv _ _ _
    | with_reducible exact Nice.c_add _ _
    | with_reducible exact Nice.c_sub _ _
    | with_reducible exact Nice.c_mul _ _
    | with_reducible exact Nice.c_quo _ _
    | with_reducible exact Nice.cProduct _ _ _ _
    | with_reducible exact Nice.cCorrected _ _ _ _ _
    | with_reducible exact Nice.cQuotient _ _ _ _
    | with_reducible exact Nice.complexOp _ _ _ _ _ _
    | with_reducible exact Nice.unary _ _
    | with_reducible exact Nice.equalIn _ _ _ _
    | with_reducible exact Nice.equal _ _ _
    | with_reducible exact Nice.eqGuardIn _ _ _ _
    | with_reducible exact Nice.eqGuard _ _ _ _ _ _
    | with_reducible exact Nice.binOp _ _ _ _
    | with_reducible exact Nice.markExtern _
    | with_reducible exact Nice.typeAssert _ _ _ _
    | with_reducible exact Nice.partAt _ _ _
    | with_reducible exact Nice.fieldPlace _ _
    | with_reducible exact Nice.fieldAt _ _ _
    | with_reducible exact Nice.build _ _
    | with_reducible exact Nice.placeGet _ _
    | with_reducible exact Nice.follow _ _ _
    | with_reducible exact Nice.ssaWrapNilChk _ _ _ _
    | with_reducible exact Nice.receiverAt _ _ _ _
    | with_reducible exact Nice.method _ _ _ _
    | with_reducible exact Nice.ofHandle _
    | (with_reducible refine Nice.bind ?_ (fun _ => ?_))
    | (with_reducible refine Nice.ite ?_ ?_)
    | (refine Nice.map ?_)
    | split
    | dsimp only)
theorem Nice.noPackHeld (s : String) (t : TypeId) : Nice P D (Extern.Rtype.noPackHeld s t) := by
  unfold Extern.Rtype.noPackHeld
  repeat' (first
    | with_reducible exact Nice.pure _
    | with_reducible exact Nice.pure' _
    | with_reducible exact Nice.stuck _
    | with_reducible exact Nice.goPanic _
    | (with_reducible refine Nice.unsupported ?_); trivial
    | with_reducible exact Nice.program
    | with_reducible exact Nice.choose _
    | with_reducible exact Nice.load _ _
    | with_reducible exact Nice.store _ _ _
    | with_reducible exact Nice.frozen _
    | with_reducible exact Nice.askRoom _
    | with_reducible exact Nice.noRoom
    | exact Nice.newObj (fun _ _ h => by cases h)
    | with_reducible exact Nice.typeInfo _
    | with_reducible exact Nice.underlying _
    | with_reducible exact Nice.typeStr _
    | with_reducible exact Nice.zeroValue _
    | with_reducible exact Nice.sizeOf _
    | with_reducible exact Nice.isAgg _
    | with_reducible exact Nice.loadCells _ _
    | with_reducible exact Nice.storeCells _ _ _
    | with_reducible exact Nice.loadVar _ _
    | with_reducible exact Nice.storeVar _ _ _
    | with_reducible exact Nice.newRow _ _
    | with_reducible exact Nice.newVar _ _
    | with_reducible exact Nice.elemOf _
    | with_reducible exact Nice.part _ _ _
    | with_reducible exact Nice.runtimePanic _
    | with_reducible exact Nice.boundsPanic _ _ _ _
    | with_reducible exact Nice.asIntOf _
    | with_reducible exact Nice.asInt _
    | with_reducible exact Nice.asBool _
    | with_reducible exact Nice.asAddr _
    | with_reducible exact Nice.sureAddr _
    | with_reducible exact Nice.loadAt _ _
    | with_reducible exact Nice.storeAt _ _ _
    | with_reducible exact Nice.indexAt _ _ _
    | with_reducible exact Nice.sliceBound _ _ _
    | with_reducible exact Nice.sliceBounds _ _ _ _ _ _
    | with_reducible exact Nice.slice _ _ _ _ _
    | with_reducible exact Nice.sliceAt _ _ _ _ _
    | with_reducible exact Nice.makeSlice _ _ _
    | with_reducible exact Nice.buildSlice _ _ _
    | with_reducible exact Nice.box _ _
    | with_reducible exact Nice.alloc _ _ _
    | with_reducible exact Nice.extract _ _
    | with_reducible exact Nice.makeInterface _ _
    | with_reducible exact Nice.len_ _ _ _
    | with_reducible exact Nice.cap_ _ _ _
    | with_reducible exact Nice.panic _
    | with_reducible exact Nice.firstCells _ _ _
    | with_reducible exact Nice.lenOf _
    | with_reducible exact Nice.append_ _ _ _
    | with_reducible exact Nice.noView _
    | with_reducible exact Nice.numberAt _
    | with_reducible exact Nice.asNumber _ _
    | with_reducible exact Nice.behindNumber _
    | with_reducible exact Nice.byteOf _
    | with_reducible exact Nice.sameAddr _ _
    | with_reducible exact Nice.samePointer _ _
    | with_reducible exact unsafeAdd_shape _ _ _ _
    | with_reducible exact Nice.movedNumber _ _ _
    | with_reducible exact Nice.movedPointer _ _ _
    | with_reducible exact Nice.twoPlaces _ _
    | with_reducible exact Nice.addrSub _ _ _
    | with_reducible exact Nice.addrCmp _ _ _
    | with_reducible exact Nice.addrMod _ _ _
    | with_reducible exact Nice.intArith _ _ _ _
    | with_reducible exact Nice.intDiv _ _ _ _
    | with_reducible exact Nice.intBits _ _ _ _
    | with_reducible exact Nice.intCmp _ _ _
    | with_reducible exact Nice.shift _ _ _ _ _
    | with_reducible exact Nice.floatArith _ _ _ _
    | with_reducible exact Nice.floatCmp _ _ _ _
    | with_reducible exact Nice.floatToFloat _ _ _
    | with_reducible exact Nice.stringOp _ _ _
    | with_reducible exact Nice.cArith _ _ _ _
    | with_reducible exact Nice.cCmp _ _ _ _
    | with_reducible exact Nice.cConv _ _ _
    | with_reducible exact Nice.c_add _ _
    | with_reducible exact Nice.c_sub _ _
    | with_reducible exact Nice.c_mul _ _
    | with_reducible exact Nice.c_quo _ _
    | with_reducible exact Nice.cProduct _ _ _ _
    | with_reducible exact Nice.cCorrected _ _ _ _ _
    | with_reducible exact Nice.cQuotient _ _ _ _
    | with_reducible exact Nice.complexOp _ _ _ _ _ _
    | with_reducible exact Nice.unary _ _
    | with_reducible exact Nice.equalIn _ _ _ _
    | with_reducible exact Nice.equal _ _ _
    | with_reducible exact Nice.eqGuardIn _ _ _ _
    | with_reducible exact Nice.eqGuard _ _ _ _ _ _
    | with_reducible exact Nice.binOp _ _ _ _
    | with_reducible exact Nice.markExtern _
    | with_reducible exact Nice.typeAssert _ _ _ _
    | with_reducible exact Nice.partAt _ _ _
    | with_reducible exact Nice.fieldPlace _ _
    | with_reducible exact Nice.fieldAt _ _ _
    | with_reducible exact Nice.build _ _
    | with_reducible exact Nice.placeGet _ _
    | with_reducible exact Nice.follow _ _ _
    | with_reducible exact Nice.ssaWrapNilChk _ _ _ _
    | with_reducible exact Nice.receiverAt _ _ _ _
    | with_reducible exact Nice.method _ _ _ _
    | with_reducible exact Nice.ofHandle _
    | with_reducible exact Nice.noPack _ _
    | (with_reducible refine Nice.bind ?_ (fun _ => ?_))
    | (with_reducible refine Nice.ite ?_ ?_)
    | (refine Nice.map ?_)
    | split
    | dsimp only)
theorem Nice.cutType (s : String) : Nice P D (Go.cutType s) := by
  unfold Go.cutType
  repeat' (first
    | with_reducible exact Nice.pure _
    | with_reducible exact Nice.pure' _
    | with_reducible exact Nice.stuck _
    | with_reducible exact Nice.goPanic _
    | (with_reducible refine Nice.unsupported ?_); trivial
    | with_reducible exact Nice.program
    | with_reducible exact Nice.choose _
    | with_reducible exact Nice.load _ _
    | with_reducible exact Nice.store _ _ _
    | with_reducible exact Nice.frozen _
    | with_reducible exact Nice.askRoom _
    | with_reducible exact Nice.noRoom
    | exact Nice.newObj (fun _ _ h => by cases h)
    | with_reducible exact Nice.typeInfo _
    | with_reducible exact Nice.underlying _
    | with_reducible exact Nice.typeStr _
    | with_reducible exact Nice.zeroValue _
    | with_reducible exact Nice.sizeOf _
    | with_reducible exact Nice.isAgg _
    | with_reducible exact Nice.loadCells _ _
    | with_reducible exact Nice.storeCells _ _ _
    | with_reducible exact Nice.loadVar _ _
    | with_reducible exact Nice.storeVar _ _ _
    | with_reducible exact Nice.newRow _ _
    | with_reducible exact Nice.newVar _ _
    | with_reducible exact Nice.elemOf _
    | with_reducible exact Nice.part _ _ _
    | with_reducible exact Nice.runtimePanic _
    | with_reducible exact Nice.boundsPanic _ _ _ _
    | with_reducible exact Nice.asIntOf _
    | with_reducible exact Nice.asInt _
    | with_reducible exact Nice.asBool _
    | with_reducible exact Nice.asAddr _
    | with_reducible exact Nice.sureAddr _
    | with_reducible exact Nice.loadAt _ _
    | with_reducible exact Nice.storeAt _ _ _
    | with_reducible exact Nice.indexAt _ _ _
    | with_reducible exact Nice.sliceBound _ _ _
    | with_reducible exact Nice.sliceBounds _ _ _ _ _ _
    | with_reducible exact Nice.slice _ _ _ _ _
    | with_reducible exact Nice.sliceAt _ _ _ _ _
    | with_reducible exact Nice.makeSlice _ _ _
    | with_reducible exact Nice.buildSlice _ _ _
    | with_reducible exact Nice.box _ _
    | with_reducible exact Nice.alloc _ _ _
    | with_reducible exact Nice.extract _ _
    | with_reducible exact Nice.makeInterface _ _
    | with_reducible exact Nice.len_ _ _ _
    | with_reducible exact Nice.cap_ _ _ _
    | with_reducible exact Nice.panic _
    | with_reducible exact Nice.firstCells _ _ _
    | with_reducible exact Nice.lenOf _
    | with_reducible exact Nice.append_ _ _ _
    | with_reducible exact Nice.noView _
    | with_reducible exact Nice.numberAt _
    | with_reducible exact Nice.asNumber _ _
    | with_reducible exact Nice.behindNumber _
    | with_reducible exact Nice.byteOf _
    | with_reducible exact Nice.sameAddr _ _
    | with_reducible exact Nice.samePointer _ _
    | with_reducible exact unsafeAdd_shape _ _ _ _
    | with_reducible exact Nice.movedNumber _ _ _
    | with_reducible exact Nice.movedPointer _ _ _
    | with_reducible exact Nice.twoPlaces _ _
    | with_reducible exact Nice.addrSub _ _ _
    | with_reducible exact Nice.addrCmp _ _ _
    | with_reducible exact Nice.addrMod _ _ _
    | with_reducible exact Nice.intArith _ _ _ _
    | with_reducible exact Nice.intDiv _ _ _ _
    | with_reducible exact Nice.intBits _ _ _ _
    | with_reducible exact Nice.intCmp _ _ _
    | with_reducible exact Nice.shift _ _ _ _ _
    | with_reducible exact Nice.floatArith _ _ _ _
    | with_reducible exact Nice.floatCmp _ _ _ _
    | with_reducible exact Nice.floatToFloat _ _ _
    | with_reducible exact Nice.stringOp _ _ _
    | with_reducible exact Nice.cArith _ _ _ _
    | with_reducible exact Nice.cCmp _ _ _ _
    | with_reducible exact Nice.cConv _ _ _
    | with_reducible exact Nice.c_add _ _
    | with_reducible exact Nice.c_sub _ _
    | with_reducible exact Nice.c_mul _ _
    | with_reducible exact Nice.c_quo _ _
    | with_reducible exact Nice.cProduct _ _ _ _
    | with_reducible exact Nice.cCorrected _ _ _ _ _
    | with_reducible exact Nice.cQuotient _ _ _ _
    | with_reducible exact Nice.complexOp _ _ _ _ _ _
    | with_reducible exact Nice.unary _ _
    | with_reducible exact Nice.equalIn _ _ _ _
    | with_reducible exact Nice.equal _ _ _
    | with_reducible exact Nice.eqGuardIn _ _ _ _
    | with_reducible exact Nice.eqGuard _ _ _ _ _ _
    | with_reducible exact Nice.binOp _ _ _ _
    | with_reducible exact Nice.markExtern _
    | with_reducible exact Nice.typeAssert _ _ _ _
    | with_reducible exact Nice.partAt _ _ _
    | with_reducible exact Nice.fieldPlace _ _
    | with_reducible exact Nice.fieldAt _ _ _
    | with_reducible exact Nice.build _ _
    | with_reducible exact Nice.placeGet _ _
    | with_reducible exact Nice.follow _ _ _
    | with_reducible exact Nice.ssaWrapNilChk _ _ _ _
    | with_reducible exact Nice.receiverAt _ _ _ _
    | with_reducible exact Nice.method _ _ _ _
    | with_reducible exact Nice.ofHandle _
    | with_reducible exact Nice.noPack _ _
    | with_reducible exact Nice.noPackHeld _ _
    | (with_reducible refine Nice.bind ?_ (fun _ => ?_))
    | (with_reducible refine Nice.ite ?_ ?_)
    | (refine Nice.map ?_)
    | split
    | dsimp only)
theorem Nice.handle (t : TypeId) : Nice P D (Extern.Rtype.handle t) := by
  unfold Extern.Rtype.handle
  repeat' (first
    | with_reducible exact Nice.pure _
    | with_reducible exact Nice.pure' _
    | with_reducible exact Nice.stuck _
    | with_reducible exact Nice.goPanic _
    | (with_reducible refine Nice.unsupported ?_); trivial
    | with_reducible exact Nice.program
    | with_reducible exact Nice.choose _
    | with_reducible exact Nice.load _ _
    | with_reducible exact Nice.store _ _ _
    | with_reducible exact Nice.frozen _
    | with_reducible exact Nice.askRoom _
    | with_reducible exact Nice.noRoom
    | exact Nice.newObj (fun _ _ h => by cases h)
    | with_reducible exact Nice.typeInfo _
    | with_reducible exact Nice.underlying _
    | with_reducible exact Nice.typeStr _
    | with_reducible exact Nice.zeroValue _
    | with_reducible exact Nice.sizeOf _
    | with_reducible exact Nice.isAgg _
    | with_reducible exact Nice.loadCells _ _
    | with_reducible exact Nice.storeCells _ _ _
    | with_reducible exact Nice.loadVar _ _
    | with_reducible exact Nice.storeVar _ _ _
    | with_reducible exact Nice.newRow _ _
    | with_reducible exact Nice.newVar _ _
    | with_reducible exact Nice.elemOf _
    | with_reducible exact Nice.part _ _ _
    | with_reducible exact Nice.runtimePanic _
    | with_reducible exact Nice.boundsPanic _ _ _ _
    | with_reducible exact Nice.asIntOf _
    | with_reducible exact Nice.asInt _
    | with_reducible exact Nice.asBool _
    | with_reducible exact Nice.asAddr _
    | with_reducible exact Nice.sureAddr _
    | with_reducible exact Nice.loadAt _ _
    | with_reducible exact Nice.storeAt _ _ _
    | with_reducible exact Nice.indexAt _ _ _
    | with_reducible exact Nice.sliceBound _ _ _
    | with_reducible exact Nice.sliceBounds _ _ _ _ _ _
    | with_reducible exact Nice.slice _ _ _ _ _
    | with_reducible exact Nice.sliceAt _ _ _ _ _
    | with_reducible exact Nice.makeSlice _ _ _
    | with_reducible exact Nice.buildSlice _ _ _
    | with_reducible exact Nice.box _ _
    | with_reducible exact Nice.alloc _ _ _
    | with_reducible exact Nice.extract _ _
    | with_reducible exact Nice.makeInterface _ _
    | with_reducible exact Nice.len_ _ _ _
    | with_reducible exact Nice.cap_ _ _ _
    | with_reducible exact Nice.panic _
    | with_reducible exact Nice.firstCells _ _ _
    | with_reducible exact Nice.lenOf _
    | with_reducible exact Nice.append_ _ _ _
    | with_reducible exact Nice.noView _
    | with_reducible exact Nice.numberAt _
    | with_reducible exact Nice.asNumber _ _
    | with_reducible exact Nice.behindNumber _
    | with_reducible exact Nice.byteOf _
    | with_reducible exact Nice.sameAddr _ _
    | with_reducible exact Nice.samePointer _ _
    | with_reducible exact unsafeAdd_shape _ _ _ _
    | with_reducible exact Nice.movedNumber _ _ _
    | with_reducible exact Nice.movedPointer _ _ _
    | with_reducible exact Nice.twoPlaces _ _
    | with_reducible exact Nice.addrSub _ _ _
    | with_reducible exact Nice.addrCmp _ _ _
    | with_reducible exact Nice.addrMod _ _ _
    | with_reducible exact Nice.intArith _ _ _ _
    | with_reducible exact Nice.intDiv _ _ _ _
    | with_reducible exact Nice.intBits _ _ _ _
    | with_reducible exact Nice.intCmp _ _ _
    | with_reducible exact Nice.shift _ _ _ _ _
    | with_reducible exact Nice.floatArith _ _ _ _
    | with_reducible exact Nice.floatCmp _ _ _ _
    | with_reducible exact Nice.floatToFloat _ _ _
    | with_reducible exact Nice.stringOp _ _ _
    | with_reducible exact Nice.cArith _ _ _ _
    | with_reducible exact Nice.cCmp _ _ _ _
    | with_reducible exact Nice.cConv _ _ _
    | with_reducible exact Nice.c_add _ _
    | with_reducible exact Nice.c_sub _ _
    | with_reducible exact Nice.c_mul _ _
    | with_reducible exact Nice.c_quo _ _
    | with_reducible exact Nice.cProduct _ _ _ _
    | with_reducible exact Nice.cCorrected _ _ _ _ _
    | with_reducible exact Nice.cQuotient _ _ _ _
    | with_reducible exact Nice.complexOp _ _ _ _ _ _
    | with_reducible exact Nice.unary _ _
    | with_reducible exact Nice.equalIn _ _ _ _
    | with_reducible exact Nice.equal _ _ _
    | with_reducible exact Nice.eqGuardIn _ _ _ _
    | with_reducible exact Nice.eqGuard _ _ _ _ _ _
    | with_reducible exact Nice.binOp _ _ _ _
    | with_reducible exact Nice.markExtern _
    | with_reducible exact Nice.typeAssert _ _ _ _
    | with_reducible exact Nice.partAt _ _ _
    | with_reducible exact Nice.fieldPlace _ _
    | with_reducible exact Nice.fieldAt _ _ _
    | with_reducible exact Nice.build _ _
    | with_reducible exact Nice.placeGet _ _
    | with_reducible exact Nice.follow _ _ _
    | with_reducible exact Nice.ssaWrapNilChk _ _ _ _
    | with_reducible exact Nice.receiverAt _ _ _ _
    | with_reducible exact Nice.method _ _ _ _
    | with_reducible exact Nice.ofHandle _
    | with_reducible exact Nice.noPack _ _
    | with_reducible exact Nice.noPackHeld _ _
    | with_reducible exact Nice.cutType _
    | (with_reducible refine Nice.bind ?_ (fun _ => ?_))
    | (with_reducible refine Nice.ite ?_ ?_)
    | (refine Nice.map ?_)
    | split
    | dsimp only)
theorem Nice.toTypeL (t : TypeId) : Nice P D (Extern.ReflectliteType.toType t) := by
  unfold Extern.ReflectliteType.toType
  repeat' (first
    | with_reducible exact Nice.pure _
    | with_reducible exact Nice.pure' _
    | with_reducible exact Nice.stuck _
    | with_reducible exact Nice.goPanic _
    | (with_reducible refine Nice.unsupported ?_); trivial
    | with_reducible exact Nice.program
    | with_reducible exact Nice.choose _
    | with_reducible exact Nice.load _ _
    | with_reducible exact Nice.store _ _ _
    | with_reducible exact Nice.frozen _
    | with_reducible exact Nice.askRoom _
    | with_reducible exact Nice.noRoom
    | exact Nice.newObj (fun _ _ h => by cases h)
    | with_reducible exact Nice.typeInfo _
    | with_reducible exact Nice.underlying _
    | with_reducible exact Nice.typeStr _
    | with_reducible exact Nice.zeroValue _
    | with_reducible exact Nice.sizeOf _
    | with_reducible exact Nice.isAgg _
    | with_reducible exact Nice.loadCells _ _
    | with_reducible exact Nice.storeCells _ _ _
    | with_reducible exact Nice.loadVar _ _
    | with_reducible exact Nice.storeVar _ _ _
    | with_reducible exact Nice.newRow _ _
    | with_reducible exact Nice.newVar _ _
    | with_reducible exact Nice.elemOf _
    | with_reducible exact Nice.part _ _ _
    | with_reducible exact Nice.runtimePanic _
    | with_reducible exact Nice.boundsPanic _ _ _ _
    | with_reducible exact Nice.asIntOf _
    | with_reducible exact Nice.asInt _
    | with_reducible exact Nice.asBool _
    | with_reducible exact Nice.asAddr _
    | with_reducible exact Nice.sureAddr _
    | with_reducible exact Nice.loadAt _ _
    | with_reducible exact Nice.storeAt _ _ _
    | with_reducible exact Nice.indexAt _ _ _
    | with_reducible exact Nice.sliceBound _ _ _
    | with_reducible exact Nice.sliceBounds _ _ _ _ _ _
    | with_reducible exact Nice.slice _ _ _ _ _
    | with_reducible exact Nice.sliceAt _ _ _ _ _
    | with_reducible exact Nice.makeSlice _ _ _
    | with_reducible exact Nice.buildSlice _ _ _
    | with_reducible exact Nice.box _ _
    | with_reducible exact Nice.alloc _ _ _
    | with_reducible exact Nice.extract _ _
    | with_reducible exact Nice.makeInterface _ _
    | with_reducible exact Nice.len_ _ _ _
    | with_reducible exact Nice.cap_ _ _ _
    | with_reducible exact Nice.panic _
    | with_reducible exact Nice.firstCells _ _ _
    | with_reducible exact Nice.lenOf _
    | with_reducible exact Nice.append_ _ _ _
    | with_reducible exact Nice.noView _
    | with_reducible exact Nice.numberAt _
    | with_reducible exact Nice.asNumber _ _
    | with_reducible exact Nice.behindNumber _
    | with_reducible exact Nice.byteOf _
    | with_reducible exact Nice.sameAddr _ _
    | with_reducible exact Nice.samePointer _ _
    | with_reducible exact unsafeAdd_shape _ _ _ _
    | with_reducible exact Nice.movedNumber _ _ _
    | with_reducible exact Nice.movedPointer _ _ _
    | with_reducible exact Nice.twoPlaces _ _
    | with_reducible exact Nice.addrSub _ _ _
    | with_reducible exact Nice.addrCmp _ _ _
    | with_reducible exact Nice.addrMod _ _ _
    | with_reducible exact Nice.intArith _ _ _ _
    | with_reducible exact Nice.intDiv _ _ _ _
    | with_reducible exact Nice.intBits _ _ _ _
    | with_reducible exact Nice.intCmp _ _ _
    | with_reducible exact Nice.shift _ _ _ _ _
    | with_reducible exact Nice.floatArith _ _ _ _
    | with_reducible exact Nice.floatCmp _ _ _ _
    | with_reducible exact Nice.floatToFloat _ _ _
    | with_reducible exact Nice.stringOp _ _ _
    | with_reducible exact Nice.cArith _ _ _ _
    | with_reducible exact Nice.cCmp _ _ _ _
    | with_reducible exact Nice.cConv _ _ _
    | with_reducible exact Nice.c_add _ _
    | with_reducible exact Nice.c_sub _ _
    | with_reducible exact Nice.c_mul _ _
    | with_reducible exact Nice.c_quo _ _
    | with_reducible exact Nice.cProduct _ _ _ _
    | with_reducible exact Nice.cCorrected _ _ _ _ _
    | with_reducible exact Nice.cQuotient _ _ _ _
    | with_reducible exact Nice.complexOp _ _ _ _ _ _
    | with_reducible exact Nice.unary _ _
    | with_reducible exact Nice.equalIn _ _ _ _
    | with_reducible exact Nice.equal _ _ _
    | with_reducible exact Nice.eqGuardIn _ _ _ _
    | with_reducible exact Nice.eqGuard _ _ _ _ _ _
    | with_reducible exact Nice.binOp _ _ _ _
    | with_reducible exact Nice.markExtern _
    | with_reducible exact Nice.typeAssert _ _ _ _
    | with_reducible exact Nice.partAt _ _ _
    | with_reducible exact Nice.fieldPlace _ _
    | with_reducible exact Nice.fieldAt _ _ _
    | with_reducible exact Nice.build _ _
    | with_reducible exact Nice.placeGet _ _
    | with_reducible exact Nice.follow _ _ _
    | with_reducible exact Nice.ssaWrapNilChk _ _ _ _
    | with_reducible exact Nice.receiverAt _ _ _ _
    | with_reducible exact Nice.method _ _ _ _
    | with_reducible exact Nice.ofHandle _
    | with_reducible exact Nice.noPack _ _
    | with_reducible exact Nice.noPackHeld _ _
    | with_reducible exact Nice.cutType _
    | with_reducible exact Nice.handle _
    | (with_reducible refine Nice.bind ?_ (fun _ => ?_))
    | (with_reducible refine Nice.ite ?_ ?_)
    | (refine Nice.map ?_)
    | split
    | dsimp only)
theorem Nice.ofRtype (v : Value) : Nice P D (Extern.ReflectliteType.ofRtype v) := by
  cases v with
  | agg cs =>
    obtain ⟨l⟩ := cs
    rcases l with _ | ⟨x, _ | ⟨y, l⟩⟩
    · exact Nice.stuck _
    · exact (Nice.ofHandle _).bind fun t => (Nice.noPack _ _).bind fun _ => .pure _
    · exact Nice.stuck _
  | _ => exact Nice.stuck _
theorem Nice.typeOfL (a : Array Value) : Nice P D (Extern.ReflectliteType.typeOf a) := by
  obtain ⟨l⟩ := a
  rcases l with _ | ⟨x, _ | ⟨y, l⟩⟩
  · exact Nice.stuck _
  · cases x <;> first | exact Nice.pure _ | exact Nice.toTypeL _ | exact Nice.stuck _
  · exact Nice.stuck _
def cmpL : Array Value → Sem Value := Extern.ReflectliteType.method fun t => do Extern.Rtype.noPackHeld "Comparable" t; pure (.bool (← typeInfo t).comparable)
theorem Nice.comparableL (a : Array Value) : Nice P D (cmpL a) := by
  obtain ⟨l⟩ := a
  rcases l with _ | ⟨x, _ | ⟨y, l⟩⟩
  · exact Nice.stuck _
  · exact (Nice.ofRtype _).bind fun t => (Nice.noPackHeld _ _).bind fun _ => (Nice.typeInfo _).bind fun _ => .pure _
  · exact Nice.stuck _
theorem Nice.floatToInt (a : FloatKind) (n : Nat) (b : IntKind) : Nice P D (Conv.floatToInt a n b) := by
  unfold Conv.floatToInt
  repeat' (first
    | with_reducible exact Nice.pure _
    | with_reducible exact Nice.pure' _
    | with_reducible exact Nice.stuck _
    | with_reducible exact Nice.goPanic _
    | (with_reducible refine Nice.unsupported ?_); trivial
    | with_reducible exact Nice.program
    | with_reducible exact Nice.choose _
    | with_reducible exact Nice.load _ _
    | with_reducible exact Nice.store _ _ _
    | with_reducible exact Nice.frozen _
    | with_reducible exact Nice.askRoom _
    | with_reducible exact Nice.noRoom
    | exact Nice.newObj (fun _ _ h => by cases h)
    | with_reducible exact Nice.typeInfo _
    | with_reducible exact Nice.underlying _
    | with_reducible exact Nice.typeStr _
    | with_reducible exact Nice.zeroValue _
    | with_reducible exact Nice.sizeOf _
    | with_reducible exact Nice.isAgg _
    | with_reducible exact Nice.loadCells _ _
    | with_reducible exact Nice.storeCells _ _ _
    | with_reducible exact Nice.loadVar _ _
    | with_reducible exact Nice.storeVar _ _ _
    | with_reducible exact Nice.newRow _ _
    | with_reducible exact Nice.newVar _ _
    | with_reducible exact Nice.elemOf _
    | with_reducible exact Nice.part _ _ _
    | with_reducible exact Nice.runtimePanic _
    | with_reducible exact Nice.boundsPanic _ _ _ _
    | with_reducible exact Nice.asIntOf _
    | with_reducible exact Nice.asInt _
    | with_reducible exact Nice.asBool _
    | with_reducible exact Nice.asAddr _
    | with_reducible exact Nice.sureAddr _
    | with_reducible exact Nice.loadAt _ _
    | with_reducible exact Nice.storeAt _ _ _
    | with_reducible exact Nice.indexAt _ _ _
    | with_reducible exact Nice.sliceBound _ _ _
    | with_reducible exact Nice.sliceBounds _ _ _ _ _ _
    | with_reducible exact Nice.slice _ _ _ _ _
    | with_reducible exact Nice.sliceAt _ _ _ _ _
    | with_reducible exact Nice.makeSlice _ _ _
    | with_reducible exact Nice.buildSlice _ _ _
    | with_reducible exact Nice.box _ _
    | with_reducible exact Nice.alloc _ _ _
    | with_reducible exact Nice.extract _ _
    | with_reducible exact Nice.makeInterface _ _
    | with_reducible exact Nice.len_ _ _ _
    | with_reducible exact Nice.cap_ _ _ _
    | with_reducible exact Nice.panic _
    | with_reducible exact Nice.firstCells _ _ _
    | with_reducible exact Nice.lenOf _
    | with_reducible exact Nice.append_ _ _ _
    | with_reducible exact Nice.noView _
    | with_reducible exact Nice.numberAt _
    | with_reducible exact Nice.asNumber _ _
    | with_reducible exact Nice.behindNumber _
    | with_reducible exact Nice.byteOf _
    | with_reducible exact Nice.sameAddr _ _
    | with_reducible exact Nice.samePointer _ _
    | with_reducible exact unsafeAdd_shape _ _ _ _
    | with_reducible exact Nice.movedNumber _ _ _
    | with_reducible exact Nice.movedPointer _ _ _
    | with_reducible exact Nice.twoPlaces _ _
    | with_reducible exact Nice.addrSub _ _ _
    | with_reducible exact Nice.addrCmp _ _ _
    | with_reducible exact Nice.addrMod _ _ _
    | with_reducible exact Nice.intArith _ _ _ _
    | with_reducible exact Nice.intDiv _ _ _ _
    | with_reducible exact Nice.intBits _ _ _ _
    | with_reducible exact Nice.intCmp _ _ _
    | with_reducible exact Nice.shift _ _ _ _ _
    | with_reducible exact Nice.floatArith _ _ _ _
    | with_reducible exact Nice.floatCmp _ _ _ _
    | with_reducible exact Nice.floatToFloat _ _ _
    | with_reducible exact Nice.stringOp _ _ _
    | with_reducible exact Nice.cArith _ _ _ _
    | with_reducible exact Nice.cCmp _ _ _ _
    | with_reducible exact Nice.cConv _ _ _
    | with_reducible exact Nice.c_add _ _
    | with_reducible exact Nice.c_sub _ _
    | with_reducible exact Nice.c_mul _ _
    | with_reducible exact Nice.c_quo _ _
    | with_reducible exact Nice.cProduct _ _ _ _
    | with_reducible exact Nice.cCorrected _ _ _ _ _
    | with_reducible exact Nice.cQuotient _ _ _ _
    | with_reducible exact Nice.complexOp _ _ _ _ _ _
    | with_reducible exact Nice.unary _ _
    | with_reducible exact Nice.equalIn _ _ _ _
    | with_reducible exact Nice.equal _ _ _
    | with_reducible exact Nice.eqGuardIn _ _ _ _
    | with_reducible exact Nice.eqGuard _ _ _ _ _ _
    | with_reducible exact Nice.binOp _ _ _ _
    | with_reducible exact Nice.markExtern _
    | with_reducible exact Nice.typeAssert _ _ _ _
    | with_reducible exact Nice.partAt _ _ _
    | with_reducible exact Nice.fieldPlace _ _
    | with_reducible exact Nice.fieldAt _ _ _
    | with_reducible exact Nice.build _ _
    | with_reducible exact Nice.placeGet _ _
    | with_reducible exact Nice.follow _ _ _
    | with_reducible exact Nice.ssaWrapNilChk _ _ _ _
    | with_reducible exact Nice.receiverAt _ _ _ _
    | with_reducible exact Nice.method _ _ _ _
    | with_reducible exact Nice.ofHandle _
    | with_reducible exact Nice.noPack _ _
    | with_reducible exact Nice.noPackHeld _ _
    | with_reducible exact Nice.cutType _
    | with_reducible exact Nice.handle _
    | with_reducible exact Nice.toTypeL _
    | (with_reducible refine Nice.bind ?_ (fun _ => ?_))
    | (with_reducible refine Nice.ite ?_ ?_)
    | (refine Nice.map ?_)
    | split
    | dsimp only)
theorem Nice.intToInt (a : IntKind) (n : Int) : Nice P D (Conv.intToInt a n) := by
  unfold Conv.intToInt
  repeat' (first
    | with_reducible exact Nice.pure _
    | with_reducible exact Nice.pure' _
    | with_reducible exact Nice.stuck _
    | with_reducible exact Nice.goPanic _
    | (with_reducible refine Nice.unsupported ?_); trivial
    | with_reducible exact Nice.program
    | with_reducible exact Nice.choose _
    | with_reducible exact Nice.load _ _
    | with_reducible exact Nice.store _ _ _
    | with_reducible exact Nice.frozen _
    | with_reducible exact Nice.askRoom _
    | with_reducible exact Nice.noRoom
    | exact Nice.newObj (fun _ _ h => by cases h)
    | with_reducible exact Nice.typeInfo _
    | with_reducible exact Nice.underlying _
    | with_reducible exact Nice.typeStr _
    | with_reducible exact Nice.zeroValue _
    | with_reducible exact Nice.sizeOf _
    | with_reducible exact Nice.isAgg _
    | with_reducible exact Nice.loadCells _ _
    | with_reducible exact Nice.storeCells _ _ _
    | with_reducible exact Nice.loadVar _ _
    | with_reducible exact Nice.storeVar _ _ _
    | with_reducible exact Nice.newRow _ _
    | with_reducible exact Nice.newVar _ _
    | with_reducible exact Nice.elemOf _
    | with_reducible exact Nice.part _ _ _
    | with_reducible exact Nice.runtimePanic _
    | with_reducible exact Nice.boundsPanic _ _ _ _
    | with_reducible exact Nice.asIntOf _
    | with_reducible exact Nice.asInt _
    | with_reducible exact Nice.asBool _
    | with_reducible exact Nice.asAddr _
    | with_reducible exact Nice.sureAddr _
    | with_reducible exact Nice.loadAt _ _
    | with_reducible exact Nice.storeAt _ _ _
    | with_reducible exact Nice.indexAt _ _ _
    | with_reducible exact Nice.sliceBound _ _ _
    | with_reducible exact Nice.sliceBounds _ _ _ _ _ _
    | with_reducible exact Nice.slice _ _ _ _ _
    | with_reducible exact Nice.sliceAt _ _ _ _ _
    | with_reducible exact Nice.makeSlice _ _ _
    | with_reducible exact Nice.buildSlice _ _ _
    | with_reducible exact Nice.box _ _
    | with_reducible exact Nice.alloc _ _ _
    | with_reducible exact Nice.extract _ _
    | with_reducible exact Nice.makeInterface _ _
    | with_reducible exact Nice.len_ _ _ _
    | with_reducible exact Nice.cap_ _ _ _
    | with_reducible exact Nice.panic _
    | with_reducible exact Nice.firstCells _ _ _
    | with_reducible exact Nice.lenOf _
    | with_reducible exact Nice.append_ _ _ _
    | with_reducible exact Nice.noView _
    | with_reducible exact Nice.numberAt _
    | with_reducible exact Nice.asNumber _ _
    | with_reducible exact Nice.behindNumber _
    | with_reducible exact Nice.byteOf _
    | with_reducible exact Nice.sameAddr _ _
    | with_reducible exact Nice.samePointer _ _
    | with_reducible exact unsafeAdd_shape _ _ _ _
    | with_reducible exact Nice.movedNumber _ _ _
    | with_reducible exact Nice.movedPointer _ _ _
    | with_reducible exact Nice.twoPlaces _ _
    | with_reducible exact Nice.addrSub _ _ _
    | with_reducible exact Nice.addrCmp _ _ _
    | with_reducible exact Nice.addrMod _ _ _
    | with_reducible exact Nice.intArith _ _ _ _
    | with_reducible exact Nice.intDiv _ _ _ _
    | with_reducible exact Nice.intBits _ _ _ _
    | with_reducible exact Nice.intCmp _ _ _
    | with_reducible exact Nice.shift _ _ _ _ _
    | with_reducible exact Nice.floatArith _ _ _ _
    | with_reducible exact Nice.floatCmp _ _ _ _
    | with_reducible exact Nice.floatToFloat _ _ _
    | with_reducible exact Nice.stringOp _ _ _
    | with_reducible exact Nice.cArith _ _ _ _
    | with_reducible exact Nice.cCmp _ _ _ _
    | with_reducible exact Nice.cConv _ _ _
    | with_reducible exact Nice.c_add _ _
    | with_reducible exact Nice.c_sub _ _
    | with_reducible exact Nice.c_mul _ _
    | with_reducible exact Nice.c_quo _ _
    | with_reducible exact Nice.cProduct _ _ _ _
    | with_reducible exact Nice.cCorrected _ _ _ _ _
    | with_reducible exact Nice.cQuotient _ _ _ _
    | with_reducible exact Nice.complexOp _ _ _ _ _ _
    | with_reducible exact Nice.unary _ _
    | with_reducible exact Nice.equalIn _ _ _ _
    | with_reducible exact Nice.equal _ _ _
    | with_reducible exact Nice.eqGuardIn _ _ _ _
    | with_reducible exact Nice.eqGuard _ _ _ _ _ _
    | with_reducible exact Nice.binOp _ _ _ _
    | with_reducible exact Nice.markExtern _
    | with_reducible exact Nice.typeAssert _ _ _ _
    | with_reducible exact Nice.partAt _ _ _
    | with_reducible exact Nice.fieldPlace _ _
    | with_reducible exact Nice.fieldAt _ _ _
    | with_reducible exact Nice.build _ _
    | with_reducible exact Nice.placeGet _ _
    | with_reducible exact Nice.follow _ _ _
    | with_reducible exact Nice.ssaWrapNilChk _ _ _ _
    | with_reducible exact Nice.receiverAt _ _ _ _
    | with_reducible exact Nice.method _ _ _ _
    | with_reducible exact Nice.ofHandle _
    | with_reducible exact Nice.noPack _ _
    | with_reducible exact Nice.noPackHeld _ _
    | with_reducible exact Nice.cutType _
    | with_reducible exact Nice.handle _
    | with_reducible exact Nice.toTypeL _
    | with_reducible exact Nice.floatToInt _ _ _
    | (with_reducible refine Nice.bind ?_ (fun _ => ?_))
    | (with_reducible refine Nice.ite ?_ ?_)
    | (refine Nice.map ?_)
    | split
    | dsimp only)
def cvt (k : IntKind) : Value → Sem Value
  | .int _ n => Conv.intToInt k n
  | .float s b => Conv.floatToInt s b k
  | .pointer (some _) => Go.unsupported .addressObserved
  | _ => Go.unsupported (.noEntry "convert/other")
theorem Nice.cvt (k : IntKind) (x : Value) : Nice P D (cvt k x) := by
  unfold Go.Proofs.YtafhpbghogdipaaDoor.cvt
  repeat' (first
    | with_reducible exact Nice.pure _
    | with_reducible exact Nice.pure' _
    | with_reducible exact Nice.stuck _
    | with_reducible exact Nice.goPanic _
    | (with_reducible refine Nice.unsupported ?_); trivial
    | with_reducible exact Nice.program
    | with_reducible exact Nice.choose _
    | with_reducible exact Nice.load _ _
    | with_reducible exact Nice.store _ _ _
    | with_reducible exact Nice.frozen _
    | with_reducible exact Nice.askRoom _
    | with_reducible exact Nice.noRoom
    | exact Nice.newObj (fun _ _ h => by cases h)
    | with_reducible exact Nice.typeInfo _
    | with_reducible exact Nice.underlying _
    | with_reducible exact Nice.typeStr _
    | with_reducible exact Nice.zeroValue _
    | with_reducible exact Nice.sizeOf _
    | with_reducible exact Nice.isAgg _
    | with_reducible exact Nice.loadCells _ _
    | with_reducible exact Nice.storeCells _ _ _
    | with_reducible exact Nice.loadVar _ _
    | with_reducible exact Nice.storeVar _ _ _
    | with_reducible exact Nice.newRow _ _
    | with_reducible exact Nice.newVar _ _
    | with_reducible exact Nice.elemOf _
    | with_reducible exact Nice.part _ _ _
    | with_reducible exact Nice.runtimePanic _
    | with_reducible exact Nice.boundsPanic _ _ _ _
    | with_reducible exact Nice.asIntOf _
    | with_reducible exact Nice.asInt _
    | with_reducible exact Nice.asBool _
    | with_reducible exact Nice.asAddr _
    | with_reducible exact Nice.sureAddr _
    | with_reducible exact Nice.loadAt _ _
    | with_reducible exact Nice.storeAt _ _ _
    | with_reducible exact Nice.indexAt _ _ _
    | with_reducible exact Nice.sliceBound _ _ _
    | with_reducible exact Nice.sliceBounds _ _ _ _ _ _
    | with_reducible exact Nice.slice _ _ _ _ _
    | with_reducible exact Nice.sliceAt _ _ _ _ _
    | with_reducible exact Nice.makeSlice _ _ _
    | with_reducible exact Nice.buildSlice _ _ _
    | with_reducible exact Nice.box _ _
    | with_reducible exact Nice.alloc _ _ _
    | with_reducible exact Nice.extract _ _
    | with_reducible exact Nice.makeInterface _ _
    | with_reducible exact Nice.len_ _ _ _
    | with_reducible exact Nice.cap_ _ _ _
    | with_reducible exact Nice.panic _
    | with_reducible exact Nice.firstCells _ _ _
    | with_reducible exact Nice.lenOf _
    | with_reducible exact Nice.append_ _ _ _
    | with_reducible exact Nice.noView _
    | with_reducible exact Nice.numberAt _
    | with_reducible exact Nice.asNumber _ _
    | with_reducible exact Nice.behindNumber _
    | with_reducible exact Nice.byteOf _
    | with_reducible exact Nice.sameAddr _ _
    | with_reducible exact Nice.samePointer _ _
    | with_reducible exact unsafeAdd_shape _ _ _ _
    | with_reducible exact Nice.movedNumber _ _ _
    | with_reducible exact Nice.movedPointer _ _ _
    | with_reducible exact Nice.twoPlaces _ _
    | with_reducible exact Nice.addrSub _ _ _
    | with_reducible exact Nice.addrCmp _ _ _
    | with_reducible exact Nice.addrMod _ _ _
    | with_reducible exact Nice.intArith _ _ _ _
    | with_reducible exact Nice.intDiv _ _ _ _
    | with_reducible exact Nice.intBits _ _ _ _
    | with_reducible exact Nice.intCmp _ _ _
    | with_reducible exact Nice.shift _ _ _ _ _
    | with_reducible exact Nice.floatArith _ _ _ _
    | with_reducible exact Nice.floatCmp _ _ _ _
    | with_reducible exact Nice.floatToFloat _ _ _
    | with_reducible exact Nice.stringOp _ _ _
    | with_reducible exact Nice.cArith _ _ _ _
    | with_reducible exact Nice.cCmp _ _ _ _
    | with_reducible exact Nice.cConv _ _ _
    | with_reducible exact Nice.c_add _ _
    | with_reducible exact Nice.c_sub _ _
    | with_reducible exact Nice.c_mul _ _
    | with_reducible exact Nice.c_quo _ _
    | with_reducible exact Nice.cProduct _ _ _ _
    | with_reducible exact Nice.cCorrected _ _ _ _ _
    | with_reducible exact Nice.cQuotient _ _ _ _
    | with_reducible exact Nice.complexOp _ _ _ _ _ _
    | with_reducible exact Nice.unary _ _
    | with_reducible exact Nice.equalIn _ _ _ _
    | with_reducible exact Nice.equal _ _ _
    | with_reducible exact Nice.eqGuardIn _ _ _ _
    | with_reducible exact Nice.eqGuard _ _ _ _ _ _
    | with_reducible exact Nice.binOp _ _ _ _
    | with_reducible exact Nice.markExtern _
    | with_reducible exact Nice.typeAssert _ _ _ _
    | with_reducible exact Nice.partAt _ _ _
    | with_reducible exact Nice.fieldPlace _ _
    | with_reducible exact Nice.fieldAt _ _ _
    | with_reducible exact Nice.build _ _
    | with_reducible exact Nice.placeGet _ _
    | with_reducible exact Nice.follow _ _ _
    | with_reducible exact Nice.ssaWrapNilChk _ _ _ _
    | with_reducible exact Nice.receiverAt _ _ _ _
    | with_reducible exact Nice.method _ _ _ _
    | with_reducible exact Nice.ofHandle _
    | with_reducible exact Nice.noPack _ _
    | with_reducible exact Nice.noPackHeld _ _
    | with_reducible exact Nice.cutType _
    | with_reducible exact Nice.handle _
    | with_reducible exact Nice.toTypeL _
    | with_reducible exact Nice.floatToInt _ _ _
    | with_reducible exact Nice.intToInt _ _
    | (with_reducible refine Nice.bind ?_ (fun _ => ?_))
    | (with_reducible refine Nice.ite ?_ ?_)
    | (refine Nice.map ?_)
    | split
    | dsimp only)
theorem Nice.convertInt {s d : TypeId} {k k' : IntKind} (hs : P.underlying s = some (.int k)) (hd : P.underlying d = some (.int k')) (x : Value) : Nice P D (Go.convert s d x) := by
  have e : ∀ w, (Go.convert s d x).run P w = (Go.Proofs.YtafhpbghogdipaaDoor.cvt k' x).run P w := fun w => by
    unfold Go.convert
    rw [Sem.run_bind, run_underlying hs]
    simp only [Result.andThen_ok]
    rw [Sem.run_bind, run_underlying hd]
    simp only [Result.andThen_ok]
    cases x <;> try rfl
    rename_i a
    cases a <;> rfl
  have ev : ∀ w, (Go.convert s d x).events P w #[] = (Go.Proofs.YtafhpbghogdipaaDoor.cvt k' x).events P w #[] := fun w => by
    unfold Go.convert
    rw [Sem.events_bind, run_underlying hs, events_underlying]
    simp only [Result.evThen_ok]
    rw [Sem.events_bind, run_underlying hd, events_underlying]
    simp only [Result.evThen_ok]
    cases x <;> try rfl
    rename_i a
    cases a <;> rfl
  have hn : Nice P D (Go.Proofs.YtafhpbghogdipaaDoor.cvt k' x) := Nice.cvt _ _
  refine ⟨fun u w hp hnp => ?_, fun w a w' hr => ?_⟩
  · have := hn.sim u w hp hnp
    rw [e]
    simp only [e, ev]
    exact this
  · rw [e] at hr
    obtain ⟨h1, h2, h3⟩ := hn.loc w a w' hr
    exact ⟨h1, h2, fun T d hT => by rw [e]; exact h3 T d hT⟩
end
end Go.Proofs.YtafhpbghogdipaaDoor

/- What the seat's plain functions call that has no body; methods that they call behind an interface; conversions. -/
namespace Go.Proofs.YtafhpbghogdipaaDoor
open Go.Conc
set_option maxHeartbeats 4000000
set_option linter.unusedVariables false
set_option linter.unusedSimpArgs false

def extF (f : FuncId) : Bool := f == 68 || f == 100
def invN (s : String) : Bool := s == "Comparable" || s == "Is" || s == "Unwrap"
def convF (s d : TypeId) : Bool := (s == 5 && d == 3) || (s == 46 && d == 70) || (s == 46 && d == 67) || (s == 47 && d == 46)
section
variable {P : Program} {D : DS} {α β : Type}
structure ExtOk (P : Program) (f : FuncId) : Prop where
  ex : ∃ fn e, P.funcs[f]? = some fn ∧ (fn.name == "runtime.NumGoroutine") = false ∧ fn.body.isNone = true ∧ Extern.findNext fn = none ∧ Extern.find fn = some e ∧ ∀ D a, Nice P D (e a)
def InvOk (P : Program) (name : String) : Prop := ∀ t i m, P.info? t = some i → i.methods.find? (fun m => m.name == name) = some m → ∃ f b, m.func = some (f, b) ∧ extF f = true
theorem Nice.bindOk {s : Sem α} {f : α → Sem β} (hs : Nice P D s) (hf : ∀ a, (∃ w w', s.run P w = .ok a w') → Nice P D (f a)) : Nice P D (s >>= f) := by
  refine ⟨fun u w h hn => ?_, fun w b w'' hr => ?_⟩
  · have h1 := hs.sim u w h hn
    rw [Sem.run_bind]
    cases hu : s.run P u with
    | halt x u' => rw [hu] at h1; exact h1
    | ok a u' =>
      rw [hu] at h1
      obtain ⟨hn', w', hw', hp', he'⟩ := h1
      have h2 := (hf a ⟨_, _, hu⟩).sim u' w' hp' hn'
      simp only [Result.andThen_ok]
      cases hu2 : (f a).run P u' with
      | halt x u2 => rw [hu2] at h2; exact h2
      | ok b u2 =>
        rw [hu2] at h2
        obtain ⟨hn2, w2, hw2, hp2, he2⟩ := h2
        refine ⟨hn2, w2, by rw [Sem.run_bind, hw']; exact hw2, hp2, fun e he => ?_⟩
        rw [Sem.events_bind, hw'] at he
        simp only [Result.evThen_ok] at he
        rw [Sem.events_acc] at he
        rcases Array.mem_append.1 he with h3 | h3
        · exact he' e h3
        · exact he2 e h3
  · rw [Sem.run_bind] at hr
    cases h1 : s.run P w with
    | halt x u' => rw [h1] at hr; simp at hr
    | ok a w' =>
      rw [h1] at hr
      simp only [Result.andThen_ok] at hr
      obtain ⟨t1, d1, l1⟩ := hs.loc w a w' h1
      obtain ⟨t2, d2, l2⟩ := (hf a ⟨_, _, h1⟩).loc w' b w'' hr
      refine ⟨t2.trans t1, by omega, fun T d hT => ?_⟩
      rw [Sem.run_bind, l1 T d fun i hi => hT i (by omega)]
      simp only [Result.andThen_ok]
      have := l2 T (d + (w'.drawn - w.drawn)) fun i hi => by
        have := hT (w'.drawn - w.drawn + i) (by omega)
        have e1 : d + (w'.drawn - w.drawn) + i = d + (w'.drawn - w.drawn + i) := by omega
        have e2 : w'.drawn + i = w.drawn + (w'.drawn - w.drawn + i) := by omega
        rw [t1, e1, e2]; exact this
      have e : d + (w''.drawn - w.drawn) = d + (w'.drawn - w.drawn) + (w''.drawn - w'.drawn) := by omega
      rw [e]
      exact this
theorem Nice.program_bind {f : Program → Sem α} (h : Nice P D (f P)) : Nice P D (Go.program >>= f) := by
  have e : ∀ w, (Go.program >>= f).run P w = (f P).run P w := fun w => rfl
  have ev : ∀ w, (Go.program >>= f).events P w #[] = (f P).events P w #[] := fun w => rfl
  refine ⟨fun u w hp hn => ?_, fun w a w' hr => ?_⟩
  · have := h.sim u w hp hn
    rw [e]
    simp only [e, ev]
    exact this
  · rw [e] at hr
    obtain ⟨h1, h2, h3⟩ := h.loc w a w' hr
    exact ⟨h1, h2, fun T d hT => by rw [e]; exact h3 T d hT⟩
/-- An entry without a body. -/
theorem ext_call {f : FuncId} (h : ExtOk P f) (a : Array Value) : (∀ D, Nice P D (callFunc f a)) ∧ ∀ w n w', (callFunc f a).run P w = .ok n w' → ∃ v, n = .value v := by
  obtain ⟨fn, e, hf, hname, hb, hn, he, hnice⟩ := h.ex
  refine ⟨fun D => ?_, fun w n w' hr => ?_⟩
  · unfold callFunc
    refine Nice.program_bind ?_
    rw [hf]
    dsimp only
    rw [hname, hb]
    simp only [Bool.false_eq_true, if_false, if_true]
    refine (Nice.markExtern f).bind fun _ => ?_
    rw [hn, he]
    exact (hnice D a).bind fun _ => .pure _
  · rw [run_callFunc_extern hf hname hb hn he] at hr
    cases hs : (e a).run P w with
    | halt x w1 => rw [hs] at hr; cases hr
    | ok v w1 =>
      rw [hs] at hr
      cases hr
      exact ⟨v, rfl⟩
theorem run_info {t : TypeId} {i : TypeInfo} (h : P.info? t = some i) (w : World) : (Go.typeInfo t).run P w = .ok i w := by
  unfold Go.typeInfo
  rw [Sem.run_bind, run_program]
  simp only [Result.andThen_ok, h, Sem.run_pure]
theorem run_info_none {t : TypeId} (h : P.info? t = none) (w : World) : (Go.typeInfo t).run P w = .halt (.stuck "no such type") w := by
  unfold Go.typeInfo
  rw [Sem.run_bind, run_program]
  simp only [Result.andThen_ok, h]
  rfl
theorem method_run {name : String} (hI : InvOk P name) (n : Nat) (t : TypeId) (v : Value) (w : World) (r : FuncId × Value) (w' : World) (h : (Go.method n t v name).run P w = .ok r w') : extF r.1 = true := by
  cases n with
  | zero => unfold Go.method at h; cases h
  | succ n =>
    unfold Go.method at h
    rw [Sem.run_bind] at h
    cases hi : P.info? t with
    | none => rw [run_info_none hi] at h; cases h
    | some i =>
      rw [run_info hi] at h
      simp only [Result.andThen_ok] at h
      cases hm : i.methods.find? (fun m => m.name == name) with
      | none => rw [hm] at h; cases h
      | some m =>
        rw [hm] at h
        dsimp only at h
        obtain ⟨f, b, hf, hx⟩ := hI t i m hi hm
        rw [Sem.run_bind] at h
        cases hfo : (follow m.path.toList t (.val v)).run P w with
        | halt x w1 => rw [hfo] at h; cases h
        | ok x w1 =>
          rw [hfo] at h
          simp only [Result.andThen_ok, hf] at h
          rw [Sem.run_bind] at h
          cases hre : (receiverAt x.1 x.2 b (if m.path.isEmpty then some ((name.splitOn ".").getLastD name) else none)).run P w1 with
          | halt y w2 => rw [hre] at h; cases h
          | ok y w2 =>
            rw [hre] at h
            cases h
            exact hx
/-- A method behind an interface. -/
theorem inv_call {name : String} (hI : InvOk P name) (hX : ∀ f, extF f = true → ExtOk P f) (rv : Value) (a : Array Value) : (∀ D, Nice P D (callMethod rv name a)) ∧ ∀ w n w', (callMethod rv name a).run P w = .ok n w' → ∃ v, n = .value v := by
  cases rv with
  | iface t v =>
    refine ⟨fun D => ?_, fun w n w' hr => ?_⟩
    · unfold callMethod
      dsimp only
      refine Nice.program_bind ?_
      refine (Nice.method _ _ _ _).bindOk fun r ⟨w, w', hr⟩ => ?_
      exact (ext_call (hX _ (method_run hI _ _ _ _ _ _ hr)) _).1 D
    · unfold callMethod at hr
      dsimp only at hr
      rw [Sem.run_bind, run_program] at hr
      simp only [Result.andThen_ok] at hr
      rw [Sem.run_bind] at hr
      cases hm : (Go.method (P.types.size + Made.depth) t v name).run P w with
      | halt x w1 => rw [hm] at hr; cases hr
      | ok r w1 =>
        rw [hm] at hr
        simp only [Result.andThen_ok] at hr
        exact (ext_call (hX _ (method_run hI _ _ _ _ _ _ hm)) _).2 _ _ _ hr
  | nilIface =>
    refine ⟨fun D => ?_, fun w n w' hr => ?_⟩
    · unfold callMethod
      exact Nice.runtimePanic _
    · unfold callMethod runtimePanic at hr
      rw [Sem.run_bind, run_program] at hr
      simp only [Result.andThen_ok] at hr
      cases hr
  | _ =>
    refine ⟨fun D => ?_, fun w n w' hr => ?_⟩
    · unfold callMethod
      exact Nice.stuck _
    · unfold callMethod at hr
      simp at hr
end
end Go.Proofs.YtafhpbghogdipaaDoor
