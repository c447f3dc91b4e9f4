/- CoA CoB CoC CoD (merge.py). -/
import Derived.Test.YtafhpbghogdipaaGreatDoorLfC
import Derived.Test.YtafhpbghogdipaaGreatDoorIn4
import Derived.Test.YtafhpbghogdipaaGreatDoorCw16
/- The plain functions; what is asked of them; a body cut in two. -/
namespace Go.Proofs.YtafhpbghogdipaaGreatDoor
open Go.Conc
set_option maxRecDepth 100000
set_option linter.unusedVariables false
def plainL : List FuncId := [19, 13, 14, 15, 16, 34, 35, 36, 24, 25, 26, 27, 69, 70, 41, 42, 43, 73, 74, 75, 6, 12, 11, 23, 40, 4, 8, 9, 18, 20, 21, 22, 32, 33, 37, 38, 62, 63, 64, 65, 66, 67, 68, 71, 72, 81, 82, 83, 84, 85, 86, 87]
def SP (f : FuncId) : Bool := plainL.contains f
theorem sp_all : plainL.all (fun f => okFunc Tryz.prog SP f) = true := by kernel_rfl
theorem hSPfn : ∀ f, SP f = true → okFunc Tryz.prog SP f = true := fun f h => List.all_eq_true.1 sp_all f (by simpa [SP] using h)

/-! ### what the entries are; methods of types that are made -/
theorem bind_some' {α β : Type} {x : Option α} {f : α → Option β} {b : β} (h : (x >>= f) = some b) : ∃ a, x = some a ∧ f a = some b := Option.bind_eq_some_iff.1 h
theorem struct_no {info : TypeId → Option TypeInfo} {fs : Array Field} {i : TypeInfo} (h : Made.reckonStruct info fs = some i) : i.methods = #[] := by
  unfold Made.reckonStruct at h
  obtain ⟨r, _, h⟩ := bind_some' h
  dsimp only at h
  split at h <;> (cases h; rfl)
theorem reckon_no {info : TypeId → Option TypeInfo} {d : TypeDesc} {i : TypeInfo} (h : Made.reckon info d = some i) : i.methods = #[] := by
  unfold Made.reckon at h
  cases d with
  | struct fs => exact struct_no h
  | pointer e =>
    obtain ⟨j, _, h⟩ := bind_some' h
    split at h
    · cases h
    · split at h
      · cases h
      · obtain ⟨s, _, h⟩ := bind_some' h
        cases h
        rfl
    · obtain ⟨s, _, h⟩ := bind_some' h
      cases h
      rfl
  | slice e =>
    obtain ⟨j, _, h⟩ := bind_some' h
    obtain ⟨s, _, h⟩ := bind_some' h
    cases h
    rfl
  | map k e =>
    obtain ⟨j, _, h⟩ := bind_some' h
    obtain ⟨s, _, h⟩ := bind_some' h
    obtain ⟨j2, _, h⟩ := bind_some' h
    obtain ⟨s2, _, h⟩ := bind_some' h
    cases h
    rfl
  | chan dir e =>
    obtain ⟨j, _, h⟩ := bind_some' h
    obtain ⟨s, _, h⟩ := bind_some' h
    cases h
    rfl
  | func ps rs v =>
    obtain ⟨s, _, h⟩ := bind_some' h
    cases h
    rfl
  | array n e =>
    obtain ⟨j, _, h⟩ := bind_some' h
    obtain ⟨s, _, h⟩ := bind_some' h
    cases h
    rfl
  | _ => cases h
theorem made_no {T : Tables} {t : TypeId} {i : TypeInfo} (ht : ¬ t < T.types.size) : ∀ n, Made.infoAt T n t = some i → i.methods = #[]
  | 0, h => by cases h
  | n + 1, h => by
    unfold Made.infoAt at h
    rw [if_neg ht] at h
    obtain ⟨d, _, h⟩ := Option.bind_eq_some_iff.1 h
    exact reckon_no h
def rowOk (name : String) (i : TypeInfo) : Bool :=
  match i.methods.find? (fun m => m.name == name) with
  | some m => (match m.func with | some (f, _) => extF f | none => false)
  | none => true
theorem inv_of {P : Program} {name : String} (h : P.types.all (rowOk name) = true) : InvOk P name := by
  intro t i m hi hm
  unfold Tables.info? at hi
  split at hi
  · have h2 := Array.all_eq_true_iff_forall_mem.1 h i (Array.mem_of_getElem? hi)
    unfold rowOk at h2
    rw [hm] at h2
    dsimp only at h2
    cases hf : m.func with
    | none => rw [hf] at h2; cases h2
    | some x => rw [hf] at h2; exact ⟨x.1, x.2, rfl, h2⟩
  · rename_i hlt
    have := made_no hlt _ hi
    rw [this] at hm
    simp at hm
theorem ext_typeOf : ExtOk Tryz.prog 39 := ⟨_, Extern.ReflectliteType.typeOf, Tryz.func39, by kernel_rfl, by kernel_rfl, by kernel_rfl, by kernel_rfl, fun D a => Nice.typeOfL a⟩
theorem ext_cmp : ExtOk Tryz.prog 109 := ⟨_, cmpL, Tryz.func109, by kernel_rfl, by kernel_rfl, by kernel_rfl, by kernel_rfl, fun D a => Nice.comparableL a⟩
theorem inv_cmp : InvOk Tryz.prog "Comparable" := inv_of (by kernel_rfl)
theorem inv_is : InvOk Tryz.prog "Is" := inv_of (by kernel_rfl)
theorem inv_unwrap : InvOk Tryz.prog "Unwrap" := inv_of (by kernel_rfl)
theorem conv_all (s d : TypeId) (h : convF s d = true) : ∃ k k', Tryz.prog.underlying s = some (.int k) ∧ Tryz.prog.underlying d = some (.int k') := by
  simp only [convF, Bool.or_eq_true, Bool.and_eq_true, beq_iff_eq] at h
  rcases h with (((⟨rfl, rfl⟩ | ⟨rfl, rfl⟩) | ⟨rfl, rfl⟩) | ⟨rfl, rfl⟩) | ⟨rfl, rfl⟩
  · exact ⟨.u8, .i64, by kernel_rfl, by kernel_rfl⟩
  · exact ⟨.u64, .u32, by kernel_rfl, by kernel_rfl⟩
  · exact ⟨.u64, .u64, by kernel_rfl, by kernel_rfl⟩
  · exact ⟨.u64, .u64, by kernel_rfl, by kernel_rfl⟩
  · exact ⟨.i64, .u8, by kernel_rfl, by kernel_rfl⟩
theorem str_all (s d : TypeId) (h : convS s d = true) : ∃ e, Tryz.prog.underlying s = some (.slice e) ∧ Tryz.prog.underlying d = some .string ∧ Tryz.prog.underlying e = some (.int .u8) := by
  simp only [convS, Bool.and_eq_true, beq_iff_eq] at h
  obtain ⟨rfl, rfl⟩ := h
  exact ⟨5, by kernel_rfl, by kernel_rfl, by kernel_rfl⟩
theorem hSP : OkP Tryz.prog SP :=
  ⟨hSPfn, fun f h => by
    simp only [extF, Bool.or_eq_true, beq_iff_eq] at h
    rcases h with rfl | rfl
    · exact ext_typeOf
    · exact ext_cmp, fun s h => by
    simp only [invN, Bool.or_eq_true, beq_iff_eq] at h
    rcases h with (rfl | rfl) | rfl
    · exact inv_cmp
    · exact inv_is
    · exact inv_unwrap, conv_all, str_all⟩

/-- The first parts of a sequence; the rest. -/
def headN : Nat → Code → Code
  | 0, .seq a _ => a
  | n + 1, .seq a b => .seq a (headN n b)
  | _, c => c
def tailN : Nat → Code → Code
  | 0, .seq _ b => b
  | n + 1, .seq _ b => tailN n b
  | _, c => c
noncomputable def bodyOf (f : FuncId) : Code := ((Tryz.prog.funcs[f]?).bind (·.body)).getD .skip
def opsOf : Code → Array Oper
  | .seq (.region _ ops _) _ => ops
  | _ => #[]
def restOf : Code → Code
  | .seq _ r => r
  | _ => .skip
theorem no_rely {w w₁ : World} (_h : True) (_r : AtRel w w₁) : True := trivial
theorem graft16 : graft (headN 1 (bodyOf 17)) (tailN 1 (bodyOf 17)) = bodyOf 17 := by kernel_rfl
theorem plain16 : plainCode SP (headN 1 (bodyOf 17)) = true := by kernel_rfl
noncomputable def Zc : Code := tailN 1 (bodyOf 17)
end Go.Proofs.YtafhpbghogdipaaGreatDoor

/- common's phase, whatever law is around it: from its call to its return. -/
namespace Go.Proofs.YtafhpbghogdipaaGreatDoor
open Go.RowKit
set_option maxHeartbeats 4000000
set_option maxRecDepth 100000
set_option linter.unusedVariables false
set_option linter.unusedSimpArgs false

/-- Below, whatever the tape. -/
def Bel (B : Nat) (w w' : World) : Prop := Below B w (tp w' w.tape 0)
theorem Bel.of {B : Nat} {w w' : World} {T : Nat → Question → Nat} {d : Nat} (h : Below B (tp w T d) w') : Bel B w w' := ⟨h.os, rfl, h.output, h.size, h.block⟩
theorem Bel.of' {B : Nat} {w w' : World} (h : Below B w w') : Bel B w w' := ⟨h.os, rfl, h.output, h.size, h.block⟩
theorem Bel.to {B : Nat} {w w' : World} (h : Bel B w w') : Below B w (tp w' w.tape 0) := h
theorem Bel.size {B : Nat} {w w' : World} (h : Bel B w w') : w.heap.size ≤ w'.heap.size := h.to.size
theorem Bel.block {B : Nat} {w w' : World} (h : Bel B w w') : ∀ k, k < B → w'.heap[k]? = w.heap[k]? := h.to.block
theorem Bel.tp {B : Nat} {w w' : World} (h : Bel B w w') (T : Nat → Question → Nat) (d : Nat) : Bel B w (tp w' T d) := ⟨h.to.os, rfl, h.to.output, h.to.size, h.to.block⟩
theorem Bel.trans {B : Nat} {w w' w'' : World} (h : Bel B w w') (k : Bel B w' w'') : Bel B w w'' := ⟨k.to.os.trans h.to.os, rfl, k.to.output.trans h.to.output, Nat.le_trans h.size k.size, fun b hb => (k.block b hb).trans (h.block b hb)⟩
theorem Bel.mono {B B' : Nat} {w w' : World} (h : Bel B w w') (hB : B' ≤ B) : Bel B' w w' := ⟨h.to.os, rfl, h.to.output, h.size, fun b hb => h.block b (by omega)⟩
theorem Bel.refl (B : Nat) (w : World) : Bel B w w := ⟨rfl, rfl, rfl, Nat.le_refl _, fun _ _ => rfl⟩
section
variable {w : World} {A : Option Addr} {n c g B : Nat} {zss : List (List Int)} {T : Nat → Question → Nat} {d : Nat}
theorem mat_tp (h : Mat w B A n zss) : Mat (tp w T d) B A n zss := ⟨h.len, h.nil, h.at_, h.fit⟩
theorem mat_of_tp (h : Mat (tp w T d) B A n zss) : Mat w B A n zss := ⟨h.len, h.nil, h.at_, h.fit⟩
theorem argM_tp (h : ArgM w A n c zss) : ArgM (tp w T d) A n c zss := ⟨mat_tp h.1, h.2⟩
theorem cpM_tp (h : CpM w g n zss) : CpM (tp w T d) g n zss := ⟨h.mp, h.len, h.fit, h.ok⟩
theorem cpM_of_tp (h : CpM (tp w T d) g n zss) : CpM w g n zss := ⟨h.mp, h.len, h.fit, h.ok⟩
theorem CpM.bel {w' : World} (h : CpM w g n zss) (hb : Bel w.heap.size w w') : CpM w' g n zss := cpM_of_tp (h.below hb)
theorem ArgM.bel {w' : World} (h : ArgM w A n c zss) (hb : Bel w.heap.size w w') : ArgM w' A n c zss := ⟨mat_of_tp ((h.1.below hb).more hb.size), h.2⟩
end


theorem row_tp {w : World} {B : Nat} {A : Option Addr} {xs : List Value} {T : Nat → Question → Nat} {d : Nat} (h : Row w B A xs) : Row (tp w T d) B A xs := h
theorem row_of_tp {w : World} {B : Nat} {A : Option Addr} {xs : List Value} {T : Nat → Question → Nat} {d : Nat} (h : Row (tp w T d) B A xs) : Row w B A xs := h

/-- common stands ahead of its group. -/
def QE (x y : Value) (n : Nat) (w0 : World) (a : Act) (w : World) : Prop :=
  a = ⟨#[x, y, undef, .pointer (some ⟨w0.heap.size, 0, none⟩), .slice none 0 0, .pointer (some ⟨w0.heap.size + 2, 0, none⟩), undef, undef, undef, x, .int .i64 n, .slice (some ⟨w0.heap.size + 1, 0, none⟩) n n, undef, undef, undef, undef, undef, undef, undef, undef, undef, undef, undef, undef], []⟩ ∧
    Bel w0.heap.size w0 w ∧ w.heap.size = w0.heap.size + 3 ∧ w.cell? ⟨w0.heap.size, 0, none⟩ = some y ∧ w.cell? ⟨w0.heap.size + 2, 0, none⟩ = some (.slice (some ⟨w0.heap.size + 1, 0, none⟩) n n) ∧
    w.heap[w0.heap.size + 1]? = some (.cells (Array.replicate n (.slice none 0 0)) 33)
theorem QE.tp {x y : Value} {n : Nat} {w0 : World} (a : Act) (w : World) (T : Nat → Question → Nat) (d : Nat) (h : QE x y n w0 a w) : QE x y n w0 a (tp w T d) := ⟨h.1, h.2.1.tp T d, h.2.2⟩
theorem three (w : World) (o1 o2 o3 : Obj) : (((w.alloc o1).alloc o2).alloc o3).heap[w.heap.size]? = some o1 ∧ (((w.alloc o1).alloc o2).alloc o3).heap[w.heap.size + 1]? = some o2 ∧ (((w.alloc o1).alloc o2).alloc o3).heap[w.heap.size + 2]? = some o3 := by
  have s1 : (w.alloc o1).heap.size = w.heap.size + 1 := by simp
  have s2 : ((w.alloc o1).alloc o2).heap.size = w.heap.size + 2 := by simp
  have h2 := heap_alloc_new (w.alloc o1) o2
  have h3 := heap_alloc_new ((w.alloc o1).alloc o2) o3
  rw [s1] at h2
  rw [s2] at h3
  exact ⟨(heap_alloc_old _ _ (by omega)).trans ((heap_alloc_old _ _ (by omega)).trans (heap_alloc_new w o1)), (heap_alloc_old _ _ (by omega)).trans h2, h3⟩
theorem cell_one {w : World} {b : Nat} {v : Value} {t : TypeId} (h : w.heap[b]? = some (.cells #[v] t)) : w.cell? ⟨b, 0, none⟩ = some v := by
  simp [World.cell?, h]
theorem crews_info : (Tryz.prog.info? 33).map (fun i => (i.zero, i.size, i.bytes)) = some (some (.slice none 0 0), 1, 24) := by kernel_rfl
theorem commonE (X A : Option Addr) (n cx ny cy : Nat) (w : World) (hn : n ≤ 20) :
    (headN 1 (bodyOf 17)).wp Tryz.prog (QQ (QE (.slice X n cx) (.slice A ny cy) n w) (fun _ _ => False)) ⟨#[.slice X n cx, .slice A ny cy] ++ Array.replicate (24 - 2) undef, []⟩ w := by
  obtain ⟨i0, hi, hz0, hz1, hz2⟩ := info_parts crews_info
  have hmk := fun w => make_rows 48 33 i0 Tryz.underlying48 hi hz0 hz1 hz2 n (by omega) w
  clear hi hz0 hz1 hz2
  obtain ⟨Q, hQ⟩ : ∃ Q, Q = QQ (QE (.slice X n cx) (.slice A ny cy) n w) (fun _ _ => False) := ⟨_, rfl⟩
  rw [← hQ]
  have HQ := Lib.hid hQ
  clear hQ
  simp only [bodyOf, Tryz.func17, Tryz.f17, headN, Option.bind_some, Option.getD_some, Array.replicate, List.replicate, List.append_toArray, List.cons_append, List.nil_append, Nat.reduceSub]
  go_wp2_with fail
  rw [HQ.out]
  refine .inl ⟨rfl, rfl, Bel.of' ((((Below.refl _ _).alloc (Nat.le_refl _) _).alloc (by simp) _).alloc (by simp; omega) _), by simp, ?_, ?_, ?_⟩
  · exact cell_one (three _ _ _ _).1
  · exact cell_one (three _ _ _ _).2.2
  · exact (three _ _ _ _).2.1

theorem plainE10 : plainCode SP E10 = true := by kernel_rfl

def QV (v : Value) (w0 : World) (a : Act) (w : World) : Prop := a.defers = [] ∧ a.tmps.getD 4 undef = v ∧ Bel w0.heap.size w0 w
theorem QV.tp {v : Value} {w0 : World} (a : Act) (w : World) (T : Nat → Question → Nat) (d : Nat) (h : QV v w0 a w) : QV v w0 a (tp w T d) := ⟨h.1, h.2.1, h.2.2.tp T d⟩
theorem endE (Br : Nat) (v t0 t1 t2 t3 t4 t6 t7 t8 t9 t10 t11 t12 t13 t14 t15 t16 t17 t18 t19 t20 t21 t22 t23 : Value) (w : World) (h : w.cell? ⟨Br, 0, none⟩ = some v) :
    E10.wp Tryz.prog (QQ (fun _ _ => False) (QV v w)) ⟨#[t0, t1, t2, t3, t4, .pointer (some ⟨Br, 0, none⟩), t6, t7, t8, t9, t10, t11, t12, t13, t14, t15, t16, t17, t18, t19, t20, t21, t22, t23], []⟩ w := by
  obtain ⟨Q, hQ⟩ : ∃ Q, Q = QQ (fun _ _ => False) (QV v w) := ⟨_, rfl⟩
  rw [← hQ]
  have HQ := Lib.hid hQ
  clear hQ
  simp only [E10, E16, Z16, body16, Tryz.f17, Option.getD_some]
  go_wp2
  rw [HQ.out]
  exact .inr ⟨rfl, rfl, rfl, Bel.refl _ _⟩

end Go.Proofs.YtafhpbghogdipaaGreatDoor

/- common's phase in company. -/
namespace Go.Proofs.YtafhpbghogdipaaGreatDoor
open Go.Conc Go.ConcN Go.RowKit Go.Conc.Lib Go.ConcR.Gen Go.ConcN.Gen
open Go.ConcR (KK wgBlock WgAt stA smA rd wr mk Payload DC0 Bk)
set_option maxHeartbeats 8000000
set_option maxRecDepth 100000
set_option linter.unusedVariables false
set_option linter.unusedSimpArgs false

section
variable {X A : Option Addr} {n cx ny cy By Br : Nat} {cs : List Frame}
set_option maxRecDepth 100000 in
theorem quietE1 (t2 t7 t8 t9 t10 t11 t12 t13 t14 t15 t16 t17 t18 t19 t20 t21 t22 t23 : Value) : ∀ w, True → Goes Tryz.prog true AtRel DC0 (fun g1 _ => g1 = G (b16.at ⟨#[.slice X n cx, .slice A ny cy, t2, .pointer (some ⟨By, 0, none⟩), .slice none 0 0, .pointer (some ⟨Br, 0, none⟩), undef, t7, t8, t9, t10, t11, t12, t13, t14, t15, t16, t17, t18, t19, t20, t21, t22, t23], []⟩ (.inRegion ops2 [0] :: .code Z16 :: [])) cs) 3
    (G (b16.at ⟨#[.slice X n cx, .slice A ny cy, t2, .pointer (some ⟨By, 0, none⟩), .slice none 0 0, .pointer (some ⟨Br, 0, none⟩), undef, t7, t8, t9, t10, t11, t12, t13, t14, t15, t16, t17, t18, t19, t20, t21, t22, t23], []⟩ (.code Zc :: [])) cs) w := by
  intro w hF
  unfold Zc
  simp only [bodyOf, tailN, ops2, Z16, body16, Tryz.func17, Tryz.f17, Option.bind_some, Option.getD_some]
  u_c stepG_seq no_rely hF
  u_reg no_rely hF
  refine Goes.stop (fun w₁ h₁ => ?_)
  rfl
set_option maxRecDepth 100000 in
theorem hushE (t2 t7 t8 t9 t10 t11 t12 t13 t14 t15 t16 t17 t18 t19 t20 t21 t22 t23 : Value) (w : World) : Goes Tryz.prog true AtRel DH (fun g1 w1 => ∃ d, w1 = (w.at d).alloc (wgBlock Tryz.link.tWg 0 0) ∧ g1 = begS X A n cx ny cy By Br w.heap.size t2 t7 t8 t9 t10 t11 t12 t13 t14 t15 t16 t17 t18 t19 t20 t21 t22 t23 cs) 1
    (G (b16.at ⟨#[.slice X n cx, .slice A ny cy, t2, .pointer (some ⟨By, 0, none⟩), .slice none 0 0, .pointer (some ⟨Br, 0, none⟩), undef, t7, t8, t9, t10, t11, t12, t13, t14, t15, t16, t17, t18, t19, t20, t21, t22, t23], []⟩ (.inRegion ops2 [0] :: .code Z16 :: [])) cs) w := by
  unfold begS
  simp only [ops2, Z16, body16, Tryz.f17, Option.getD_some]
  refine Goes.step rfl (fun w₁ h₁ => ?_)
  obtain ⟨d, rfl⟩ := h₁
  refine goes_oper_k rfl rfl (by decide) (fun K hK => ?_)
  generalize hLx : Go.Conc.listed _ _ _ _ _ = Lx at hK
  have hev : Lx = #[] := by
    refine Array.eq_empty_iff_forall_not_mem.2 fun e he => ?_
    rw [← hLx] at he
    have hm' := mem_listed he
    clear hLx
    simp [go_sem, *] at hm'
  clear hLx
  subst hev
  go_simp
  refine hK _ _ ⟨rfl, Goes.stop (fun w₂ h₂ => ?_)⟩
  obtain ⟨d2, rfl⟩ := h₂
  exact ⟨d2, rfl, rfl⟩
end

/-- Behind common's join. -/
def BackE (X A : Option Addr) (n cx ny cy By Br : Nat) (cs : List Frame) (g : Goroutine) : Prop :=
  ∃ (a : Act), g = G (b16.at a (.code E10 :: [])) cs ∧ a.defers = [] ∧ ∃ (t0 t1 t2 t3 t4 t6 t7 t8 t9 t10 t11 t12 t13 t14 t15 t16 t17 t18 t19 t20 t21 t22 t23 : Value), a.tmps = #[t0, t1, t2, t3, t4, .pointer (some ⟨Br, 0, none⟩), t6, t7, t8, t9, t10, t11, t12, t13, t14, t15, t16, t17, t18, t19, t20, t21, t22, t23]
theorem msk_at {w : World} {B : Nat} {A : Option Addr} {zs : List Int} {n j : Nat} (h : Row w B A (zs.map (Value.int .u64))) (hl : zs.length = n) (hj : j < n) : ∃ b off, A = some ⟨b, off, none⟩ ∧ b < B ∧ w.cell? ⟨b, off + j, none⟩ = some (.int .u64 (zs.getD j 0)) :=
  h.at_ (by
    have hjl : j < zs.length := by omega
    simp [hjl])
theorem pz_same {D : DS} {u w u' w' : World} {b : Nat} (h : Pz D u w) (h' : Pz D u' w') (e : u'.heap[b]? = u.heap[b]?) : w'.heap[b]? = w.heap[b]? := by
  by_cases hd : D b
  · exact ((h'.real b hd).1).trans (h.real b hd).1.symm
  · exact (h'.same b hd).symm.trans (e.trans (h.same b hd))
theorem cell_of_heap {w w' : World} {a : Addr} {v : Value} (h : w'.heap[a.block]? = w.heap[a.block]?) (hv : w.cell? a = some v) : w'.cell? a = some v := (World.cell?_of_block h).trans hv
theorem runNT_trans {P : Program} {N M : Nat} {m m' : Machine} {t t' : Trace} {r : Stepped × Trace} (h : runNT P N m t = (.next m', t')) (h2 : runNT P M m' t' = r) : runNT P (N + M) m t = r := by
  rw [runNT_add, h]
  exact h2
set_option maxRecDepth 100000 in
theorem quietF {X A : Option Addr} {n cx ny cy By Br Wg k : Nat} {cs : List Frame} (t2 t7 t8 t9 t10 t11 t15 t16 t17 t18 t19 t20 t21 t22 t23 : Value) : ∀ w, True → Goes Tryz.prog true AtRel DC0 (fun g1 _ => g1 = G (b16.at ⟨#[.slice X n cx, .slice A ny cy, t2, .pointer (some ⟨By, 0, none⟩), .slice none 0 0, .pointer (some ⟨Br, 0, none⟩), .pointer (some ⟨Wg, 0, none⟩), t7, t8, t9, t10, t11, .slice X n cx, .int .i64 n, .int .i64 k, t15, t16, t17, t18, t19, t20, t21, t22, t23], []⟩ (.code E10 :: [])) cs) 2
    (G (waitF X A n cx ny cy By Br Wg k t2 t7 t8 t9 t10 t11 t15 t16 t17 t18 t19 t20 t21 t22 t23 []) cs) w := by
  intro w hF
  unfold waitF
  u_c stepG_region_end no_rely hF
  refine Goes.stop (fun w₁ h₁ => ?_)
  rfl
theorem phaseE {Shun : Loc → Prop} {D : DS} {X A : Option Addr} {n cx ny cy : Nat} {xs ys : List Int} {cs : List Frame} {w0 wp w : World} {gs : Array Goroutine} {t : Trace} {q : Nat → Nat} {a : Act} (sl : Option (Nat × Nat))
    (hS : ∀ l, Shun l → ∃ a, l = .cell a ∧ D a.block) (hF : Fr Tryz.prog Shun D (G (b16.at a (.code Zc :: [])) cs) wp gs w t q) (hQ : QE (.slice X n cx) (.slice A ny cy) n w0 a wp) (hD : ∀ b, D b → b < w0.heap.size) (hn : n ≤ 20) (hny : ny ≤ 20)
    (hx : Row w0 w0.heap.size X (xs.map (Value.int .u64))) (hxl : xs.length = n) (hy : Row w0 w0.heap.size A (ys.map (Value.int .u64))) (hyl : ys.length = ny) :
    ∃ (N : Nat) (gs' : Array Goroutine) (w' : World) (sl' : Option (Nat × Nat)) (t' : Trace) (q' : Nat → Nat) (D' : DS) (Shun' : Loc → Prop) (g' : Goroutine) (wp' : World),
      runNT Tryz.prog N (crowd gs w sl) t = (.next (crowd gs' w' sl'), t') ∧ (∀ l, Shun' l → ∃ a, l = .cell a ∧ D' a.block) ∧ Fr Tryz.prog Shun' D' g' wp' gs' w' t' q' ∧
      BackE X A n cx ny cy w0.heap.size (w0.heap.size + 2) cs g' ∧ Bel w0.heap.size w0 wp' ∧ wp'.cell? ⟨w0.heap.size + 2, 0, none⟩ = some (.slice (some ⟨w0.heap.size + 1, 0, none⟩) n n) ∧
      RowsAt wp' wp'.heap.size (w0.heap.size + 1) n (rowsF xs ys ny) ∧ (∀ b, b < w0.heap.size → w'.heap[b]? = w.heap[b]?) ∧ ∀ b, D'.keep b = w'.heap[b]? := by
  obtain ⟨ha, hbel, hsz, hcy, hcr, hpay⟩ := hQ
  obtain ⟨N0, gs0, g0, wp0, w0', sl0, t0, q0, h1, h2, ⟨hg, hwp⟩, hF0⟩ := quiet_to (D := D) sl (by rw [ha] at hF; exact hF) (quietE1 (X := X) (A := A) (n := n) (cx := cx) (ny := ny) (cy := cy) (By := w0.heap.size) (Br := w0.heap.size + 2) (cs := cs) _ _ _ _ _ _ _ _ _ _ _ _ _ _ _ _ _ _)
  subst hg hwp
  obtain ⟨N1, gs1, a1, w1, sl1, t1, q1, k1, k2, k3, ⟨d, hw1, rfl⟩, k5, k6⟩ := hush_beside (B := w0'.heap.size) _ 1 gs0 _ w0' sl0 t0 q0 (Nat.le_refl _) hF0.h0 hF0.lv hF0.past (hushE (X := X) (A := A) (n := n) (cx := cx) (ny := ny) (cy := cy) (By := w0.heap.size) (Br := w0.heap.size + 2) (cs := cs) _ _ _ _ _ _ _ _ _ _ _ _ _ _ _ _ _ _ w0')
  have hsz0 : w0'.heap.size = w0.heap.size + 3 := hF0.pz.size.symm.trans hsz
  rw [hsz0] at k3 k6
  have old : ∀ b, b < w0.heap.size + 3 → w1.heap[b]? = w0'.heap[b]? := fun b hb => by
    rw [hw1]
    exact Below.heap_alloc _ _ _ (by rw [← hsz0] at hb; exact hb)
  have hwsz : w1.heap.size = w0.heap.size + 4 := by
    rw [hw1]
    simp [World.at, hsz0]
  have hwg : WgAt Tryz.link.tWg (w0.heap.size + 3) w1 0 0 := by
    rw [hw1, ← hsz0]
    exact heap_alloc_new (w0'.at d) _
  have cell1 : ∀ {ad : Addr} {v : Value}, ad.block < w0.heap.size + 3 → wp0.cell? ad = some v → w1.cell? ad = some v := fun hb hv => cell_of_heap (old _ hb) (hF0.pz.cell hv)
  have lowc : ∀ {ad : Addr} {v : Value}, ad.block < w0.heap.size → w0.cell? ad = some v → w1.cell? ad = some v := fun hb hv => cell1 (by omega) (cell_of_heap (hbel.block _ hb) hv)
  have hpay1 : w1.heap[w0.heap.size + 1]? = some (.cells (Array.replicate n (.slice none 0 0)) 33) := (old _ (by omega)).trans (hF0.pz.block hpay).2
  have noS : ∀ {b o : Nat}, ¬ D b → ¬ Shun (.cell ⟨b, o, none⟩) := fun hb h => by
    obtain ⟨a', e, h'⟩ := hS _ h
    cases e
    exact hb h'
  have dead0 : ∀ {b o : Nat} {v : Value}, w0.cell? ⟨b, o, none⟩ = some v → ¬ D b := fun hc hd => by
    have h1 := hF0.pz.dead _ hd
    have h2 := hbel.block _ (hD _ hd)
    have h3 : w0.heap[_]? = some poison := h2.symm.trans h1
    unfold World.cell? at hc
    rw [h3] at hc
    cases hc
  have Gs : GeoS Shun (w0.heap.size + 3) (w0.heap.size + 1) n (w0.heap.size + 4) w0.heap.size (w0.heap.size + 2) :=
    ⟨by omega, by omega, by omega, ⟨by omega, by omega, by omega, noS fun h => by have := hD _ h; omega⟩, ⟨by omega, by omega, by omega, noS fun h => by have := hD _ h; omega⟩, by omega⟩
  have hgs1 : 1 ≤ gs1.size := (Array.getElem?_eq_some_iff.1 k3).1
  have Gx : GeoX gs1.size (w0.heap.size + 3) (w0.heap.size + 1) (w0.heap.size + 4) w1 := ⟨hgs1, by omega, by omega, by omega, by omega⟩
  have hSK : SK Shun (w0.heap.size + 3) (w0.heap.size + 1) n (w0.heap.size + 4) w0.heap.size (w0.heap.size + 2) X A ny cy xs ys 0 w1 := by
    refine ⟨by omega, cell1 (by simp) hcy, cell1 (by simp) hcr, fun j hj => ?_, fun j hj => ?_, ⟨0, 0, hwg⟩, ⟨_, hpay1, by simp⟩, fun j _ hj => ?_⟩
    · obtain ⟨b, off, e, hb, hc⟩ := msk_at hx hxl hj
      exact ⟨b, off, e, ⟨_, rfl, by simp; omega, by simp; omega, by simp; omega, noS (dead0 hc)⟩, lowc hb hc⟩
    · obtain ⟨b, off, e, hb, hc⟩ := msk_at hy hyl hj
      exact ⟨b, off, e, ⟨_, rfl, by simp; omega, by simp; omega, by simp; omega, noS (dead0 hc)⟩, lowc hb hc⟩
    · simp [World.cell?, hpay1, hj]
  obtain ⟨N2, m', t2', hr2, gs2, w2, sl2, q2, a2, γ, rfl, hgs2, h02, hrun2, hL2, hP2, ⟨TA, TB, TC, TD, TE, TF, TG, TH, TI, TJ, TK, TL, TM, TN, TO, hSK2, m, hGo⟩, hfin, hpay2, hsame⟩ := phase16 (sl := sl1) rfl Gs (by omega) Gx _ _ _ _ _ _ _ _ _ _ _ _ _ _ _ _ _ _ k3 k5 k6 (fun a h => by obtain ⟨a', e, h'⟩ := hS _ h; cases e; have := hD _ h'; omega) hwg hSK
  obtain ⟨N3, gs3, a3, sl3, t3, q3, d3, hr3, hgs3, h03, rfl, hL3, hP3⟩ := quiet_beside _ m gs2 a2 w2 sl2 t2' q2 (Nat.le_refl _) h02 hL2 hP2 hGo
  obtain ⟨st, sm, hwg2⟩ := hSK2.live
  have hwg3 : (w2.at d3).heap[w0.heap.size + 3]? = some (.cells #[.int .u64 st, .int .u32 sm] Tryz.link.tWg (0, 0)) := hwg2
  obtain ⟨hF3, hlow3⟩ := fr_crowd (Shun := Shun) (Wg := w0.heap.size + 3) (C := w0.heap.size + 1) (Low := w0.heap.size + 3) hF0.pz hF0.np (fun b hb => ⟨by have := hD b hb; omega, by have := hD b hb; omega, by have := hD b hb; omega⟩) hwg3 (fun b hb hb2 hb3 => (hsame.low b (by omega) hb2 hb3).trans (old b hb)) h03 hL3 hP3
  obtain ⟨N4, gs4, g4, wp4, w4, sl4, t4, q4, hr4, hgs4, ⟨rfl, hwp4⟩, hF4⟩ := quiet_to sl3 hF3 (quietF TA TB TC TD TE TF TG TH TI TJ TK TL TM TN TO)
  have hheap4 : ∀ b : Nat, w4.heap[b]? = w2.heap[b]? := fun b => (show w4.heap[b]? = (w2.at d3).heap[b]? from pz_same hF3.pz hF4.pz (by rw [hwp4]; rfl))
  have hDC : ∀ g, w0.heap.size + 4 ≤ g ∨ g = w0.heap.size + 1 → (∃ c e k, w2.heap[g]? = some (.cells c e k)) → (psn (Dd (fun b => D b ∨ b = w0.heap.size + 3) (w2.at d3)) (w2.at d3)).heap[g]? = w2.heap[g]? := by
    rintro g hg ⟨c, e, k, hc⟩
    refine psn_out ?_
    rintro ((h | h) | ⟨c', e', h⟩)
    · have := hD g h
      omega
    · omega
    · have h2 : w2.heap[g]? = some (.pending c' e') := h
      rw [hc] at h2
      cases h2
  have hsz4 : wp4.heap.size = w2.heap.size := by rw [hwp4]; exact psn_size
  have hlen : ∀ i, (rowsF xs ys ny i).length = ny := fun i => rowK_len _ _ _
  refine ⟨N0 + (N1 + (N2 + (N3 + N4))), gs4, w4, sl4, t4, q4, _, _, _, wp4, runNT_trans h1 (runNT_trans k1 (runNT_trans hr2 (runNT_trans hr3 hr4))), ?_, hF4, ?_, ?_, ?_, ?_, ?_, ?_⟩
  · rintro l (h | ⟨ad, rfl, had⟩)
    · obtain ⟨ad, e, h'⟩ := hS l h
      exact ⟨ad, e, .inl (.inl h')⟩
    · exact ⟨ad, rfl, .inl (.inr had)⟩
  · exact ⟨_, rfl, rfl, _, _, _, _, _, _, _, _, _, _, _, _, _, _, _, _, _, _, _, _, _, _, _, rfl⟩
  · rw [hwp4]
    refine ⟨?_, rfl, ?_, ?_, fun b hb => ?_⟩
    · show w2.os = w0.os
      have e1 : w1.os = w0'.os := by rw [hw1]; rfl
      have e2 : wp0.os = w0'.os := hF0.pz.os
      exact hsame.os.trans (e1.trans (e2.symm.trans hbel.to.os))
    · show w2.output = w0.output
      have e1 : w1.output = w0'.output := by rw [hw1]; rfl
      have e2 : wp0.output = w0'.output := hF0.pz.output
      exact hsame.output.trans (e1.trans (e2.symm.trans hbel.to.output))
    · show w0.heap.size ≤ (psn _ (w2.at d3)).heap.size
      rw [psn_size]
      have : w1.heap.size ≤ w2.heap.size := hsame.size
      show w0.heap.size ≤ w2.heap.size
      omega
    · exact (hlow3 b (by omega) (by omega) (by omega)).trans (hbel.block b hb)
  · rw [hwp4]
    exact cell_of_heap (w := wp0) (hlow3 (w0.heap.size + 2) (by omega) (by omega) (by omega)) hcr
  · refine ⟨fun i hi => ?_, fun i hi => by rw [hlen]; exact hny, ?_⟩
    · obtain ⟨γi, u, hu, ⟨hul, hurow⟩, _⟩ := hfin i hi
      obtain ⟨pc, hpc, _⟩ := hpay2
      have hcellC : wp4.cell? ⟨w0.heap.size + 1, i, none⟩ = some u := by
        rw [hwp4]
        exact cell_of_heap (w := w2) (hDC _ (.inr rfl) ⟨_, _, _, hpc⟩) hu
      have hrow4 : wp4.ownsRow (w0.heap.size + 4) 46 1 u (rowsF xs ys ny i).length ((rowsF xs ys ny i).map (Value.int .u64)) := by
        refine ownsRow_of ⟨hul, hurow⟩ fun g hg => ?_
        rcases hurow with ⟨rfl, _⟩ | ⟨g', cap, cur, rfl, hg1, hg2, _⟩
        · cases hg
        · obtain rfl : g' = g := by simpa [Value.ownBlock] using hg
          rw [hwp4]
          exact hDC _ (.inl hg1) ⟨_, _, _, hg2⟩
      obtain ⟨A4, c4, rfl, e1, e2, hr⟩ := owns_row hrow4
      refine ⟨A4, c4, hcellC, e1, e2, fun hA => ?_, hr⟩
      subst hA
      rcases hrow4.2 with ⟨_, h0⟩ | ⟨g', cap, cur, h0, _⟩
      · exact h0
      · cases h0
    · rw [hsz4]
      have : w1.heap.size ≤ w2.heap.size := hsame.size
      omega
  · intro b hb
    rw [hheap4]
    exact (hsame.low b (by omega) (by omega) (by omega)).trans ((old b (by omega)).trans (pz_same hF.pz hF0.pz rfl))
  · intro b
    exact (hheap4 b).symm

end Go.Proofs.YtafhpbghogdipaaGreatDoor

/- The law's promise; what is held of the true world; common carried out; Concat, Contains carried out. -/
namespace Go.Proofs.YtafhpbghogdipaaGreatDoor
open Go.Conc Go.RowKit
open Go.ConcR (DC0)
open Go.ConcN (sumTo upd sumTo_upd upd_ne upd_same)
set_option maxHeartbeats 8000000
set_option maxRecDepth 100000
set_option linter.unusedVariables false
set_option linter.unusedSimpArgs false

theorem bel_base {B : Nat} {w w' : World} {T : Nat → Question → Nat} {d : Nat} (h : Bel B (tp w T d) w') : Bel B w w' := ⟨h.to.os, rfl, h.to.output, h.to.size, h.to.block⟩
/-- The law's promise. -/
def PostL (W : World) (v : Value) (w : World) : Prop := v = .bool true ∧ Bel W.heap.size W w
/-- The run ends well. -/
def Ends (W : World) (gs : Array Goroutine) (w : World) (sl : Option (Nat × Nat)) (t : Trace) : Prop :=
  ∃ M last o w'' t'', runNT Tryz.prog (M + 1) (crowd gs w sl) t = (.ended o w'', t'') ∧ runN Tryz.prog M (crowd gs w sl) = .next last ∧ step Tryz.prog last = .ended o w'' ∧ Conc.Good Tryz.prog (PostL W) last o w'' t''
theorem To.ends {Shun : Loc → Prop} {D : DS} {K : Goroutine → World → Prop} {gs : Array Goroutine} {w : World} {sl : Option (Nat × Nat)} {t : Trace} {W : World} (h : To Tryz.prog Shun D K gs w sl t)
    (hk : ∀ (gs' : Array Goroutine) (g' : Goroutine) (wp' w' : World) (sl' : Option (Nat × Nat)) (t' : Trace) (q' : Nat → Nat), K g' wp' → Fr Tryz.prog Shun D g' wp' gs' w' t' q' → Ends W gs' w' sl' t') : Ends W gs w sl t := by
  obtain ⟨N, gs', g', wp', w', sl', t', q', h1, _, h3, h4⟩ := h
  exact good_from h1 (hk _ _ _ _ sl' _ _ h3 h4)
/-- The same heap below: what the twin keeps, the true world keeps. -/
theorem real_keep {D : DS} {u w u' w' : World} {B : Nat} (h : Pz D u w) (h' : Pz D u' w') (hb : ∀ b, b < B → u'.heap[b]? = u.heap[b]?) : ∀ b, b < B → w'.heap[b]? = w.heap[b]? := fun b hb' => pz_same h h' (hb b hb')
section
variable {Shun : Loc → Prop} {D : DS} {W : World}
/-- What is held of the true world against the world of the call. -/
structure Truth (W w wp : World) : Prop where
  os : wp.os = W.os
  output : wp.output = W.output
  size : W.heap.size ≤ wp.heap.size
  heap : ∀ b, b < W.heap.size → w.heap[b]? = W.heap[b]?
theorem Truth.next {w wp w' wp' : World} {B : Nat} (h : Truth W w wp) (hz : Pz D (tp wp w.tape w.drawn) w) (hz' : Pz D (tp wp' w'.tape w'.drawn) w') (hb : Bel B wp wp') (hB : W.heap.size ≤ B) : Truth W w' wp' :=
  ⟨hb.to.os.trans h.os, hb.to.output.trans h.output, Nat.le_trans h.size hb.size, fun b hb' => (pz_same hz hz' (hb.block b (by omega))).trans (h.heap b hb')⟩

theorem Truth.tp {w wp : World} {T : Nat → Question → Nat} {d : Nat} (h : Truth W w wp) : Truth W w (Go.Proofs.YtafhpbghogdipaaGreatDoor.tp wp T d) := ⟨h.os, h.output, h.size, h.heap⟩
/-- The law's last step: it gives 'true'. -/
theorem end_of {f : FuncId} {fn : Func} {r : Tmp} (hf : Tryz.prog.funcs[f]? = some fn) (hr : fn.results = #[.tmp r]) (hi : ¬ 2 = f) {a : Act} {todo : List Item} {gs : Array Goroutine} {w wp : World} {t : Trace} {q : Nat → Nat} (sl : Option (Nat × Nat)) (hd : a.defers = []) (hv : a.tmps.getD r undef = .bool true)
    (hF : Fr Tryz.prog Shun D (G { (base f).at a todo with mode := .returning } []) wp gs w t q) (hR : Truth W w wp) : Ends W gs w sl t := by
  have hres : ∀ w : World, (results fn a.tmps).run Tryz.prog w = .ok (.bool true) w := fun w => by
    rw [results_tmp (t := r) hr]
    rw [hv]
  have hev : ∀ w : World, (results fn a.tmps).events Tryz.prog w #[] = #[] := fun w => events_results_tmp (t := r) hr _ _
  refine end_beside (v := .bool true) (Post := PostL W) (a := G { (base f).at a todo with mode := .returning } []) rfl (fun w => ?_) _ gs w sl t q (Nat.le_refl _) hF.h0 hF.lv hF.past fun d => ⟨rfl, ⟨?_, rfl, ?_, ?_, fun b hb => hR.heap b hb⟩⟩
  · have es : seen Tryz.prog f #[] = #[] := by simp [seen]
    simp [G, stepG, unwind, Frame.at, base, hd, hf, hres, hev, doReturn, GStep.after, hi, es]
  · exact hF.pz.os.symm.trans hR.os
  · exact hF.pz.output.symm.trans hR.output
  · show W.heap.size ≤ w.heap.size
    rw [← hF.pz.size]
    exact hR.size

end

theorem mv_map (zss : List (List Int)) (n : Nat) : mV (mAt zss) n = (mI zss n).map (Value.int .u64) := by simp [mV, mI]
theorem mi_len (zss : List (List Int)) (n : Nat) : (mI zss n).length = n := by simp [mI]
theorem RowsAt.bel {w w' : World} {C n : Nat} {rows : Nat → List Int} (h : RowsAt w w.heap.size C n rows) (hb : Bel w.heap.size w w') : RowsAt w' w'.heap.size C n rows := by
  have h1 : RowsAt (tp w' w.tape 0) w.heap.size C n rows := h.below hb
  refine ⟨fun i hi => ?_, h.len, Nat.lt_of_lt_of_le h.lt hb.size⟩
  obtain ⟨A, c, e1, e2, e3, e4, e5⟩ := h1.at_ i hi
  exact ⟨A, c, e1, e2, e3, e4, row_of_tp (e5.more hb.size)⟩
theorem rowsAt_tp {w : World} {B C n : Nat} {rows : Nat → List Int} {T : Nat → Question → Nat} {d : Nat} (h : RowsAt w B C n rows) : RowsAt (tp w T d) B C n rows := ⟨h.at_, h.len, h.lt⟩

theorem cell_psn {W : World} {a : Addr} {v : Value} (h : W.cell? a = some v) : (psn (Dd (fun _ => False) W) W).cell? a = some v := by
  have hb : ¬ (Dd (fun _ => False) W).dead a.block := by
    rintro (h2 | ⟨c, e, h2⟩)
    · exact h2
    · unfold World.cell? at h
      rw [h2] at h
      cases h
  exact cell_of_heap (psn_out hb) h
theorem row_psn {W : World} {B : Nat} {A : Option Addr} {xs : List Value} (h : Row W B A xs) : Row (psn (Dd (fun _ => False) W) W) B A xs := by
  intro hn
  obtain ⟨b, off, e, hb, hc⟩ := h hn
  exact ⟨b, off, e, hb, fun j v hj => cell_psn (hc j v hj)⟩
theorem argM_psn {W : World} {A : Option Addr} {n c : Nat} {zss : List (List Int)} (h : ArgM W A n c zss) : ArgM (psn (Dd (fun _ => False) W) W) A n c zss := by
  refine ⟨⟨h.1.len, h.1.nil, fun k hk => ?_, h.1.fit⟩, h.2⟩
  obtain ⟨b, off, C, c, e, h1, h2, h3, h4, h5, h6⟩ := h.1.at_ k hk
  rw [psn_size]
  exact ⟨b, off, C, c, e, h1, cell_psn h2, h3, h4, row_psn h5, h6⟩

section
variable {Shun : Loc → Prop} {D : DS} {W : World}
theorem lift_plain {f : FuncId} {fn : Func} {c : Code} {args : Array Value} {ca : Frame} {cs : List Frame} {wp : World} {R : Value → World → Prop} (hS : ∀ l, Shun l → ∃ a, l = .cell a ∧ D a.block) (hf : Tryz.prog.funcs[f]? = some fn) (hb : fn.body = some c) (hSf : SP f = true)
    (hR : ∀ v w T d, R v w → R v (tp w T d))
    (hwp : ∀ T, c.wp Tryz.prog (bodyPost Tryz.prog fn fun e w' => ∃ v, e = .returned v ∧ R v w' ∧ Below wp.heap.size (tp wp T 0) w') { tmps := args ++ Array.replicate (fn.ntmps - args.size) undef, defers := [] } (tp wp T 0))
    {gs : Array Goroutine} {w : World} (sl : Option (Nat × Nat)) {t : Trace} {q : Nat → Nat} (hF : Fr Tryz.prog Shun D (G (Frame.enter Tryz.prog f args .normal) (ca :: cs)) wp gs w t q) (hT : Truth W w wp)
    (hk : ∀ (gs' : Array Goroutine) (wp' w' : World) (sl' : Option (Nat × Nat)) (t' : Trace) (q' : Nat → Nat) (v : Value), R v wp' → Bel wp.heap.size wp wp' → Truth W w' wp' → Fr Tryz.prog Shun D (G (ca.finish v) cs) wp' gs' w' t' q' → Ends W gs' w' sl' t') : Ends W gs w sl t := by
  refine (lift_fun (R := fun v w' => R v w' ∧ Bel wp.heap.size wp w') hSP hS hf hb hSf (fun v w T d h => ⟨hR v w T d h.1, h.2.tp T d⟩) (fun T => wp_mono (hwp T) (fun e a w h => by
      cases e with
      | normal => obtain ⟨p1, v, p2, v', p3, p4, p5⟩ := h; exact ⟨p1, v, p2, v', p3, p4, Bel.of p5⟩
      | ret => obtain ⟨p1, v, p2, v', p3, p4, p5⟩ := h; exact ⟨p1, v, p2, v', p3, p4, Bel.of p5⟩
      | panic ch => obtain ⟨p1, v', p3, _⟩ := h; cases p3
      | outgrown => obtain ⟨v', p3, _⟩ := h; cases p3
      | exit _ => exact h.elim
      | goto _ => exact h.elim)) sl hF).ends ?_
  rintro gs' g' wp' w' sl' t' q' ⟨v, rfl, hr, hb'⟩ hF'
  exact hk gs' wp' w' sl' t' q' v hr hb' (hT.next hF.pz hF'.pz hb' hT.size) hF'
/-- A quiet walk. -/
theorem walk_quiet {g g' : Goroutine} {wp : World} {gs : Array Goroutine} {w : World} {t : Trace} {q : Nat → Nat} (sl : Option (Nat × Nat)) (hF : Fr Tryz.prog Shun D g wp gs w t q) (hT : Truth W w wp) {n : Nat} (hG : ∀ w, True → Goes Tryz.prog true AtRel DC0 (fun g1 _ => g1 = g') n g w)
    (hk : ∀ (gs' : Array Goroutine) (w' : World) (sl' : Option (Nat × Nat)) (t' : Trace) (q' : Nat → Nat), Truth W w' wp → Fr Tryz.prog Shun D g' wp gs' w' t' q' → Ends W gs' w' sl' t') : Ends W gs w sl t := by
  refine (quiet_to sl hF hG).ends ?_
  rintro gs' g2 wp' w' sl' t' q' ⟨rfl, rfl⟩ hF'
  exact hk gs' w' sl' t' q' (hT.next hF.pz hF'.pz (Bel.refl wp'.heap.size wp') hT.size) hF'
/-- A frame gives its results to its caller. -/
theorem walk_leave (hS : ∀ l, Shun l → ∃ a, l = .cell a ∧ D a.block) {f : FuncId} {a : Act} {todo : List Item} {c : Frame} {cs : List Frame} (hd : a.defers = []) {wp : World} {gs : Array Goroutine} {w : World} {t : Trace} {q : Nat → Nat} (sl : Option (Nat × Nat))
    {fn : Func} {v : Value} (hf : Tryz.prog.funcs[f]? = some fn) (hv : ∀ T d, (results fn a.tmps).run Tryz.prog (tp wp T d) = .ok v (tp wp T d))
    (hF : Fr Tryz.prog Shun D (G { (base f).at a todo with mode := .returning } (c :: cs)) wp gs w t q) (hT : Truth W w wp)
    (hk : ∀ (gs' : Array Goroutine) (w' : World) (sl' : Option (Nat × Nat)) (t' : Trace) (q' : Nat → Nat), Truth W w' wp → Fr Tryz.prog Shun D (G (c.finish v) cs) wp gs' w' t' q' → Ends W gs' w' sl' t') : Ends W gs w sl t := by
  refine (leave_beside hS (b := base f) rfl hd sl hf hv hF).ends ?_
  rintro gs2 g2' wp2 w2 sl2 tt2 q2 ⟨rfl, T2, d2, rfl⟩ hF2'
  have hF2 := hF2'.tp
  exact hk gs2 w2 sl2 tt2 q2 (hT.next hF.pz hF2.pz (Bel.refl wp.heap.size wp) hT.size) hF2
/-- Plain code ahead of a rest that is not. -/
theorem walk_code (hS : ∀ l, Shun l → ∃ a, l = .cell a ∧ D a.block) {f : FuncId} (hr : resOk Tryz.prog f = true) {a : Act} {c Z : Code} {k : List Item} {cs : List Frame} {wp : World} {Qn Qr : World → Act → World → Prop} (hd : a.defers = []) (hp : plainCode SP c = true)
    (hQn : ∀ a w T d, Qn wp a w → Qn wp a (tp w T d)) (hQr : ∀ a w T d, Qr wp a w → Qr wp a (tp w T d)) (hbn : ∀ a w, Qn wp a w → Bel wp.heap.size wp w) (hbr : ∀ a w, Qr wp a w → Bel wp.heap.size wp w)
    (hwp : ∀ T, c.wp Tryz.prog (QQ (Qn wp) (Qr wp)) a (tp wp T 0))
    {gs : Array Goroutine} {w : World} (sl : Option (Nat × Nat)) {t : Trace} {q : Nat → Nat} (hF : Fr Tryz.prog Shun D (G ((base f).at a (.code (graft c Z) :: k)) cs) wp gs w t q) (hT : Truth W w wp)
    (hk : ∀ (gs' : Array Goroutine) (wp' w' : World) (sl' : Option (Nat × Nat)) (t' : Trace) (q' : Nat → Nat) (a' : Act), Qn wp a' wp' → Truth W w' wp' → Fr Tryz.prog Shun D (G ((base f).at a' (.code Z :: k)) cs) wp' gs' w' t' q' → Ends W gs' w' sl' t')
    (hk2 : ∀ (gs' : Array Goroutine) (wp' w' : World) (sl' : Option (Nat × Nat)) (t' : Trace) (q' : Nat → Nat) (a' : Act) (todo : List Item), Qr wp a' wp' → Truth W w' wp' → Fr Tryz.prog Shun D (G { (base f).at a' todo with mode := .returning } cs) wp' gs' w' t' q' → Ends W gs' w' sl' t') : Ends W gs w sl t := by
  refine (lift_code (b := base f) (Qn := Qn wp) (Qr := Qr wp) hSP hS rfl hr hd hp hQn hQr hwp sl hF).ends ?_
  rintro gs1 g1' wp1 w1 sl1 tt1 q1 (⟨a', rfl, h⟩ | ⟨a', todo, rfl, h⟩) hF1
  · exact hk gs1 wp1 w1 sl1 tt1 q1 a' h (hT.next hF.pz hF1.pz (hbn _ _ h) hT.size) hF1
  · exact hk2 gs1 wp1 w1 sl1 tt1 q1 a' todo h (hT.next hF.pz hF1.pz (hbr _ _ h) hT.size) hF1
/-- Plain code to the function's end. -/
theorem walk_last (hS : ∀ l, Shun l → ∃ a, l = .cell a ∧ D a.block) {f : FuncId} (hr : resOk Tryz.prog f = true) {a : Act} {c : Code} {K : List Item} {cs : List Frame} {wp : World} {Qr : World → Act → World → Prop} (hd : a.defers = []) (hp : plainCode SP c = true)
    (hQr : ∀ a w T d, Qr wp a w → Qr wp a (tp w T d)) (hbr : ∀ a w, Qr wp a w → Bel wp.heap.size wp w)
    (hwp : ∀ T, c.wp Tryz.prog (QQ (fun _ _ => False) (Qr wp)) a (tp wp T 0))
    {gs : Array Goroutine} {w : World} (sl : Option (Nat × Nat)) {t : Trace} {q : Nat → Nat} (hF : Fr Tryz.prog Shun D (G ((base f).at a (.code c :: K)) cs) wp gs w t q) (hT : Truth W w wp)
    (hk2 : ∀ (gs' : Array Goroutine) (wp' w' : World) (sl' : Option (Nat × Nat)) (t' : Trace) (q' : Nat → Nat) (a' : Act) (todo : List Item), Qr wp a' wp' → Truth W w' wp' → Fr Tryz.prog Shun D (G { (base f).at a' todo with mode := .returning } cs) wp' gs' w' t' q' → Ends W gs' w' sl' t') : Ends W gs w sl t := by
  refine (lift_last (b := base f) (Qn := fun _ _ => False) (Qr := Qr wp) hSP hS rfl hr hd hp (fun _ _ _ _ h => h.elim) hQr hwp sl hF).ends ?_
  rintro gs1 g1' wp1 w1 sl1 tt1 q1 (⟨a', _, h⟩ | ⟨a', todo, rfl, h⟩) hF1
  · exact h.elim
  · exact hk2 gs1 wp1 w1 sl1 tt1 q1 a' todo h (hT.next hF.pz hF1.pz (hbr _ _ h) hT.size) hF1
/-- The same, some blocks of ours turned. -/
theorem walk_lastB (hS : ∀ l, Shun l → ∃ a, l = .cell a ∧ D a.block) {f : FuncId} (hr : resOk Tryz.prog f = true) {a : Act} {c : Code} {K : List Item} {cs : List Frame} {wp : World} {Qr : World → Act → World → Prop} {B : Nat} (hB : W.heap.size ≤ B) (hd : a.defers = []) (hp : plainCode SP c = true)
    (hQr : ∀ a w T d, Qr wp a w → Qr wp a (tp w T d)) (hbr : ∀ a w, Qr wp a w → Bel B wp w)
    (hwp : ∀ T, c.wp Tryz.prog (QQ (fun _ _ => False) (Qr wp)) a (tp wp T 0))
    {gs : Array Goroutine} {w : World} (sl : Option (Nat × Nat)) {t : Trace} {q : Nat → Nat} (hF : Fr Tryz.prog Shun D (G ((base f).at a (.code c :: K)) cs) wp gs w t q) (hT : Truth W w wp)
    (hk2 : ∀ (gs' : Array Goroutine) (wp' w' : World) (sl' : Option (Nat × Nat)) (t' : Trace) (q' : Nat → Nat) (a' : Act) (todo : List Item), Qr wp a' wp' → Truth W w' wp' → Fr Tryz.prog Shun D (G { (base f).at a' todo with mode := .returning } cs) wp' gs' w' t' q' → Ends W gs' w' sl' t') : Ends W gs w sl t := by
  refine (lift_last (b := base f) (Qn := fun _ _ => False) (Qr := Qr wp) hSP hS rfl hr hd hp (fun _ _ _ _ h => h.elim) hQr hwp sl hF).ends ?_
  rintro gs1 g1' wp1 w1 sl1 tt1 q1 (⟨a', _, h⟩ | ⟨a', todo, rfl, h⟩) hF1
  · exact h.elim
  · exact hk2 gs1 wp1 w1 sl1 tt1 q1 a' todo h (hT.next hF.pz hF1.pz (hbr _ _ h) hB) hF1
/-- A region's rest. -/
theorem walk_ops (hS : ∀ l, Shun l → ∃ a, l = .cell a ∧ D a.block) {f : FuncId} (hr : resOk Tryz.prog f = true) {a : Act} {ops : Array Oper} {l : List Nat} {K : List Item} {cs : List Frame} {wp : World} {Qn : World → Act → World → Prop} {B : Nat} (hB : W.heap.size ≤ B) (hd : a.defers = []) (hp : (l.all fun i => ((ops[i]?).map fun o => plainOp SP o.op).getD true) = true)
    (hQn : ∀ a w T d, Qn wp a w → Qn wp a (tp w T d)) (hbn : ∀ a w, Qn wp a w → Bel B wp w)
    (hwp : ∀ T, wpOps Tryz.prog ops (QQ (Qn wp) (fun _ _ => False)) l a (tp wp T 0))
    {gs : Array Goroutine} {w : World} (sl : Option (Nat × Nat)) {t : Trace} {q : Nat → Nat} (hF : Fr Tryz.prog Shun D (G ((base f).at a (.inRegion ops l :: K)) cs) wp gs w t q) (hT : Truth W w wp)
    (hk : ∀ (gs' : Array Goroutine) (wp' w' : World) (sl' : Option (Nat × Nat)) (t' : Trace) (q' : Nat → Nat) (a' : Act), Qn wp a' wp' → Truth W w' wp' → Fr Tryz.prog Shun D (G ((base f).at a' K) cs) wp' gs' w' t' q' → Ends W gs' w' sl' t') : Ends W gs w sl t := by
  refine (lift_ops (b := base f) (Qn := Qn wp) (Qr := fun _ _ => False) hSP hS rfl hr hd hp hQn (fun _ _ _ _ h => h.elim) hwp sl hF).ends ?_
  rintro gs1 g1' wp1 w1 sl1 tt1 q1 (⟨a', rfl, h⟩ | ⟨a', todo, _, h⟩) hF1
  · exact hk gs1 wp1 w1 sl1 tt1 q1 a' h (hT.next hF.pz hF1.pz (hbn _ _ h) hB) hF1
  · exact h.elim
/-- One plain operation that gives a value. -/
theorem walk_op (hS : ∀ l, Shun l → ∃ a, l = .cell a ∧ D a.block) {f : FuncId} {tmps : Array Value} {ops : Array Oper} {i : Nat} {rest : List Nat} {o : Oper} {K : List Item} {cs : List Frame} {wp : World} {v : Value} (ho : ops[i]? = some o) (hw : Region.wanted o (yielded ops tmps) = true) (hpo : plainOp SP o.op = true)
    (hx : ∀ T d, (execOp (fx f tmps (.inRegion ops (i :: rest)) []).eval o).run Tryz.prog (tp wp T d) = .ok (.value v) (tp wp T d))
    {gs : Array Goroutine} {w : World} {t : Trace} {q : Nat → Nat} (sl : Option (Nat × Nat)) (hF : Fr Tryz.prog Shun D (G ((base f).at ⟨tmps, []⟩ (.inRegion ops (i :: rest) :: K)) cs) wp gs w t q) (hT : Truth W w wp)
    (hk : ∀ (gs' : Array Goroutine) (w' : World) (sl' : Option (Nat × Nat)) (t' : Trace) (q' : Nat → Nat), Truth W w' wp → Fr Tryz.prog Shun D (G (((base f).at ⟨tmps, []⟩ (.inRegion ops (i :: rest) :: K)).finish v) cs) wp gs' w' t' q' → Ends W gs' w' sl' t') : Ends W gs w sl t := by
  refine (op_beside hSP hS (f := f) (tmps := tmps) ho hw hpo hx sl hF).ends ?_
  rintro gs2 g2' wp2 w2 sl2 tt2 q2 ⟨rfl, T2, d2, rfl⟩ hF2'
  have hF2 := hF2'.tp
  exact hk gs2 w2 sl2 tt2 q2 (hT.next hF.pz hF2.pz (Bel.refl wp.heap.size wp) hT.size) hF2
/-- ████ common, from its call to its return. ████ -/
theorem walk_common (hS : ∀ l, Shun l → ∃ a, l = .cell a ∧ D a.block) {A1 A3 : Option Addr} {n c1 n2 c3 : Nat} {xs ys : List Int} {ca : Frame} {cs : List Frame} {wp : World} {gs : Array Goroutine} {w : World} {t : Trace} {q : Nat → Nat} (sl : Option (Nat × Nat)) (hn : n ≤ 20) (hn2 : n2 ≤ 20)
    (hx : Row wp wp.heap.size A1 (xs.map (Value.int .u64))) (hxl : xs.length = n) (hy : Row wp wp.heap.size A3 (ys.map (Value.int .u64))) (hyl : ys.length = n2)
    (hF : Fr Tryz.prog Shun D (G ((base 17).at ⟨#[.slice A1 n c1, .slice A3 n2 c3] ++ Array.replicate (24 - 2) undef, []⟩ [.code (bodyOf 17)]) (ca :: cs)) wp gs w t q) (hT : Truth W w wp)
    (hk : ∀ (gs' : Array Goroutine) (wp' w' : World) (sl' : Option (Nat × Nat)) (t' : Trace) (q' : Nat → Nat) (D' : DS) (Shun' : Loc → Prop) (C : Nat), (∀ l, Shun' l → ∃ a, l = .cell a ∧ D' a.block) → RowsAt wp' wp'.heap.size C n (rowsF xs ys n2) → Bel wp.heap.size wp wp' → Truth W w' wp' →
      Fr Tryz.prog Shun' D' (G (ca.finish (.slice (some ⟨C, 0, none⟩) n n)) cs) wp' gs' w' t' q' → Ends W gs' w' sl' t') : Ends W gs w sl t := by
  have hD : ∀ b, D b → b < wp.heap.size := fun b hb => by
    have h1 := hF.pz.lo b hb
    have h2 := hF.pz.size
    have h3 : (tp wp w.tape w.drawn).heap.size = wp.heap.size := rfl
    omega
  rw [← graft16] at hF
  refine walk_code hS (Z := Zc) (Qn := fun w0 => QE (.slice A1 n c1) (.slice A3 n2 c3) n w0) (Qr := fun _ _ _ => False) (by kernel_rfl) rfl plain16 (fun a w T d h => QE.tp a w T d h) (fun _ _ _ _ h => h.elim) (fun a w h => h.2.1) (fun _ _ h => h.elim)
    (fun T => wp_mono (commonE A1 A3 n c1 n2 c3 (tp wp T 0) hn) (fun e a w h => h.imp (fun ⟨h0, h1, h2, h3⟩ => ⟨h0, h1, bel_base h2, h3⟩) (fun h => h))) sl hF hT ?_ (fun _ _ _ _ _ _ _ _ h => h.elim)
  intro gs5 wp5 w5 sl5 tt5 q5 a hQE hR5 hF5
  obtain ⟨N, gs6, w6, sl6, tt6, q6, D6, Sh6, g6', wp6, hrun, hS6, hF6, hback, hb6, hcell, hrw, hheap, _⟩ := phaseE (xs := xs) (ys := ys) sl5 hS hF5 hQE hD hn hn2 hx hxl hy hyl
  refine good_from hrun ?_
  have hR6 : Truth W w6 wp6 := ⟨hb6.to.os.trans hT.os, hb6.to.output.trans hT.output, Nat.le_trans hT.size hb6.size, fun b hb => (hheap b (Nat.lt_of_lt_of_le hb hT.size)).trans (hR5.heap b hb)⟩
  generalize hC : wp.heap.size + 1 = C at hcell hrw
  obtain ⟨⟨tmps, defers⟩, rfl, hd, t0, t1, t2, t3, t4, t6, s7, s8, s9, s10, s11, s12, s13, s14, s15, s16, s17, s18, s19, s20, s21, s22, s23, ht⟩ := hback
  have hd' : defers = [] := hd
  have ht' : tmps = _ := ht
  subst hd' ht'
  clear hd ht
  refine walk_last hS6 (Qr := fun w0 => QV (.slice (some ⟨C, 0, none⟩) n n) w0) (by kernel_rfl) rfl plainE10 (fun a w T d h => QV.tp a w T d h) (fun a w h => h.2.2)
    (fun T => wp_mono (endE (wp.heap.size + 2) _ _ _ _ _ _ _ _ _ _ _ _ _ _ _ _ _ _ _ _ _ _ _ _ (tp wp6 T 0) hcell) (fun e a w h => h.imp (fun h => h) (fun ⟨h1, h2, h3, h4⟩ => ⟨h1, h2, h3, bel_base h4⟩))) sl6 hF6 hR6 ?_
  intro gs7 wp7 w7 sl7 tt7 q7 a todo hq hR7 hF7
  obtain ⟨h1, h2, hb7⟩ := hq
  have hres : ∀ T d, (results Tryz.f17 a.tmps).run Tryz.prog (tp wp7 T d) = .ok (.slice (some ⟨C, 0, none⟩) n n) (tp wp7 T d) := fun T d => by
    rw [results_tmp (t := 4) (by kernel_rfl)]
    rw [h2]
  refine walk_leave hS6 h1 sl7 Tryz.func17 hres hF7 hR7 ?_
  intro gs8 w8 sl8 tt8 q8 hR8 hF8
  exact hk gs8 wp7 w8 sl8 tt8 q8 D6 Sh6 C hS6 (hrw.bel hb7) (hb6.trans (hb7.mono hb6.size)) hR8 hF8
/-- Concat, carried out. -/
theorem walk_concat (hS : ∀ l, Shun l → ∃ a, l = .cell a ∧ D a.block) {C n : Nat} {rows : Nat → List Int} {ca : Frame} {cs : List Frame} {wp : World} {gs : Array Goroutine} {w : World} {t : Trace} {q : Nat → Nat} (sl : Option (Nat × Nat)) (hrows : RowsAt wp wp.heap.size C n rows) (hn : n ≤ 20)
    (hF : Fr Tryz.prog Shun D (G (Frame.enter Tryz.prog 16 #[.slice (some ⟨C, 0, none⟩) n n] .normal) (ca :: cs)) wp gs w t q) (hT : Truth W w wp)
    (hk : ∀ (gs' : Array Goroutine) (wp' w' : World) (sl' : Option (Nat × Nat)) (t' : Trace) (q' : Nat → Nat) (v : Value), OwnC wp' wp.heap.size v (catR rows n) → Bel wp.heap.size wp wp' → Truth W w' wp' → Fr Tryz.prog Shun D (G (ca.finish v) cs) wp' gs' w' t' q' → Ends W gs' w' sl' t') : Ends W gs w sl t := by
  obtain ⟨cd, hcd, _⟩ := concat_wp C n n rows wp hrows hn
  refine lift_plain (R := fun v w' => OwnC w' wp.heap.size v (catR rows n)) hS Tryz.func16 hcd (by kernel_rfl) (fun v w T d h => h) (fun T => ?_) sl hF hT hk
  obtain ⟨cd', hcd', hw⟩ := concat_wp C n n rows (tp wp T 0) (rowsAt_tp hrows) hn
  obtain rfl : cd' = cd := Option.some.inj (hcd'.symm.trans hcd)
  exact hw
/-- Contains, carried out. -/
theorem walk_contains (hS : ∀ l, Shun l → ∃ a, l = .cell a ∧ D a.block) {A : Option Addr} {c B : Nat} {zs : List Int} {ca : Frame} {cs : List Frame} {wp : World} {gs : Array Goroutine} {w : World} {t : Trace} {q : Nat → Nat} (sl : Option (Nat × Nat)) (hrow : Row wp B A (zs.map (Value.int .u64))) (hlen : zs.length ≤ 1000000)
    (hF : Fr Tryz.prog Shun D (G (Frame.enter Tryz.prog 15 #[.slice A zs.length c, .int .u64 0] .normal) (ca :: cs)) wp gs w t q) (hT : Truth W w wp)
    (hk : ∀ (gs' : Array Goroutine) (wp' w' : World) (sl' : Option (Nat × Nat)) (t' : Trace) (q' : Nat → Nat), Bel wp.heap.size wp wp' → Truth W w' wp' → Fr Tryz.prog Shun D (G (ca.finish (.bool (hasZ zs zs.length))) cs) wp' gs' w' t' q' → Ends W gs' w' sl' t') : Ends W gs w sl t := by
  obtain ⟨cd2, hcd2, _⟩ := contains_wp A _ c zs wp B hrow rfl hlen
  refine lift_plain (R := fun v w' => v = .bool (hasZ zs zs.length)) hS Tryz.func15 hcd2 (by kernel_rfl) (fun v w T d h => h) (fun T => ?_) sl hF hT (fun gs' wp' w' sl' t' q' v hv hb hT' hF' => by subst hv; exact hk gs' wp' w' sl' t' q' hb hT' hF')
  obtain ⟨cd', hcd', hw⟩ := contains_wp A _ c zs (tp wp T 0) B (row_tp hrow) rfl hlen
  obtain rfl : cd' = cd2 := Option.some.inj (hcd'.symm.trans hcd2)
  refine wp_mono hw (fun e a w h => ?_)
  cases e with
  | normal => obtain ⟨p1, v, p2, p3, rfl⟩ := h; exact ⟨p1, v, p2, v, rfl, Ending.returned.inj p3, Below.refl _ _⟩
  | ret => obtain ⟨p1, v, p2, p3, rfl⟩ := h; exact ⟨p1, v, p2, v, rfl, Ending.returned.inj p3, Below.refl _ _⟩
  | panic ch => obtain ⟨p1, p3, _⟩ := h; cases p3
  | outgrown => obtain ⟨p3, _⟩ := h; cases p3
  | exit _ => exact h.elim
  | goto _ => exact h.elim
end
end Go.Proofs.YtafhpbghogdipaaGreatDoor
