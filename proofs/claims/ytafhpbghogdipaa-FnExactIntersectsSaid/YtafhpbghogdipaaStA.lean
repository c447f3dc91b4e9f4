/- St1 St2 St3 (merge.py). -/
import Derived.Test.YtafhpbghogdipaaLfC
import Derived.Test.YtafhpbghogdipaaIn4
import Derived.Test.YtafhpbghogdipaaCw16
/- The plain functions that the law reaches. -/
namespace Go.Proofs.Ytafhpbghogdipaa
def plainL : List FuncId := [4, 5, 6, 8, 9, 10,
  11, 12, 13, 14, 15,
  17, 18, 19, 20, 21, 22,
  23, 24, 29, 30, 31,
  32, 33, 52, 53, 54]
def SP (f : FuncId) : Bool := plainL.contains f
theorem sp_all : plainL.all (fun f => okFunc Try.prog SP f) = true := by kernel_rfl
theorem hSP : ∀ f, SP f = true → okFunc Try.prog SP f = true := fun f h => List.all_eq_true.1 sp_all f (by simpa [SP] using h)
/-- The first parts of a sequence; the rest. -/
def headN : Nat → Code → Code
  | 0, .seq a _ => a
  | n + 1, .seq a b => .seq a (headN n b)
  | _, c => c
def tailN : Nat → Code → Code
  | 0, .seq _ b => b
  | n + 1, .seq _ b => tailN n b
  | _, c => c
noncomputable def bodyOf (f : FuncId) : Code := ((Try.prog.funcs[f]?).bind (·.body)).getD .skip
theorem graft3 : graft (headN 8 (bodyOf 3)) (tailN 8 (bodyOf 3)) = bodyOf 3 := by kernel_rfl
theorem graft7 : graft (headN 1 (bodyOf 7)) (tailN 1 (bodyOf 7)) = bodyOf 7 := by kernel_rfl
theorem graft16 : graft (headN 1 (bodyOf 16)) (tailN 1 (bodyOf 16)) = bodyOf 16 := by kernel_rfl
theorem plain3 : plainCode SP (headN 8 (bodyOf 3)) = true := by kernel_rfl
theorem plain7 : plainCode SP (headN 1 (bodyOf 7)) = true := by kernel_rfl
theorem plain16 : plainCode SP (headN 1 (bodyOf 16)) = true := by kernel_rfl
end Go.Proofs.Ytafhpbghogdipaa

/- The law ahead of the call of impl.Intersects: lone. -/
namespace Go.Proofs.Ytafhpbghogdipaa
open Go.RowKit
set_option maxHeartbeats 4000000
set_option linter.unusedVariables false

/-- Below, whatever the tape. -/
def Bel (B : Nat) (w w' : World) : Prop := Below B w (tp w' w.tape 0)
theorem Bel.of {B : Nat} {w w' : World} {T : Nat → Question → Nat} {d : Nat} (h : Below B (tp w T d) w') : Bel B w w' := ⟨h.os, rfl, h.output, h.size, h.block⟩
theorem Bel.of' {B : Nat} {w w' : World} (h : Below B w w') : Bel B w w' := ⟨h.os, rfl, h.output, h.size, h.block⟩
theorem Bel.to {B : Nat} {w w' : World} (h : Bel B w w') : Below B w (tp w' w.tape 0) := h
theorem Bel.size {B : Nat} {w w' : World} (h : Bel B w w') : w.heap.size ≤ w'.heap.size := h.to.size
theorem Bel.block {B : Nat} {w w' : World} (h : Bel B w w') : ∀ k, k < B → w'.heap[k]? = w.heap[k]? := h.to.block
theorem Bel.tp {B : Nat} {w w' : World} (h : Bel B w w') (T : Nat → Question → Nat) (d : Nat) : Bel B w (tp w' T d) := ⟨h.to.os, rfl, h.to.output, h.to.size, h.to.block⟩
theorem Bel.trans {B : Nat} {w w' w'' : World} (h : Bel B w w') (k : Bel B w' w'') : Bel B w w'' := ⟨k.to.os.trans h.to.os, rfl, k.to.output.trans h.to.output, Nat.le_trans h.size k.size, fun b hb => (k.block b hb).trans (h.block b hb)⟩
theorem Bel.mono {B B' : Nat} {w w' : World} (h : Bel B w w') (hB : B' ≤ B) : Bel B' w w' := ⟨h.to.os, rfl, h.to.output, h.size, fun b hb => h.block b (by omega)⟩
theorem Bel.refl (B : Nat) (w : World) : Bel B w w := ⟨rfl, rfl, rfl, Nat.le_refl _, fun _ _ => rfl⟩
section
variable {w : World} {A : Option Addr} {n c g B : Nat} {zss : List (List Int)} {T : Nat → Question → Nat} {d : Nat}
theorem mat_tp (h : Mat w B A n zss) : Mat (tp w T d) B A n zss := ⟨h.len, h.nil, h.at_, h.fit⟩
theorem mat_of_tp (h : Mat (tp w T d) B A n zss) : Mat w B A n zss := ⟨h.len, h.nil, h.at_, h.fit⟩
theorem argM_tp (h : ArgM w A n c zss) : ArgM (tp w T d) A n c zss := ⟨mat_tp h.1, h.2⟩
theorem cpM_tp (h : CpM w g n zss) : CpM (tp w T d) g n zss := ⟨h.mp, h.len, h.fit, h.ok⟩
theorem cpM_of_tp (h : CpM (tp w T d) g n zss) : CpM w g n zss := ⟨h.mp, h.len, h.fit, h.ok⟩
theorem CpM.bel {w' : World} (h : CpM w g n zss) (hb : Bel w.heap.size w w') : CpM w' g n zss := cpM_of_tp (h.below hb)
theorem ArgM.bel {w' : World} (h : ArgM w A n c zss) (hb : Bel w.heap.size w w') : ArgM w' A n c zss := ⟨mat_of_tp ((h.1.below hb).more hb.size), h.2⟩
end

section
variable (A : Option Addr) (n c : Nat) (zss : List (List Int)) (A2 : Option Addr) (n2 c2 : Nat) (yss : List (List Int))
/-- The law stands ahead of the call. -/
def QA (w0 : World) (a : Act) (w : World) : Prop :=
  ∃ (v5 d10 d11 d12 d13 d14 d15 d16 d17 d18 d19 d20 d21 d22 d23 d24 d25 d26 d27 d28 : Value) (g0 g1 : Nat), a = ⟨#[.slice A n c, .slice A2 n2 c2, undef, undef, .bool false, v5, .bool (meetB zss yss n n2), .slice (some ⟨g0, 0, none⟩) n n, .slice (some ⟨g1, 0, none⟩) n2 n2, undef, d10, d11, d12, d13, d14, d15, d16, d17, d18, d19, d20, d21, d22, d23, d24, d25, d26, d27, d28, undef, undef, undef, undef, undef, undef, undef, undef, undef, undef, undef, undef, undef, undef, undef, undef], []⟩ ∧
    CpM w g0 n zss ∧ CpM w g1 n2 yss ∧ SzOk zss n ∧ SzOk yss n2 ∧ Bel w0.heap.size w0 w
/-- The law is about to answer 'true'. -/
def QR (f : FuncId) (r : Tmp) (w0 : World) (a : Act) (w : World) : Prop := a.defers = [] ∧ a.tmps.getD r undef = .bool true ∧ Bel w0.heap.size w0 w
theorem QA.tp {w0 : World} (a : Act) (w : World) (T : Nat → Question → Nat) (d : Nat) (h : QA A n c zss A2 n2 c2 yss w0 a w) : QA A n c zss A2 n2 c2 yss w0 a (tp w T d) := by
  obtain ⟨v5, d10, d11, d12, d13, d14, d15, d16, d17, d18, d19, d20, d21, d22, d23, d24, d25, d26, d27, d28, g0, g1, e, h1, h2, h3, h4, h5⟩ := h
  exact ⟨v5, d10, d11, d12, d13, d14, d15, d16, d17, d18, d19, d20, d21, d22, d23, d24, d25, d26, d27, d28, g0, g1, e, cpM_tp h1, cpM_tp h2, h3, h4, h5.tp T d⟩
theorem QR.tp {f : FuncId} {r : Tmp} {w0 : World} (a : Act) (w : World) (T : Nat → Question → Nat) (d : Nat) (h : QR f r w0 a w) : QR f r w0 a (tp w T d) := ⟨h.1, h.2.1, h.2.2.tp T d⟩
end
theorem lawA (A : Option Addr) (n c : Nat) (zss : List (List Int)) (A2 : Option Addr) (n2 c2 : Nat) (yss : List (List Int)) (w : World) (hM : ArgM w A n c zss) (hN : ArgM w A2 n2 c2 yss) :
    (headN 8 (bodyOf 3)).wp Try.prog (QQ (QA A n c zss A2 n2 c2 yss w) (QR 3 4 w)) ⟨#[.slice A n c, .slice A2 n2 c2] ++ Array.replicate (45 - 2) undef, []⟩ w := by
  have HQ := Lib.hid (rfl : QQ (QA A n c zss A2 n2 c2 yss w) (QR 3 4 w) = QQ (QA A n c zss A2 n2 c2 yss w) (QR 3 4 w))
  obtain ⟨Q, hQ⟩ : ∃ Q, Q = QQ (QA A n c zss A2 n2 c2 yss w) (QR 3 4 w) := ⟨_, rfl⟩
  rw [← hQ]
  clear HQ
  have HQ := Lib.hid hQ
  clear hQ
  simp only [bodyOf, Try.func3, Try.f3, headN, Option.bind_some, Option.getD_some, Array.replicate, List.replicate, List.append_toArray, List.cons_append, List.nil_append, Nat.reduceSub]
  go_wp2_with fail
  refine (szSS hM (by omega) (by omega)).mono ?_
  rintro e wz ⟨r, rfl, hwz, hr1, hz⟩
  subst hwz
  by_cases hr : r < 0
  · go_wp2_with fail
    rw [HQ.out]
    exact .inr ⟨rfl, rfl, rfl, Bel.refl _ _⟩
  replace hz := hz (by omega)
  go_wp2_with fail
  refine (szSS hN (by omega) (by omega)).mono ?_
  rintro e wz2 ⟨r2, rfl, hwz2, -, hz2⟩
  subst hwz2
  by_cases hr2 : r2 < 0
  · go_wp2_with fail
    rw [HQ.out]
    exact .inr ⟨rfl, rfl, rfl, Bel.refl _ _⟩
  replace hz2 := hz2 (by omega)
  go_wp2_with fail
  refine (copySS hM hz (Below.refl _ _)).mono ?_
  rintro e w1 ⟨rfl, C1, -, hb1⟩
  go_wp2_with fail
  refine (copySS hN hz2 hb1).mono ?_
  rintro e w2 ⟨rfl, C2, hb21, hb2⟩
  replace C1 := C1.below hb21
  clear hb1 hb21
  go_wp2_with fail
  refine (specMeet_any _ n n zss _ n2 n2 yss w2 C1.mat hz C2.mat hz2).mono ?_
  rintro e w3 ⟨rfl, hb3⟩
  replace hb3 := hb2.trans (hb3.mono hb2.size)
  clear C1 C2 hb2
  go_wp2_with fail
  refine (copySS hM hz hb3).mono ?_
  rintro e w4 ⟨rfl, C4, -, hb4⟩
  go_wp2_with fail
  refine (copySS hN hz2 hb4).mono ?_
  rintro e w5 ⟨rfl, C5, hb54, hb5⟩
  replace C4 := C4.below hb54
  clear hb4 hb54
  have HC4 := Lib.hid C4
  have HC5 := Lib.hid C5
  have HB := Lib.hid hb5
  go_wp2_with fail
  rw [HQ.out]
  exact .inl ⟨rfl, _, _, _, _, _, _, _, _, _, _, _, _, _, _, _, _, _, _, _, _, _, _, rfl, HC4.out, HC5.out, hz, hz2, Bel.of' HB.out⟩
end Go.Proofs.Ytafhpbghogdipaa

/- impl.Intersects ahead of its call of common; common ahead of its group: lone. -/
namespace Go.Proofs.Ytafhpbghogdipaa
open Go.RowKit
set_option maxHeartbeats 4000000
set_option linter.unusedVariables false

theorem row_tp {w : World} {B : Nat} {A : Option Addr} {xs : List Value} {T : Nat → Question → Nat} {d : Nat} (h : Row w B A xs) : Row (tp w T d) B A xs := h
theorem row_of_tp {w : World} {B : Nat} {A : Option Addr} {xs : List Value} {T : Nat → Question → Nat} {d : Nat} (h : Row (tp w T d) B A xs) : Row w B A xs := h
section
variable (g0 n : Nat) (zss : List (List Int)) (g1 n2 : Nat) (yss : List (List Int))
/-- impl.Intersects stands ahead of the call. -/
def QC (w0 : World) (a : Act) (w : World) : Prop :=
  ∃ (v1 v2 t8 t9 t10 t11 t12 t13 t14 : Value), a = ⟨#[.slice (some ⟨g0, 0, none⟩) n n, .slice (some ⟨g1, 0, none⟩) n2 n2, undef, undef, .bool false, v1, v2, .bool (famB zss && famB yss), t8, t9, t10, t11, t12, t13, t14, undef, undef, undef, undef, undef, undef, undef, undef, undef], []⟩ ∧
    Bel w0.heap.size w0 w ∧
    ((famB zss && famB yss) = true → ∃ A1 c1 A2 c2, v1 = .slice A1 n c1 ∧ v2 = .slice A2 n2 c2 ∧ n ≤ c1 ∧ n2 ≤ c2 ∧ Row w w.heap.size A1 (mV (mAt zss) n) ∧ Row w w.heap.size A2 (mV (mAt yss) n2))
theorem QC.tp {w0 : World} (a : Act) (w : World) (T : Nat → Question → Nat) (d : Nat) (h : QC g0 n zss g1 n2 yss w0 a w) : QC g0 n zss g1 n2 yss w0 a (tp w T d) := by
  obtain ⟨v1, v2, t8, t9, t10, t11, t12, t13, t14, e, h1, h2⟩ := h
  exact ⟨v1, v2, t8, t9, t10, t11, t12, t13, t14, e, h1.tp T d, h2⟩
end
theorem implC (g0 n : Nat) (zss : List (List Int)) (g1 n2 : Nat) (yss : List (List Int)) (w : World) (h1 : CpM w g0 n zss) (h2 : CpM w g1 n2 yss) :
    (headN 1 (bodyOf 7)).wp Try.prog (QQ (QC g0 n zss g1 n2 yss w) (fun _ _ => False)) ⟨#[.slice (some ⟨g0, 0, none⟩) n n, .slice (some ⟨g1, 0, none⟩) n2 n2] ++ Array.replicate (24 - 2) undef, []⟩ w := by
  obtain ⟨Q, hQ⟩ : ∃ Q, Q = QQ (QC g0 n zss g1 n2 yss w) (fun _ _ => False) := ⟨_, rfl⟩
  rw [← hQ]
  have HQ := Lib.hid hQ
  clear hQ
  have HC := Lib.hid (readFamilies_any _ n n zss _ n2 n2 yss w h1.mat h1.ok h2.mat h2.ok)
  simp only [bodyOf, Try.func7, Try.f7, headN, Option.bind_some, Option.getD_some, Array.replicate, List.replicate, List.append_toArray, List.cons_append, List.nil_append, Nat.reduceSub]
  go_wp2_with fail
  refine HC.out.mono ?_
  rintro e w1 ⟨hb, v1, v2, rfl, hr⟩
  have HB := Lib.hid hb
  have HR := Lib.hid hr
  clear hb hr
  go_wp2
  rw [HQ.out]
  exact .inl ⟨rfl, v1, v2, _, _, _, _, _, _, _, rfl, Bel.of' HB.out, HR.out⟩

/-- common stands ahead of its group. -/
def QE (x y : Value) (n : Nat) (w0 : World) (a : Act) (w : World) : Prop :=
  a = ⟨#[x, y, undef, .pointer (some ⟨w0.heap.size, 0, none⟩), .slice none 0 0, .pointer (some ⟨w0.heap.size + 2, 0, none⟩), undef, undef, undef, x, .int .i64 n, .slice (some ⟨w0.heap.size + 1, 0, none⟩) n n, undef, undef, undef, undef, undef, undef, undef, undef, undef, undef, undef, undef], []⟩ ∧
    Bel w0.heap.size w0 w ∧ w.heap.size = w0.heap.size + 3 ∧ w.cell? ⟨w0.heap.size, 0, none⟩ = some y ∧ w.cell? ⟨w0.heap.size + 2, 0, none⟩ = some (.slice (some ⟨w0.heap.size + 1, 0, none⟩) n n) ∧
    w.heap[w0.heap.size + 1]? = some (.cells (Array.replicate n (.slice none 0 0)) 30)
theorem QE.tp {x y : Value} {n : Nat} {w0 : World} (a : Act) (w : World) (T : Nat → Question → Nat) (d : Nat) (h : QE x y n w0 a w) : QE x y n w0 a (tp w T d) := ⟨h.1, h.2.1.tp T d, h.2.2⟩
theorem three (w : World) (o1 o2 o3 : Obj) : (((w.alloc o1).alloc o2).alloc o3).heap[w.heap.size]? = some o1 ∧ (((w.alloc o1).alloc o2).alloc o3).heap[w.heap.size + 1]? = some o2 ∧ (((w.alloc o1).alloc o2).alloc o3).heap[w.heap.size + 2]? = some o3 := by
  have s1 : (w.alloc o1).heap.size = w.heap.size + 1 := by simp
  have s2 : ((w.alloc o1).alloc o2).heap.size = w.heap.size + 2 := by simp
  have h2 := heap_alloc_new (w.alloc o1) o2
  have h3 := heap_alloc_new ((w.alloc o1).alloc o2) o3
  rw [s1] at h2
  rw [s2] at h3
  exact ⟨(heap_alloc_old _ _ (by omega)).trans ((heap_alloc_old _ _ (by omega)).trans (heap_alloc_new w o1)), (heap_alloc_old _ _ (by omega)).trans h2, h3⟩
theorem cell_one {w : World} {b : Nat} {v : Value} {t : TypeId} (h : w.heap[b]? = some (.cells #[v] t)) : w.cell? ⟨b, 0, none⟩ = some v := by
  simp [World.cell?, h]
theorem crews_info : (Try.prog.info? 30).map (fun i => (i.zero, i.size, i.bytes)) = some (some (.slice none 0 0), 1, 24) := by kernel_rfl
theorem commonE (X A : Option Addr) (n cx ny cy : Nat) (w : World) (hn : n ≤ 20) :
    (headN 1 (bodyOf 16)).wp Try.prog (QQ (QE (.slice X n cx) (.slice A ny cy) n w) (fun _ _ => False)) ⟨#[.slice X n cx, .slice A ny cy] ++ Array.replicate (24 - 2) undef, []⟩ w := by
  obtain ⟨i0, hi, hz0, hz1, hz2⟩ := info_parts crews_info
  have hmk := fun w => make_rows 38 30 i0 Try.underlying38 hi hz0 hz1 hz2 n (by omega) w
  clear hi hz0 hz1 hz2
  obtain ⟨Q, hQ⟩ : ∃ Q, Q = QQ (QE (.slice X n cx) (.slice A ny cy) n w) (fun _ _ => False) := ⟨_, rfl⟩
  rw [← hQ]
  have HQ := Lib.hid hQ
  clear hQ
  simp only [bodyOf, Try.func16, Try.f16, headN, Option.bind_some, Option.getD_some, Array.replicate, List.replicate, List.append_toArray, List.cons_append, List.nil_append, Nat.reduceSub]
  go_wp2_with fail
  rw [HQ.out]
  refine .inl ⟨rfl, rfl, Bel.of' ((((Below.refl _ _).alloc (Nat.le_refl _) _).alloc (by simp) _).alloc (by simp; omega) _), by simp, ?_, ?_, ?_⟩
  · exact cell_one (three _ _ _ _).1
  · exact cell_one (three _ _ _ _).2.2
  · exact (three _ _ _ _).2.1
end Go.Proofs.Ytafhpbghogdipaa
