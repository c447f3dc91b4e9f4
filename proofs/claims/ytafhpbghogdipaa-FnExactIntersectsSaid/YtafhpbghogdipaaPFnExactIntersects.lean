/- The law 'FnExactIntersects' returns true at every input and leaves its arguments as they were: the statement 'Rows.FnExactIntersectsSaid'.
  Conditions: none beyond the statement's own. The walk is 'start_law' (YtafhpbghogdipaaStC); this text is the row's step around it. -/
import Derived.Test.YtafhpbghogdipaaOpen
import Derived.Conc.LeavingOf
import Derived.Test.YtafhpbghogdipaaStC
namespace Go.Proofs.Ytafhpbghogdipaa.fnExactIntersects
open Go.ChangeShapes Go.WideShapes Go.ChangeAt Go.RowKit
open Go.ChangeMaps (open_string shut_string)
set_option linter.unusedVariables false

theorem kept_tp {W w : World} {T : Nat → Question → Nat} {d : Nat} {may : MemPlace → Prop} (h : W.keptBut (tp w T d) may) : W.keptBut w may := by
  unfold World.keptBut at h ⊢
  exact h
theorem own : ownKnob Try.prog.godebug = none := by kernel_rfl
theorem laidOut : laidOutB Try.prog = true := by kernel_rfl

set_option maxRecDepth 100000 in
theorem lifted (os : Os) (started : os.Started) (H : Type) (enc : TypeId × Value → H) :
    ReturnsInLeavingWide {} Try.checked os 3 .any (Rows.fnExactIntersectsSpec.pre6 enc Try.prog Try.f3 Rows.fnExactIntersectsRow.domain false) (Rows.fnExactIntersectsSpec.post enc Try.prog Try.f3 false true false false) := by
  refine returnsInLeavingWide_of_change_sized (C := Try.checked) own started Try.func3
    (ChangeSpec.witness6 (enc := enc) (C := Try.checked) false ⟨#[], #[.slice none 0 0, .slice none 0 0], []⟩ 8 (by kernel_rfl) (by kernel_rfl) (by kernel_rfl) (by kernel_rfl)) ?_
  intro W base args ds gs before hval0 hW hcnd _ _
  have hval : ∀ (j : Nat) t v, Try.f3.params[j]? = some t → args[j]? = some v → Value.okWide Try.prog W .any base t v := hval0
  have hW' := hW
  obtain ⟨p, q, hA0, hV, rfl, hfz, hnd⟩ := hW
  have hA : DataW.TrodAll enc Try.prog W 0 (fun _ => true) true Try.f3.params.toList args.toList ds p := hA0
  rw [Try.params3] at hA hval
  obtain ⟨v0, vs0, d0, ds0, p0, q0, hargs, rfl, rfl, h0, r0⟩ := trodAll_cons hA
  obtain ⟨v1, vs1, d1, ds1, p1, q1, rfl, rfl, rfl, h1, r1⟩ := trodAll_cons r0
  obtain ⟨rfl, rfl, rfl⟩ := trodAll_nil r1
  obtain rfl : args = #[v0, v1] := by cases args; simp_all
  obtain ⟨rfl, rfl⟩ := trodVars_none hV
  have k0 := h0
  have lt0 := trod_below k0
  have k1 := h1
  have lt1 := trod_below k1
  obtain ⟨A0, n0, c0, z0, rfl, w0⟩ := mat_of Try.underlying22 Try.underlying27 Try.underlying3 (by kernel_rfl) (by kernel_rfl) (hval 0 22 v0 rfl rfl) h0
  obtain ⟨A1, n1, c1, z1, rfl, w1⟩ := mat_of Try.underlying22 Try.underlying27 Try.underlying3 (by kernel_rfl) (by kernel_rfl) (hval 1 22 v1 rfl rfl) h1
  clear hA0 hval0
  obtain ⟨M, last, o, w', t', j1, j2, j3, j4⟩ := start_law W A0 n0 c0 z0 A1 n1 c1 z1 w0 w1
  refine ⟨M, last, o, w', t', j1, j2, j3, j4.mono fun v hp => ?_⟩
  obtain ⟨he, hb⟩ := hp
  have bel : Below W.heap.size W (tp w' W.tape 0) := hb
  subst he
  exact ⟨_, _, _, [], _, [], hW', trodAll_mk1 (shut_bool Try.underlying4 _), DataW.TrodAll.of_heap (w := tp w' W.tape 0) (w' := w') rfl (trodAll_cons_mk (Below.trod laidOut (by kernel_rfl) (of_decide_eq_true (by kernel_rfl)) k0 bel lt0) (trodAll_cons_mk (Below.trod laidOut (by kernel_rfl) (of_decide_eq_true (by kernel_rfl)) k1 bel lt1) trodAll_mk0)), rfl, kept_tp (bel.frame _), fun h => by cases h⟩

theorem over : Rows.fnExactIntersectsRow.holds Try.pinned (OpenSpec.ofChange Rows.fnExactIntersectsSpec) :=
  OpenClaim.holds_of_wide_leaving 3 Try.f3 rfl rfl rfl rfl rfl rfl rfl ⟨rfl, rfl, rfl, rfl, rfl⟩ rfl rfl rfl rfl rfl (by kernel_rfl) Try.func3 (by kernel_rfl)
    (of_decide_eq_true (by kernel_rfl)) (by unfold Func.isWrapper; first | (rw [if_pos (by decide +kernel)]; kernel_rfl) | (rw [if_neg (by decide +kernel)]; exact ⟨rfl, rfl⟩))
    (fun os started H enc _ => lifted os started H enc)

theorem proved : Rows.FnExactIntersectsSaid := over
#print axioms proved
end Go.Proofs.Ytafhpbghogdipaa.fnExactIntersects
