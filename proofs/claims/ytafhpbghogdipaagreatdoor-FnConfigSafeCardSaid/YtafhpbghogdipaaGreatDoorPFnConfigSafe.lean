/- The law 'FnConfigSafe' returns true at every input and leaves its arguments as they were: the statement 'Rows.FnConfigSafeCardSaid' (the listed variables tied to the program's text: the tie is given).
  Conditions: none beyond the statement's own. The walk is 'start_ls' (YtafhpbghogdipaaGreatDoorDcX); this text is the row's step around it, and the card. -/
import Derived.Test.YtafhpbghogdipaaGreatDoorOpen
import Derived.Test.YtafhpbghogdipaaGreatDoorCards
import Derived.Test.YtafhpbghogdipaaGreatDoorTie
import Derived.Test.YtafhpbghogdipaaGreatDoorDcX
import Derived.Test.YtafhpbghogdipaaGreatDoorCzX
import Derived.Conc.LeavingOf
import Derived.OpenVars
import Derived.OpenShut
import Derived.SevenTold
import Derived.Deep.DeepHandedRow
import Derived.LaidMore
import Derived.Lay
import Derived.SevenTiedAt
namespace Go.Proofs.YtafhpbghogdipaaGreatDoor.fnConfigSafe
open Go.ChangeShapes Go.WideShapes Go.ChangeAt Go.RowKit
open Go.ChangeMaps (open_string shut_string)
set_option linter.unusedVariables false

theorem kept_tp {W w : World} {T : Nat → Question → Nat} {d : Nat} {may : MemPlace → Prop} (h : W.keptBut (tp w T d) may) : W.keptBut w may := by
  unfold World.keptBut at h ⊢
  exact h
theorem own : ownKnob Tryz.prog.godebug = none := by kernel_rfl
theorem laidOut : laidOutB Tryz.prog = true := by kernel_rfl

set_option maxRecDepth 100000 in
theorem contract (H : Type) (enc : TypeId × Value → H) (W : World) (base : Nat) (args : Array Value) (ds gs : List (DataW H)) (before : List MemPlace)
    (hval0 : ∀ (j : Nat) t v, Tryz.f3.params[j]? = some t → args[j]? = some v → Value.okWide Tryz.prog W .any base t v)
    (hW : DataW.Whole enc Tryz.prog Tryz.f3.params.toList Rows.fnConfigSafeSpec.vars false W args.toList ds gs before) (hL : laidMetH Tryz.prog Rows.fnConfigSafeRow.laid W) (hSh : W.ShapedOpen Tryz.prog) :
    ∃ M last o w' t', runNT Tryz.prog (M + 1) (Conc.solo (Conc.G (Frame.enter Tryz.prog 3 args .normal) []) W) #[] = (.ended o w', t') ∧ runN Tryz.prog M (Conc.solo (Conc.G (Frame.enter Tryz.prog 3 args .normal) []) W) = .next last ∧
      step Tryz.prog last = .ended o w' ∧ Conc.Good Tryz.prog (fun v W' => Rows.fnConfigSafeSpec.post enc Tryz.prog Tryz.f3 false true false false W args v W') last o w' t' := by
  have hval : ∀ (j : Nat) t v, Tryz.f3.params[j]? = some t → args[j]? = some v → Value.okWide Tryz.prog W .any base t v := hval0
  have hW' := hW
  obtain ⟨p, q, hA0, hV, rfl, hfz, hnd⟩ := hW
  have hA : DataW.TrodAll enc Tryz.prog W 0 (fun _ => true) true Tryz.f3.params.toList args.toList ds p := hA0
  rw [Tryz.params3] at hA hval
  obtain ⟨v0, vs0, d0, ds0, p0, q0, hargs, rfl, rfl, h0, r0⟩ := trodAll_cons hA
  obtain ⟨rfl, rfl, rfl⟩ := trodAll_nil r0
  obtain rfl : args = #[v0] := by cases args; simp_all
  have hV0 := hV
  obtain ⟨_, _, _, _, e0, _, _, _, _, _, e1, _, rfl, _, _, _, _, _, _, _, _, hpv⟩ := trodVars_two hV
  have k0 := h0
  have lt0 := trod_below k0
  obtain ⟨A0, n0, c0, z0, rfl, w0⟩ := ints_of Tryz.underlying22 Tryz.underlying5 (by kernel_rfl) (hval 0 22 v0 rfl rfl) h0
  clear hA0 hval0
  obtain ⟨M, last, o, w', t', j1, j2, j3, j4⟩ := start_ls A0 n0 c0 z0 W w0 (ev_of hL)
  refine ⟨M, last, o, w', t', j1, j2, j3, j4.mono fun v hp => ?_⟩
  obtain ⟨he, hb⟩ := hp
  have bel : Below W.heap.size W (tp w' W.tape 0) := hb
  subst he
  exact ⟨_, _, _, [], _, _, hW', trodAll_mk1 (shut_bool Tryz.underlying4 _), DataW.TrodAll.of_heap (w := tp w' W.tape 0) (w' := w') rfl (trodAll_cons_mk (Below.trod laidOut (by kernel_rfl) (of_decide_eq_true (by kernel_rfl)) k0 bel lt0) trodAll_mk0), DataW.TrodVars.of_heap (w := tp w' W.tape 0) (w' := w') rfl (Below.trodVars laidOut bel (by kernel_rfl) hV0), kept_tp (bel.frame _), fun h => by cases h⟩

theorem laid_met (os : Os) : laidMetH Tryz.prog Rows.fnConfigSafeRow.laid ((World.doorLaid Tryz.prog 47 os).forCall (fun _ _ => 0) ⟨#[], #[.slice none 0 0], []⟩).memory :=
  laidMetH_of_parts3 (fuel := 8) (laidMet_of_run' 8 (by kernel_rfl) (by kernel_rfl)) (by kernel_rfl) (by kernel_rfl)
theorem reads (os : Os) {H : Type} (enc : TypeId × Value → H) : ∃ x, DataW.whole enc Tryz.prog ((World.doorLaid Tryz.prog 47 os).forCall (fun _ _ => 0) ⟨#[], #[.slice none 0 0], []⟩).memory Tryz.f3.params.toList Rows.fnConfigSafeSpec.vars false #[.slice none 0 0].toList 8 = some x :=
  Option.isSome_iff_exists.1 (by kernel_rfl)

set_option maxRecDepth 100000 in
theorem lifted (os : Os) (started : os.Started) (H : Type) (enc : TypeId × Value → H) :
    ReturnsInLeavingWide {} Tryz.checked os 3 .any ((OpenSpec.ofChange Rows.fnConfigSafeSpec).preRow enc Tryz.prog Tryz.f3 Rows.fnConfigSafeRow.domain false Rows.fnConfigSafeRow.laid) (Rows.fnConfigSafeSpec.post enc Tryz.prog Tryz.f3 false true false false) := by
  obtain ⟨x, hx⟩ := reads os enc
  refine returnsInLeavingWide_of_good (C := Tryz.checked) own started
    (witness_row_at (enc := enc) (C := Tryz.checked) (s := OpenSpec.ofChange Rows.fnConfigSafeSpec) false (World.doorLaid Tryz.prog 47 os) #[.slice none 0 0] rfl (by kernel_rfl) (by kernel_rfl) (by kernel_rfl)
      (OpenSpec.preRow_of_cond 8 hx (by rfl) (fun k hk => by cases hk) (by kernel_rfl) (laid_met os))) ?_
  intro w tape i _ hsh _ hok hpre hholds
  obtain ⟨_, _, _, fn', hfn', _, _, _, _, hval⟩ := hok
  have e : fn' = Tryz.f3 := Option.some.inj (hfn'.symm.trans Tryz.func3)
  subst e
  obtain ⟨⟨hp, hl⟩, hz⟩ := hpre
  obtain ⟨ds, gs, before, hw, hc, hk⟩ := OpenSpec.pre_parts hp
  have hw' := DataW.Whole.of_heap (w' := w.forCall tape i) (by rfl) hw
  obtain ⟨M, last, o, w', t', h1, h2, h3, h4⟩ := contract H enc (w.forCall tape i) w.heap.size i.args ds gs before hval hw' (hl.of_heap (by rfl)) hsh
  exact ⟨M, last, o, w', t', h1, h2, h3, h4.mono fun v hp => ChangeSpec.post_blind hp⟩

theorem said : Rows.FnConfigSafeSaid :=
  OpenClaim.holds_of_wide_leaving 3 Tryz.f3 rfl rfl rfl rfl rfl rfl rfl ⟨rfl, rfl, rfl, rfl, rfl⟩ rfl rfl rfl rfl rfl (by kernel_rfl) Tryz.func3 (by kernel_rfl)
    (of_decide_eq_true (by kernel_rfl)) (by unfold Func.isWrapper; first | (rw [if_pos (by decide +kernel)]; kernel_rfl) | (rw [if_neg (by decide +kernel)]; exact ⟨rfl, rfl⟩))
    (fun os started H enc _ => by rw [OpenClaim.pre_eq_preRow]; exact lifted os started H enc)

theorem plain (f : FuncId) (fn : Func) (hf : Tryz.pinned.checked.prog.funcNamed "loop.example/flexquorum/laws.FnConfigSafe" = some f) (hfn : Tryz.pinned.checked.prog.funcs[f]? = some fn) :
    true = Tryz.pinned.checked.prog.looks [] ∧ ∀ (j : Nat) t, fn.params[j]? = some t → Tryz.pinned.checked.prog.wantsStandIn t = false := by
  obtain rfl : f = 3 := Option.some.inj ((show Tryz.prog.funcNamed "loop.example/flexquorum/laws.FnConfigSafe" = some 3 by kernel_rfl).symm.trans hf) |>.symm
  obtain rfl : fn = Tryz.f3 := (Option.some.inj (Tryz.func3.symm.trans hfn)).symm
  refine ⟨by kernel_rfl, fun j t ht => ?_⟩
  rw [Tryz.params3] at ht
  have hm := Array.mem_of_getElem? ht
  simp only [List.mem_toArray, List.mem_cons, List.not_mem_nil, or_false] at hm
  rcases hm with rfl
  all_goals first | exact (show Tryz.prog.wantsStandIn 22 = false by kernel_rfl)

theorem proved : Rows.FnConfigSafeCardSaid := by
  have h1 := Claim7.tied_new_at .later [.sentinel, .sentinel] true (Claim7.new_of_sixth said (true, "58c07f087d7560caa1c133de6b4f1aeca62784894f83998b7f48e0427e586aff") true rfl ⟨rfl, rfl⟩ (by kernel_rfl) rfl plain) (by kernel_rfl)
  exact ⟨h1, (fun D hD => by cases hD), fnConfigSafe_row_tie, (fun h => by cases h), by kernel_rfl⟩
#print axioms proved
end Go.Proofs.YtafhpbghogdipaaGreatDoor.fnConfigSafe
