/- The program's 'digits' at every text. -/
import Derived.Test.YtdpclcogfkjbcaaDoorPar0
import Derived.Test.YtdpclcogfkjbcaaDoorShelf2
import Derived.Lib.AppendIntMem
namespace Go.Proofs.YtdpclcogfkjbcaaDoor
open Go.RowKit
set_option maxHeartbeats 8000000
set_option linter.unusedVariables false

/-- What the library's package-level variables hold. -/
structure VF (w : World) : Prop where
  mx : ∃ m, w.cell? ⟨0, 0, none⟩ = some (.int .i64 m)
  es : ∃ te pe, w.cell? ⟨1, 0, none⟩ = some (.iface te pe)
  er : ∃ te pe, w.cell? ⟨2, 0, none⟩ = some (.iface te pe)
  tab : Lib.TabIs Tryd.prog w "internal/strconv.uint64pow10" .u64 Lib.pow10Tab
theorem VF.below {w w' : World} (h : VF w) (hb : Below w.heap.size w w') : VF w' := by
  have hc : ∀ (g : Nat) (v : Value), w.cell? ⟨g, 0, none⟩ = some v → w'.cell? ⟨g, 0, none⟩ = some v := fun g v hv =>
    (hb.cell (p := ⟨g, 0, none⟩) (World.block_lt_of_cell? _ _ hv)).trans hv
  refine ⟨?_, ?_, ?_, ?_⟩
  · obtain ⟨m, hm⟩ := h.mx
    exact ⟨m, hc _ _ hm⟩
  · obtain ⟨m, p, hm⟩ := h.es
    exact ⟨m, p, hc _ _ hm⟩
  · obtain ⟨m, p, hm⟩ := h.er
    exact ⟨m, p, hc _ _ hm⟩
  · have ht := h.tab
    unfold Lib.TabIs World.var? at *
    cases hg : Tryd.prog.globalNamed "internal/strconv.uint64pow10" with
    | none => simp [hg] at ht
    | some g =>
      simp only [hg, Option.bind_some] at ht ⊢
      have hlt : g < w.heap.size := by
        rcases Nat.lt_or_ge g w.heap.size with h' | h'
        · exact h'
        · rw [Array.getElem?_eq_none h'] at ht; simp at ht
      rw [hb.block g hlt]
      exact ht

theorem digits_any (u : ByteArray) (hu : u.size ≤ 1048576) (W : World) (hV : VF W) : Calls Tryd.prog 22 #[.string u] W fun e W' => e = .returned (.tuple #[.int .i64 (digV u).1, .bool (digV u).2]) ∧ Below W.heap.size W W' := by
  have HV := Lib.hid hV
  clear hV
  cases h : Lib.atoiAll u.data.toList with
  | ok v =>
    obtain ⟨b0, b1⟩ := Lib.atoiAll_bounds h
    have HD := Lib.hid (show digV u = (v, decide (0 ≤ v) && (Lib.itoa v == u.data.toList)) by unfold digV; rw [h])
    have HC := Lib.hid (Tryd.strconv_Atoi_ok u (by omega) v h W)
    clear h
    go_enter Tryd.func22, Tryd.ntmps22
    go_wp2_with fail
    refine HC.out.mono ?_
    rintro e W1 ⟨rfl, hW⟩
    have hb1 : Below W.heap.size W W1 := by
      rcases hW with rfl | ⟨t, rfl⟩
      · exact Below.refl _ _
      · exact Lib.bytesWorld_below _ _ _
    have HB1 := Lib.hid hb1
    have HI := Lib.hid (Tryd.strconv_Itoa v (by omega) (by omega) W1 (HV.out.below hb1).tab)
    clear hW hb1
    by_cases h0 : 0 ≤ v
    · have HD2 : Hid (digV u = (v, ((⟨(Lib.itoa v).toArray⟩ : ByteArray).toList == u.toList))) := Lib.hid (by rw [HD.out, decide_eq_true h0, Lib.toList_data, Lib.toList_data]; rfl)
      generalize (⟨(Lib.itoa v).toArray⟩ : ByteArray) = x at HI HD2
      go_wp2_with fail
      refine HI.out.mono ?_
      rintro e W2 ⟨rfl, k, os, hW2⟩
      have HB2 : Hid (Below W1.heap.size W1 W2) := Lib.hid (by rw [hW2]; exact Lib.below_grow _ _ (Nat.le_refl _) _ _)
      clear hW2
      go_wp2_with fail
      go_ret2
      exact ⟨by rw [HD2.out]; rfl, HB1.out.trans (HB2.out.mono HB1.out.size)⟩
    · have HD2 : Hid (digV u = (v, false)) := Lib.hid (by rw [HD.out, decide_eq_false h0]; rfl)
      go_wp2_with fail
      go_ret2
      exact ⟨by rw [HD2.out]; rfl, HB1.out⟩
  | range =>
    have HD := Lib.hid (show digV u = (Lib.atoiSat u.data.toList, false) by unfold digV; rw [h])
    obtain ⟨te, pe, hv⟩ := HV.out.er
    have HC := Lib.hid (Tryd.strconv_Atoi_range u (by omega) h (.iface te pe) W hv (.inr ⟨te, pe, rfl⟩))
    clear h hv
    go_enter Tryd.func22, Tryd.ntmps22
    go_wp2_with fail
    refine HC.out.mono ?_
    rintro e W1 ⟨N, rfl, _, _, hb⟩
    have HB1 := Lib.hid hb
    clear hb
    go_wp2_with fail
    go_ret2
    exact ⟨by rw [HD.out]; rfl, HB1.out⟩
  | _ =>
    have HD := Lib.hid (show digV u = (0, false) by unfold digV; rw [h])
    obtain ⟨te, pe, hv⟩ := HV.out.es
    have HC := Lib.hid (Tryd.strconv_Atoi_syntax u (by omega) h (.iface te pe) W hv (.inr ⟨te, pe, rfl⟩))
    clear h hv
    go_enter Tryd.func22, Tryd.ntmps22
    go_wp2_with fail
    refine HC.out.mono ?_
    rintro e W1 ⟨N, rfl, _, _, hb⟩
    have HB1 := Lib.hid hb
    clear hb
    go_wp2_with fail
    go_ret2
    exact ⟨by rw [HD.out]; rfl, HB1.out⟩
end Go.Proofs.YtdpclcogfkjbcaaDoor
