/- The laws over SetParse: their walks. -/
import Derived.Test.YtdpclcogfkjbcaaDoorPar4
import Derived.Test.YtdpclcogfkjbcaaDoorDr1
namespace Go.Proofs.YtdpclcogfkjbcaaDoor
open Go.RowKit
set_option maxHeartbeats 8000000
set_option linter.unusedVariables false

theorem own_form {w : World} {B : Nat} {v : Value} {zs : List Int} (h : OwnI w B v zs) (hn : 0 < zs.length) : ∃ g cap, v = .slice (some ⟨g, 0, none⟩) zs.length cap ∧ B ≤ g ∧ g < w.heap.size ∧ zs.length ≤ cap ∧
    (∀ k, k < zs.length → ∃ u, w.cell? ⟨g, k, none⟩ = some (.int .i64 u)) ∧ (∀ k, w.frozen? ⟨g, k, none⟩ = false) := by
  unfold OwnI at h
  rcases h.2 with ⟨_, h0⟩ | ⟨g, cap, cur, rfl, h2, h3, h4, h5, h6, h7⟩
  · omega
  · have hlt : g < w.heap.size := by
      rcases Nat.lt_or_ge g w.heap.size with hlt | hge
      · exact hlt
      · rw [Array.getElem?_eq_none hge] at h3; cases h3
    refine ⟨g, cap, rfl, h2, hlt, h4, fun k hk => ⟨zs[k], ?_⟩, fun k => h.frozenAt k⟩
    have := h.cellAt k (by omega)
    rw [this]
    simp [hk]
theorem parV_len (t : ByteArray) : (parV t).1.length ≤ 6 := by
  unfold parV
  split
  · next h =>
    exact fm_len (fmtO_set h.2 (parOk_size h.1)).1
  · simp
theorem exactParse_walk (t : ByteArray) (h : t.size ≤ maxLen) (w : World) (hV : VF w) : Calls Tryd.prog 3 #[.string t] w fun e w' => e = .returned (.bool true) ∧ Below w.heap.size w w' := by
  unfold maxLen at h
  by_cases hl : 1048576 < t.size
  · have hl2 : (1048576 : Int) < t.size := by omega
    go_enter Tryd.func3, Tryd.ntmps3
    go_wp2
    go_ret
    exact ⟨rfl, Below.refl _ _⟩
  have hs : t.size ≤ 1048576 := by omega
  have hl2 : ¬ (1048576 : Int) < t.size := by omega
  have HV := Lib.hid hV
  have HI := Lib.hid (fun W hW => implParse_any t hs W hW)
  unfold ParQ at HI
  have HS := Lib.hid (specParse_any t hs w)
  unfold ParQ at HS
  have hlen := parV_len t
  clear hV
  generalize (parV t).1 = zs at HI HS hlen
  generalize (parV t).2 = ok at HI HS
  obtain ⟨n, hn⟩ : ∃ n, zs.length = n := ⟨_, rfl⟩
  have HL := Lib.hid hn
  rw [hn] at hlen
  clear hn
  go_enter Tryd.func3, Tryd.ntmps3
  go_wp2_with fail
  refine HS.out.mono ?_
  rintro e w1 ⟨v0, rfl, hown0, hb1⟩
  have hz1 := hb1.size
  have HB1 := Lib.hid hb1
  obtain ⟨A0, c0, hv0, _, _, hr0⟩ := owns_row hown0
  have HR0 := Lib.hid hr0
  subst hv0
  clear hown0 hb1 hr0
  go_wp2_with fail
  refine (HI.out _ (HV.out.below HB1.out)).mono ?_
  rintro e w2 ⟨v1, rfl, hown1, hb2⟩
  have hz2 := hb2.size
  have HB2 := Lib.hid (HB1.out.trans (hb2.mono hz1))
  have HR02 := Lib.hid (HR0.out.below hb2)
  have HO1 := Lib.hid hown1
  obtain ⟨A1, c1, hv1, _, _, hr1⟩ := owns_row hown1
  have HR1 := Lib.hid hr1
  subst hv1
  clear hown1 hb2 hr1
  rw [HL.out]
  go_wp2_with fail
  refine (eqIntS_same A1 A0 n c1 c0 zs w2 HR1.out (HR02.out.more hz2) HL.out (by omega)).mono ?_
  rintro e w3 ⟨rfl, m3, hw3⟩
  have HB3 := Lib.hid (show Below w.heap.size w w3 by rw [hw3]; exact below_drewN HB2.out m3)
  have hz3 : w3.heap.size = w2.heap.size := by rw [hw3]; rfl
  have HV3 := Lib.hid (HV.out.below HB3.out)
  have HR03 := Lib.hid (show Row w3 w1.heap.size A0 (zs.map (Value.int .i64)) by rw [hw3]; exact HR02.out)
  have HO3 := Lib.hid (show OwnI w3 w1.heap.size (.slice A1 n c1) zs by rw [hw3]; have := HO1.out; rw [HL.out] at this; exact owns_drewN this m3)
  clear hw3
  by_cases hn0 : n = 0
  · subst hn0
    have hn0 := HL.out
    go_wp2_with fail
    refine (mark_zero A1 c1 1 _).mono ?_
    rintro e w4 ⟨rfl, hw4⟩
    replace hw4 := hw4.symm
    subst hw4
    go_wp2_with fail
    refine (held_zero A1 c1 1 _).mono ?_
    rintro e w5 ⟨rfl, hw5⟩
    replace hw5 := hw5.symm
    subst hw5
    go_wp2_with fail
    refine (HI.out _ HV3.out).mono ?_
    rintro e w6 ⟨v2, rfl, hown2, hb6⟩
    have HB6 := Lib.hid (HB3.out.trans (hb6.mono HB3.out.size))
    obtain ⟨A2, c2, hv2, _, _, hr2⟩ := owns_row hown2
    have HR2 := Lib.hid hr2
    have hz6 := hb6.size
    have HR06 := Lib.hid ((HR03.out.below (hb6.mono (by omega))).more (by omega : w1.heap.size ≤ w6.heap.size))
    subst hv2
    clear hown2 hb6 hr2
    rw [hn0]
    go_wp2_with fail
    refine (eqIntS_same _ _ 0 c2 c0 zs _ HR2.out HR06.out hn0 (by omega)).mono ?_
    rintro e w7 ⟨rfl, m7, hw7⟩
    have HB7 := Lib.hid (show Below w.heap.size w w7 by rw [hw7]; exact below_drewN HB6.out m7)
    clear hw7
    go_wp2_with fail
    refine (held_zero A1 c1 1 _).mono ?_
    rintro e w8 ⟨rfl, hw8⟩
    replace hw8 := hw8.symm
    subst hw8
    go_wp2_with fail
    go_ret
    exact ⟨rfl, HB7.out⟩
  · obtain ⟨g, cap, hv, hg1, hg2, _, hce, hfe⟩ := own_form HO3.out (by have := HL.out; omega)
    rw [HL.out] at hv hce
    cases hv
    have HCe := Lib.hid hce
    have HFe := Lib.hid hfe
    clear hce hfe
    go_wp2_with fail
    refine (mark_any g n c1 1 w3 (by omega) (by omega) (by omega) HCe.out HFe.out).mono ?_
    rintro e w4 ⟨rfl, hM⟩
    have HM := Lib.hid hM
    have hz4 := hM.grw.size
    have HB4 := Lib.hid (show Below w.heap.size w w4 from HB3.out.trans (hM.grw.mono (by omega)))
    have HV4 := Lib.hid (HV.out.below HB4.out)
    have HR04 := Lib.hid ((HR03.out.below (hM.grw.mono (by omega) : Below w1.heap.size w3 w4)))
    clear hM
    go_wp2_with fail
    refine (held_any g n c1 1 w4 (by omega) (by omega) (by omega) HM.out.at_).mono ?_
    rintro e w5 ⟨rfl, hw5⟩
    replace hw5 := hw5.symm
    subst hw5
    go_wp2_with fail
    refine (HI.out _ HV4.out).mono ?_
    rintro e w6 ⟨v2, rfl, hown2, hb6⟩
    have HB6 := Lib.hid (HB4.out.trans (hb6.mono HB4.out.size))
    obtain ⟨A2, c2, hv2, _, _, hr2⟩ := owns_row hown2
    have HR2 := Lib.hid hr2
    have hz6 := hb6.size
    have HR06 := Lib.hid ((HR04.out.below (hb6.mono (by omega))).more (by omega : w1.heap.size ≤ w6.heap.size))
    have HM6 := Lib.hid (fun (i : Nat) (hi : i < n) => (hb6.cell (p := ⟨g, i, none⟩) (show g < w4.heap.size by omega)).trans (HM.out.at_ i hi))
    subst hv2
    clear hown2 hb6 hr2
    rw [HL.out]
    go_wp2_with fail
    refine (eqIntS_same _ _ n c2 c0 zs _ HR2.out HR06.out HL.out (by omega)).mono ?_
    rintro e w7 ⟨rfl, m7, hw7⟩
    have HB7 := Lib.hid (show Below w.heap.size w w7 by rw [hw7]; exact below_drewN HB6.out m7)
    have HM7 := Lib.hid (show ∀ i : Nat, i < n → w7.cell? ⟨g, i, none⟩ = some (.int .i64 (1 + i)) by rw [hw7]; exact HM6.out)
    clear hw7
    go_wp2_with fail
    refine (held_any g n c1 1 w7 (by omega) (by omega) (by omega) HM7.out).mono ?_
    rintro e w8 ⟨rfl, hw8⟩
    replace hw8 := hw8.symm
    subst hw8
    go_wp2_with fail
    go_ret
    exact ⟨rfl, HB7.out⟩
end Go.Proofs.YtdpclcogfkjbcaaDoor
