/- WeightsValid, the program's and the reference's, and the law FnExactWeightsValid. -/
import Derived.Test.YtmbmpfodfboniaaInts2
namespace Go.Proofs.Ytmbmpfodfboniaa
open Go.RowKit

/-- A vote assignment is valid. -/
def wtsB (zs : List Int) : Bool := zs.all (fun z => inB z 0 9) && inB zs.length 1 6
theorem all_next (P : Int → Bool) (zs : List Int) (k : Nat) (h : k < zs.length) : (zs.take (k + 1)).all P = ((zs.take k).all P && P (zs.getD k 0)) := by
  have hg : zs.getD k 0 = zs[k] := by simp [h]
  rw [hg, List.take_succ_eq_append_getElem h, List.all_append]
  simp only [List.all_cons, List.all_nil, Bool.and_true]
theorem all_bad (P : Int → Bool) (zs : List Int) (k : Nat) (h : k < zs.length) (hP : P (zs.getD k 0) = false) : zs.all P = false := by
  have hg : zs.getD k 0 = zs[k] := by simp [h]
  rw [hg] at hP
  rw [List.all_eq_false]
  exact ⟨zs[k], List.getElem_mem h, by simp [hP]⟩
theorem ret_bool' {a b : Bool} (h : a = b) : Ending.returned (.bool a) = .returned (.bool b) := by rw [h]

set_option maxHeartbeats 1000000

theorem specWeights_any (A : Option Addr) (n c : Nat) (zs : List Int) (w : World) (hA : Row w w.heap.size A (zs.map (Value.int .i64))) (hl : zs.length = n) (hn : n ≤ 1048576) :
    Calls Try.prog 10 #[.slice A n c] w fun e w' => e = .returned (.bool (wtsB zs)) ∧ w' = w := by
  have HA := Lib.hid (hA.src hl)
  have HL := Lib.hid hl
  clear hA hl
  by_cases hn0 : n ≤ 0
  · go_enter Try.func10, Try.ntmps10
    go_wp2
    go_loop [3] (fun i => ∃ k : Nat, k ≤ n ∧ i = .int .i64 k ∧ (zs.take k).all (fun z => inB z 0 9) = true) (fun i => n - (intOf i).toNat)
    case atStart => exact ⟨0, Nat.zero_le _, rfl, by simp⟩
    case round =>
      obtain ⟨k, hk, rfl, hall⟩ := hrel
      have HAll := Lib.hid hall
      clear hall
      by_cases hkn : k < n
      · omega
      · have hr : wtsB zs = inB n 1 6 := by
          have := HAll.out
          rw [List.take_of_length_le (by rw [HL.out]; omega)] at this
          simp [wtsB, this, HL.out]
        have HR := Lib.hid hr
        clear hr
        go_wp2_with (go_at_call 22; refine (l6In_any _ _ _ _).mono ?_; rintro e w' ⟨rfl, rfl⟩)
        go_ret
        exact ⟨ret_bool' HR.out.symm, rfl⟩
  · obtain ⟨b, off, rfl, _, _⟩ := HA.out 0 (by omega)
    go_enter Try.func10, Try.ntmps10
    go_wp2
    go_loop [3] (fun i => ∃ k : Nat, k ≤ n ∧ i = .int .i64 k ∧ (zs.take k).all (fun z => inB z 0 9) = true) (fun i => n - (intOf i).toNat)
    case atStart => exact ⟨0, Nat.zero_le _, rfl, by simp⟩
    case round =>
      obtain ⟨k, hk, rfl, hall⟩ := hrel
      have HAll := Lib.hid hall
      clear hall
      by_cases hkn : k < n
      · obtain ⟨_, _, e1, _, h1⟩ := HA.out k hkn
        cases e1
        have hkl : k < zs.length := by rw [HL.out]; exact hkn
        have HN := Lib.hid (all_next (fun z => inB z 0 9) zs k hkl)
        have HF := Lib.hid (all_bad (fun z => inB z 0 9) zs k hkl)
        generalize zs.getD k 0 = v at h1 HN HF
        cases hb : inB v 0 9
        · have hr : wtsB zs = false := by
            have := HF.out hb
            simp [wtsB, this]
          have HR := Lib.hid hr
          clear hr
          go_wp2_with (go_at_call 22; refine (l6In_any _ _ _ _).mono ?_; rintro e w' ⟨rfl, rfl⟩)
          go_ret
          exact ⟨ret_bool' HR.out.symm, rfl⟩
        · go_wp2_with (go_at_call 22; refine (l6In_any _ _ _ _).mono ?_; rintro e w' ⟨rfl, rfl⟩)
          go_round
          case rel => exact ⟨k + 1, by omega, by go_num, by rw [HN.out, HAll.out]; simp [hb]⟩
          case measure => simp [intOf]; omega
      · have hr : wtsB zs = inB n 1 6 := by
          have := HAll.out
          rw [List.take_of_length_le (by rw [HL.out]; omega)] at this
          simp [wtsB, this, HL.out]
        have HR := Lib.hid hr
        clear hr
        go_wp2_with (go_at_call 22; refine (l6In_any _ _ _ _).mono ?_; rintro e w' ⟨rfl, rfl⟩)
        go_ret
        exact ⟨ret_bool' HR.out.symm, rfl⟩

theorem implWeights_any (A : Option Addr) (n c : Nat) (zs : List Int) (w : World) (hA : Row w w.heap.size A (zs.map (Value.int .i64))) (hl : zs.length = n) (hn : n ≤ 1048576) :
    Calls Try.prog 12 #[.slice A n c] w fun e w' => e = .returned (.bool (wtsB zs)) ∧ w' = w := by
  have HA := Lib.hid (hA.src hl)
  have HL := Lib.hid hl
  clear hA hl
  by_cases hn0 : n ≤ 0
  · go_enter Try.func12, Try.ntmps12
    go_wp2
    go_loop [7] (fun i => ∃ k : Nat, k ≤ n ∧ i = .int .i64 k ∧ (zs.take k).all (fun z => inB z 0 9) = true) (fun i => n - (intOf i).toNat)
    case atStart => exact ⟨0, Nat.zero_le _, rfl, by simp⟩
    case round =>
      obtain ⟨k, hk, rfl, hall⟩ := hrel
      have HAll := Lib.hid hall
      clear hall
      by_cases hkn : k < n
      · omega
      · have hr : wtsB zs = inB n 1 6 := by
          have := HAll.out
          rw [List.take_of_length_le (by rw [HL.out]; omega)] at this
          simp [wtsB, this, HL.out]
        have HR := Lib.hid hr
        clear hr
        by_cases h1 : 1 ≤ n <;> by_cases h6 : n ≤ 6
        all_goals go_wp2
        all_goals go_ret
        all_goals exact ⟨ret_bool' (by rw [HR.out]; unfold inB; rw [Bool.eq_iff_iff]; simp; omega), rfl⟩
  · obtain ⟨b, off, rfl, _, _⟩ := HA.out 0 (by omega)
    go_enter Try.func12, Try.ntmps12
    go_wp2
    go_loop [7] (fun i => ∃ k : Nat, k ≤ n ∧ i = .int .i64 k ∧ (zs.take k).all (fun z => inB z 0 9) = true) (fun i => n - (intOf i).toNat)
    case atStart => exact ⟨0, Nat.zero_le _, rfl, by simp⟩
    case round =>
      obtain ⟨k, hk, rfl, hall⟩ := hrel
      have HAll := Lib.hid hall
      clear hall
      by_cases hkn : k < n
      · obtain ⟨_, _, e1, _, h1⟩ := HA.out k hkn
        cases e1
        have hkl : k < zs.length := by rw [HL.out]; exact hkn
        have HN := Lib.hid (all_next (fun z => inB z 0 9) zs k hkl)
        have HF := Lib.hid (all_bad (fun z => inB z 0 9) zs k hkl)
        generalize zs.getD k 0 = v at h1 HN HF
        by_cases hv : v < 0 ∨ 9 < v
        · have hr : wtsB zs = false := by
            have := HF.out (inB_false hv)
            simp [wtsB, this]
          have HR := Lib.hid hr
          clear hr
          rcases hv with hv | hv
          · go_wp2
            go_ret
            exact ⟨ret_bool' HR.out.symm, rfl⟩
          · have hv2 : ¬ v < 0 := by omega
            go_wp2
            go_ret
            exact ⟨ret_bool' HR.out.symm, rfl⟩
        · have hv1 : ¬ v < 0 := by omega
          have hv2 : ¬ 9 < v := by omega
          clear hv
          go_wp2
          go_round
          case rel => exact ⟨k + 1, by omega, by go_num, by rw [HN.out, HAll.out]; simp [inB_true (n := v) (lo := 0) (hi := 9) (by omega) (by omega)]⟩
          case measure => simp [intOf]; omega
      · have hr : wtsB zs = inB n 1 6 := by
          have := HAll.out
          rw [List.take_of_length_le (by rw [HL.out]; omega)] at this
          simp [wtsB, this, HL.out]
        have HR := Lib.hid hr
        clear hr
        by_cases h1 : 1 ≤ n <;> by_cases h6 : n ≤ 6
        all_goals go_wp2
        all_goals go_ret
        all_goals exact ⟨ret_bool' (by rw [HR.out]; unfold inB; rw [Bool.eq_iff_iff]; simp; omega), rfl⟩

theorem exactWeightsValid_walk (A : Option Addr) (n c : Nat) (zs : List Int) (w : World) (h : Ints .i64 w A n c zs) : Calls Try.prog 4 #[.slice A n c] w fun e w' => e = .returned (.bool true) ∧ Below w.heap.size w w' := by
  have hcap := h.cap
  have hmx := h.max
  unfold maxLen at hmx
  by_cases hl : 1048576 < n
  · go_enter Try.func4, Try.ntmps4
    go_wp2
    go_ret
    exact ⟨rfl, Below.refl _ _⟩
  have hn : n ≤ 1048576 := by omega
  go_enter Try.func4, Try.ntmps4
  go_wp2_with fail
  refine (toIntS_any A n c zs _ h hn).mono ?_
  rintro e w1 ⟨rfl, hg1, hs1, hb1⟩
  have hlt1 : w.heap.size < w1.heap.size := by omega
  have HG1 := Lib.hid hg1
  have h1 := h.below hb1
  clear hg1 hs1
  go_wp2_with fail
  refine (specWeights_any _ n n zs _ (row_new HG1.out hlt1) h.len hn).mono ?_
  rintro e wz ⟨rfl, hz⟩
  replace hz := hz.symm
  subst hz
  go_wp2_with fail
  refine (toIntS_any A n c zs _ h1 hn).mono ?_
  rintro e w2 ⟨rfl, hg2, hs2, hb2⟩
  have hlt2 : w1.heap.size < w2.heap.size := by omega
  have HG2 := Lib.hid hg2
  have h2 := h1.below hb2
  clear hg2 hs2
  go_wp2_with fail
  refine (implWeights_any _ n n zs _ (row_new HG2.out hlt2) h.len hn).mono ?_
  rintro e wz ⟨rfl, hz⟩
  replace hz := hz.symm
  subst hz
  go_wp2_with fail
  refine (toIntS_any A n c zs _ h2 hn).mono ?_
  rintro e w3 ⟨rfl, hg3, hs3, hb3⟩
  have hlt3 : w2.heap.size < w3.heap.size := by omega
  have HG3 := Lib.hid hg3
  have HG2' := Lib.hid ((hb3.block _ hlt2).trans HG2.out)
  clear hg3 hs3
  go_wp2_with fail
  refine (eqIntS_same _ _ n n n zs _ (row_new HG2'.out (by omega)) (row_new HG3.out hlt3) h.len hn).mono ?_
  rintro e w4 ⟨rfl, m, rfl⟩
  go_wp2
  go_ret
  exact ⟨rfl, below_drewN ((hb1.trans (hb2.mono hb1.size)).trans (hb3.mono (by omega))) m⟩
end Go.Proofs.Ytmbmpfodfboniaa
