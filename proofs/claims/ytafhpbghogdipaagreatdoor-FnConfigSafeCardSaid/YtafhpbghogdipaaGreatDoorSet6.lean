/- SetSubset: the plain law of the bits, and the reference's loops. -/
import Derived.Test.YtafhpbghogdipaaGreatDoorSet5
namespace Go.Proofs.YtafhpbghogdipaaGreatDoor
open Go.RowKit
set_option maxHeartbeats 1000000

/-! The plain law: the bits of a member set. -/
theorem okTo_le {zs : List Int} : ∀ {n k : Nat}, k ≤ n → okTo zs n = true → okTo zs k = true
  | 0, k, h, hn => by
    have : k = 0 := by omega
    subst this
    exact hn
  | n + 1, k, h, hn => by
    by_cases hk : k = n + 1
    · subst hk; exact hn
    · rw [okTo_next] at hn
      simp only [Bool.and_eq_true] at hn
      exact okTo_le (by omega) hn.1
theorem bit_sum (zs : List Int) (j : Nat) : ∀ k, okTo zs k = true → ((sumTo zs k).testBit j = true ↔ ∃ i, i < k ∧ (zs.getD i 0 - 1).toNat = j)
  | 0, _ => by simp [sumTo]
  | k + 1, h => by
    have h1 := okTo_le (Nat.le_succ k) h
    have h2 := or_add _ _ (sum_lt zs k h)
    have ih := bit_sum zs j k h1
    have e : sumTo zs (k + 1) = sumTo zs k ||| 2 ^ (zs.getD k 0 - 1).toNat := h2.symm
    rw [e, Nat.testBit_or, Bool.or_eq_true, ih, Nat.testBit_two_pow]
    constructor
    · rintro (⟨i, hi, hj⟩ | hj)
      · exact ⟨i, by omega, hj⟩
      · exact ⟨k, by omega, by simpa using hj⟩
    · rintro ⟨i, hi, hj⟩
      by_cases hik : i = k
      · subst hik
        exact .inr (by simpa using hj)
      · exact .inl ⟨i, by omega, hj⟩
/-- Every member of a is a member of b. -/
def subB (a b : List Int) : Bool := a.all fun x => b.any fun y => y == x
theorem sub_iff (a b : List Int) : subB a b = true ↔ ∀ i, i < a.length → ∃ j, j < b.length ∧ b.getD j 0 = a.getD i 0 := by
  unfold subB
  simp only [List.all_eq_true, List.any_eq_true, beq_iff_eq]
  constructor
  · intro h i hi
    obtain ⟨y, hy, e⟩ := h a[i] (List.getElem_mem hi)
    obtain ⟨j, hj, ej⟩ := List.getElem_of_mem hy
    exact ⟨j, hj, by simp [hj, hi, ej, e]⟩
  · intro h x hx
    obtain ⟨i, hi, ei⟩ := List.getElem_of_mem hx
    obtain ⟨j, hj, e⟩ := h i hi
    refine ⟨b[j], List.getElem_mem hj, ?_⟩
    simp [hj, hi, ei] at e
    exact e
theorem within_iff {a b : List Int} (ha : setB a = true) (hb : setB b = true) : sumTo a a.length &&& (18446744073709551615 - sumTo b b.length) = 0 ↔ subB a b = true := by
  have hs := sum_small (zs := b) (k := b.length) hb
  have hM : 18446744073709551615 - sumTo b b.length = 2 ^ 64 - (sumTo b b.length + 1) := by omega
  rw [hM, sub_iff]
  have h2 : sumTo b b.length < 2 ^ 64 := by omega
  constructor
  · intro h i hi
    have hj : (sumTo a a.length).testBit (a.getD i 0 - 1).toNat = true := (bit_sum a _ _ ha).2 ⟨i, hi, rfl⟩
    have h0 : (sumTo a a.length &&& (2 ^ 64 - (sumTo b b.length + 1))).testBit (a.getD i 0 - 1).toNat = false := by rw [h]; simp
    rw [Nat.testBit_and, hj, Nat.testBit_two_pow_sub_succ h2] at h0
    have hai := set_at ha hi
    have hlt : (a.getD i 0 - 1).toNat < 64 := by omega
    rw [decide_eq_true hlt] at h0
    simp only [Bool.true_and, Bool.not_eq_false'] at h0
    obtain ⟨j, hjl, e⟩ := (bit_sum b _ _ hb).1 h0
    have hbj := set_at hb hjl
    exact ⟨j, hjl, by omega⟩
  · intro h
    apply Nat.eq_of_testBit_eq
    intro j
    rw [Nat.testBit_and, Nat.testBit_two_pow_sub_succ h2, Nat.zero_testBit]
    cases hA : (sumTo a a.length).testBit j
    · rfl
    · obtain ⟨i, hi, e⟩ := (bit_sum a _ _ ha).1 hA
      obtain ⟨k, hk, ek⟩ := h i hi
      have : (sumTo b b.length).testBit j = true := (bit_sum b _ _ hb).2 ⟨k, hk, by rw [ek]; exact e⟩
      simp [this]

theorem any_next (P : Int → Bool) (zs : List Int) (k : Nat) (h : k < zs.length) : (zs.take (k + 1)).any P = ((zs.take k).any P || P (zs.getD k 0)) := by
  have hg : zs.getD k 0 = zs[k] := by simp [h]
  rw [hg, List.take_succ_eq_append_getElem h, List.any_append]
  simp only [List.any_cons, List.any_nil, Bool.or_false]
theorem any_yes (P : Int → Bool) (zs : List Int) (k : Nat) (h : k < zs.length) (hP : P (zs.getD k 0) = true) : zs.any P = true := by
  have hg : zs.getD k 0 = zs[k] := by simp [h]
  rw [hg] at hP
  rw [List.any_eq_true]
  exact ⟨zs[k], List.getElem_mem h, hP⟩

theorem l1Contains_any (A : Option Addr) (n c : Nat) (zs : List Int) (x : Int) (w : World) (B : Nat) (hA : Row w B A (zs.map (Value.int .i64))) (hl : zs.length = n) (hn : n ≤ 1048576) :
    Calls Tryz.prog 70 #[.slice A n c, .int .i64 x] w fun e w' => e = .returned (.bool (zs.any (fun y => y == x))) ∧ w' = w := by
  have HA := Lib.hid (hA.src hl)
  have HL := Lib.hid hl
  clear hA hl
  obtain ⟨r, hr⟩ : ∃ r, r = zs.any (fun y => y == x) := ⟨_, rfl⟩
  rw [← hr]
  have HR := Lib.hid hr
  clear hr
  by_cases hn0 : n ≤ 0
  · have hz : r = false := by
      have : zs = [] := List.eq_nil_of_length_eq_zero (by rw [HL.out]; omega)
      rw [HR.out, this]
      rfl
    rw [hz]
    clear hz
    go_enter Tryz.func70, Tryz.ntmps70
    go_wp2
    go_loop [5] (fun i => ∃ k : Nat, k ≤ n ∧ i = .int .i64 k) (fun i => n - (intOf i).toNat)
    case atStart => exact ⟨0, Nat.zero_le _, rfl⟩
    case round =>
      obtain ⟨k, hk, rfl⟩ := hrel
      have hkn : ¬ k < n := by omega
      go_wp2
      go_ret
      exact ⟨rfl, rfl⟩
  · obtain ⟨b, off, rfl, _, _⟩ := HA.out 0 (by omega)
    go_enter Tryz.func70, Tryz.ntmps70
    go_wp2
    go_loop [5] (fun i => ∃ k : Nat, k ≤ n ∧ i = .int .i64 k ∧ (zs.take k).any (fun y => y == x) = false) (fun i => n - (intOf i).toNat)
    case atStart => exact ⟨0, Nat.zero_le _, rfl, by simp⟩
    case round =>
      obtain ⟨k, hk, rfl, hno⟩ := hrel
      have HN0 := Lib.hid hno
      clear hno
      by_cases hkn : k < n
      · obtain ⟨_, _, e1, _, h1⟩ := HA.out k hkn
        cases e1
        have hkl : k < zs.length := by rw [HL.out]; exact hkn
        have HN := Lib.hid (any_next (fun y => y == x) zs k hkl)
        have HY := Lib.hid (any_yes (fun y => y == x) zs k hkl)
        generalize zs.getD k 0 = v at h1 HN HY
        cases hb : (v == x)
        · go_wp2
          go_round
          case rel => exact ⟨k + 1, by omega, by go_num, by rw [HN.out, HN0.out]; simp [hb]⟩
          case measure => simp [intOf]; omega
        · have ht : r = true := by rw [HR.out]; exact HY.out hb
          have HT := Lib.hid ht
          clear ht
          go_wp2
          go_ret
          exact ⟨ret_bool' HT.out.symm, rfl⟩
      · have ht : r = false := by
          have := HN0.out
          rw [List.take_of_length_le (by rw [HL.out]; omega)] at this
          rw [HR.out, this]
        have HT := Lib.hid ht
        clear ht
        go_wp2
        go_ret
        exact ⟨ret_bool' HT.out.symm, rfl⟩
end Go.Proofs.YtafhpbghogdipaaGreatDoor
