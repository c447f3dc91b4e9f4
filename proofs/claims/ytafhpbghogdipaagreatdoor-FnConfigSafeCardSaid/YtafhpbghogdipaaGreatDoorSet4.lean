/- SetMask, the program's and the reference's, and the law FnExactSetMask. -/
import Derived.Test.YtafhpbghogdipaaGreatDoorSet3
namespace Go.Proofs.YtafhpbghogdipaaGreatDoor
open Go.RowKit
set_option maxHeartbeats 1000000

theorem sum_small {zs : List Int} : ∀ {k : Nat}, okTo zs k = true → sumTo zs k < 64
  | 0, _ => by show 0 < 64; omega
  | k + 1, h => by
    have h1 := sum_lt zs k h
    rw [okTo_next] at h
    simp only [Bool.and_eq_true, okAt] at h
    have h2 := pw_small (inB_iff.1 h.2.1).2
    show sumTo zs k + pw (zs.getD k 0) < 64
    omega
theorem set_at {zs : List Int} (h : setB zs = true) {k : Nat} (hk : k < zs.length) : 1 ≤ zs.getD k 0 ∧ zs.getD k 0 ≤ 6 := by
  unfold setB okTo at h
  have := List.all_eq_true.1 h k (List.mem_range.2 hk)
  simp only [okAt, Bool.and_eq_true] at this
  exact inB_iff.1 this.1
theorem sum_le (zs : List Int) : ∀ n k, k ≤ n → sumTo zs k ≤ sumTo zs n
  | 0, k, h => by
    have : k = 0 := by omega
    subst this
    exact Nat.le_refl _
  | n + 1, k, h => by
    by_cases hk : k = n + 1
    · subst hk; exact Nat.le_refl _
    · have := sum_le zs n k (by omega)
      show _ ≤ sumTo zs n + pw (zs.getD n 0)
      omega
theorem pw_next {q : Nat} (h : 1 ≤ q) : pw ((q + 1 : Nat) : Int) = 2 * pw (q : Int) := by
  unfold pw
  rw [show (((q + 1 : Nat) : Int) - 1).toNat = ((q : Int) - 1).toNat + 1 by omega, Nat.pow_succ]
  omega

/-- What SetMask hands back. -/
def maskOf (zs : List Int) : Int := if setB zs then (sumTo zs zs.length : Nat) else -1
theorem mask_yes {zs : List Int} (h : setB zs = true) : maskOf zs = (sumTo zs zs.length : Nat) := by simp [maskOf, h]
theorem mask_no {zs : List Int} (h : setB zs = false) : maskOf zs = -1 := by simp [maskOf, h]
theorem ret_int {a b : Int} (h : a = b) : Ending.returned (.int .i64 a) = .returned (.int .i64 b) := by rw [h]

theorem l1Mask_any (A : Option Addr) (n c : Nat) (zs : List Int) (w : World) (hA : Row w w.heap.size A (zs.map (Value.int .i64))) (hl : zs.length = n) (hn : n ≤ 1048576) (hs : setB zs = true) :
    Calls Tryz.prog 35 #[.slice A n c] w fun e w' => e = .returned (.int .i64 (sumTo zs zs.length : Nat)) ∧ w' = w := by
  have HA := Lib.hid (hA.src hl)
  have HL := Lib.hid hl
  have HSM := Lib.hid (sum_small (zs := zs) (k := zs.length) hs)
  have HV := Lib.hid hs
  clear hA hl hs
  by_cases hn0 : n ≤ 0
  · have hz : sumTo zs zs.length = 0 := by rw [show zs.length = 0 by rw [HL.out]; omega]; rfl
    rw [hz]
    clear hz
    go_enter Tryz.func35, Tryz.ntmps35
    go_wp2
    go_loop [3, 4] (fun mv iv => mv = .int .i64 0 ∧ ∃ x : Int, x < 0 ∧ iv = .int .i64 x) (fun _ i => (intOf i + 1).toNat)
    case atStart => exact ⟨rfl, _, by omega, rfl⟩
    case round =>
      obtain ⟨rfl, x, hx, rfl⟩ := hrel
      have hx' : ¬ 0 ≤ x := by omega
      go_wp2
      go_ret
      exact ⟨rfl, rfl⟩
  · obtain ⟨b, off, rfl, _, _⟩ := HA.out 0 (by omega)
    go_enter Tryz.func35, Tryz.ntmps35
    go_wp2
    go_loop [3, 4] (fun mv iv => ∃ x : Int, -1 ≤ x ∧ x < n ∧ iv = .int .i64 x ∧ mv = .int .i64 ((sumTo zs n - sumTo zs (x + 1).toNat : Nat) : Int)) (fun _ i => (intOf i + 1).toNat)
    case atStart => exact ⟨(n : Int) - 1, by omega, by omega, rfl, by rw [show ((n : Int) - 1 + 1).toNat = n by omega]; simp⟩
    case round =>
      obtain ⟨x, hx0, hx1, rfl, rfl⟩ := hrel
      by_cases hx : 0 ≤ x
      · obtain ⟨_, _, e1, _, h1⟩ := HA.out x.toNat (by omega)
        cases e1
        have hv := set_at HV.out (k := x.toNat) (by rw [HL.out]; omega)
        have HN := Lib.hid (show sumTo zs (x.toNat + 1) = sumTo zs x.toNat + pw (zs.getD x.toNat 0) from rfl)
        generalize zs.getD x.toNat 0 = v at h1 hv HN
        obtain ⟨v1, v6⟩ := hv
        have HS0 := Lib.hid HSM.out
        have hsum : sumTo zs n < 64 := by have := HSM.out; rw [HL.out] at this; exact this
        have hle : sumTo zs (x.toNat + 1) ≤ sumTo zs n := sum_le zs n _ (by omega)
        have HT := Lib.hid (show (x + 1).toNat = x.toNat + 1 by omega)
        obtain ⟨S, hS⟩ : ∃ S : Nat, S = sumTo zs n - sumTo zs (x + 1).toNat := ⟨_, rfl⟩
        have hS64 : S < 64 := by omega
        rw [← hS]
        have HSS := Lib.hid hS
        clear hS HS0
        have hk1 : (pw 1 : Nat) = 1 := rfl
        have HK1 := Lib.hid hk1
        clear hk1
        go_wp2
        go_loop [5, 6] (fun bv kv => ∃ q : Nat, 1 ≤ q ∧ (q : Int) ≤ v ∧ kv = .int .i64 q ∧ bv = .int .i64 ((pw (q : Int) : Nat) : Int)) (fun _ k => (v - intOf k).toNat)
        case atStart => exact ⟨1, by omega, by omega, rfl, rfl⟩
        case round =>
          obtain ⟨q, hq1, hq2, rfl, rfl⟩ := hrel
          have hp := pw_small (a := (q : Int)) (by omega)
          by_cases hqv : (q : Int) < v
          · have HP := Lib.hid (pw_next hq1)
            obtain ⟨P, hP⟩ : ∃ P : Nat, P = pw (q : Int) := ⟨_, rfl⟩
            rw [← hP] at hp ⊢
            have HPP := Lib.hid hP
            clear hP
            go_wp2
            go_round
            case rel => exact ⟨q + 1, by omega, by omega, by go_num, by rw [HP.out, ← HPP.out]; go_num⟩
            case measure => simp [intOf]; omega
          · obtain ⟨P, hP⟩ : ∃ P : Nat, P = pw (q : Int) := ⟨_, rfl⟩
            have HPV : Hid (P = pw v) := by rw [hP, show (q : Int) = v by omega]; rfl
            rw [← hP] at hp ⊢
            clear hP
            go_wp2
            go_round
            case rel =>
              refine ⟨x - 1, by omega, by omega, by go_num, ?_⟩
              have e1 := HN.out
              have e2 := HSS.out
              have e3 := HPV.out
              rw [HT.out] at e2
              rw [show (x - 1 + 1).toNat = x.toNat by omega]
              rw [show ((sumTo zs n - sumTo zs x.toNat : Nat) : Int) = (S : Int) + (P : Int) by omega]
            case measure => simp [intOf]; omega
      · have hfin : sumTo zs (x + 1).toNat = 0 := by rw [show (x + 1).toNat = 0 by omega]; rfl
        have HF := Lib.hid hfin
        clear hfin
        have hx' : x < 0 := by omega
        go_wp2
        go_ret
        exact ⟨ret_int (by rw [HF.out, HL.out, Nat.sub_zero]), rfl⟩
end Go.Proofs.YtafhpbghogdipaaGreatDoor
