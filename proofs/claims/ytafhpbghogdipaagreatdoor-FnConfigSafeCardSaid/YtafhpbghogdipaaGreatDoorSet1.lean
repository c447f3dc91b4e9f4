/- SetValid: the reference's walk. -/
import Derived.Test.YtafhpbghogdipaaGreatDoorWts0
namespace Go.Proofs.YtafhpbghogdipaaGreatDoor
open Go.RowKit

/-- The place j of a list is as a member set wants it. -/
def okAt (zs : List Int) (j : Nat) : Bool := inB (zs.getD j 0) 1 6 && (j == 0 || decide (zs.getD (j - 1) 0 < zs.getD j 0))
def okTo (zs : List Int) (k : Nat) : Bool := (List.range k).all (okAt zs)
/-- A list is a member set. -/
def setB (zs : List Int) : Bool := okTo zs zs.length
theorem okTo_next (zs : List Int) (k : Nat) : okTo zs (k + 1) = (okTo zs k && okAt zs k) := by
  unfold okTo
  rw [List.range_succ, List.all_append]
  simp only [List.all_cons, List.all_nil, Bool.and_true]
theorem set_bad (zs : List Int) (k : Nat) (h : k < zs.length) (hb : okAt zs k = false) : setB zs = false := by
  unfold setB okTo
  rw [List.all_eq_false]
  exact ⟨k, List.mem_range.2 h, by simp [hb]⟩
theorem okAt_iff {zs : List Int} {k : Nat} {v : Int} (hv : zs.getD k 0 = v) : okAt zs k = (inB v 1 6 && (k == 0 || decide (zs.getD (k - 1) 0 < v))) := by rw [okAt, hv]

set_option maxHeartbeats 1000000
theorem specSetValid_any (A : Option Addr) (n c : Nat) (zs : List Int) (w : World) (hA : Row w w.heap.size A (zs.map (Value.int .i64))) (hl : zs.length = n) (hn : n ≤ 1048576) :
    Calls Tryz.prog 34 #[.slice A n c] w fun e w' => e = .returned (.bool (setB zs)) ∧ ∃ m, w' = w.drewN m := by
  have HA := Lib.hid (hA.src hl)
  have HL := Lib.hid hl
  clear hA hl
  by_cases hn0 : n ≤ 0
  · have hr : setB zs = true := by
      have : zs = [] := List.eq_nil_of_length_eq_zero (by rw [HL.out]; omega)
      rw [this]
      rfl
    rw [hr]
    clear hr
    go_enter Tryz.func34, Tryz.ntmps34
    go_wp2
    go_loopw [3] (fun i wr => ∃ k m : Nat, k ≤ n ∧ i = .int .i64 k ∧ wr = w.drewN m) (fun i _ => n - (intOf i).toNat)
    case atStart => exact ⟨0, 0, Nat.zero_le _, rfl, rfl⟩
    case round =>
      obtain ⟨k, m, hk, rfl, rfl⟩ := hrel
      have hkn : ¬ k < n := by omega
      go_wp2
      go_ret
      exact ⟨rfl, m, rfl⟩
  · obtain ⟨b, off, rfl, _, _⟩ := HA.out 0 (by omega)
    go_enter Tryz.func34, Tryz.ntmps34
    go_wp2
    go_loopw [3] (fun i wr => ∃ k m : Nat, k ≤ n ∧ i = .int .i64 k ∧ wr = w.drewN m ∧ okTo zs k = true) (fun i _ => n - (intOf i).toNat)
    case atStart => exact ⟨0, 0, Nat.zero_le _, rfl, rfl, by simp [okTo]⟩
    case round =>
      obtain ⟨k, m, hk, rfl, hw, hok⟩ := hrel
      have HW := Lib.hid hw
      have HK := Lib.hid hok
      clear hw hok
      by_cases hkn : k < n
      · obtain ⟨_, _, e1, _, h1⟩ := HA.out k hkn
        cases e1
        have hkl : k < zs.length := by rw [HL.out]; exact hkn
        have HO := Lib.hid (@okAt_iff zs k _ rfl)
        have hc1 : wr.cell? ⟨b, off + k, none⟩ = some (.int .i64 (zs.getD k 0)) := by rw [HW.out]; exact h1
        clear h1
        generalize zs.getD k 0 = v at hc1 HO
        have i1 : (k : Int) < n := by omega
        cases hb : inB v 1 6
        · have hr : setB zs = false := set_bad zs k hkl (by rw [HO.out, hb]; rfl)
          have HR := Lib.hid hr
          clear hr
          go_wp2
          go_quiet ((go_at_call 69; exact Calls.quiet_of_same (l6In_any _ _ _ _)))
          go_wp2
          go_ret
          exact ⟨ret_bool' HR.out.symm, _, by rw [HW.out, World.drewN_drewN]⟩
        · by_cases hk0 : k = 0
          · have hd : decide ((0 : Int) < k) = false := by simp; omega
            have hd0 : decide (0 < k) = false := by simp; omega
            have HN : Hid (okTo zs (k + 1) = true) := by
              have := okTo_next zs k
              rw [HK.out, HO.out, hb] at this
              simp [hk0] at this ⊢
              exact this
            clear hk0
            go_wp2
            go_quiet ((go_at_call 69; exact Calls.quiet_of_same (l6In_any _ _ _ _)))
            go_wp2
            go_roundw
            case rel => exact ⟨k + 1, _, by omega, by go_num, by rw [HW.out, World.drewN_drewN], HN.out⟩
            case measure => simp [intOf]; omega
          · have hd : decide ((0 : Int) < k) = true := by simp; omega
            have hd0 : decide (0 < k) = true := by simp; omega
            obtain ⟨_, _, e2, _, h2⟩ := HA.out (k - 1) (by omega)
            cases e2
            have hc2 : wr.cell? ⟨b, off + (k - 1), none⟩ = some (.int .i64 (zs.getD (k - 1) 0)) := by rw [HW.out]; exact h2
            clear h2
            generalize zs.getD (k - 1) 0 = u at hc2 HO
            have j1 : IntKind.i64.wrap ((k : Int) - 1) = (k : Int) - 1 := IntWalk.i64_in _ (by omega)
            have j2 : (0 : Int) ≤ (k : Int) - 1 := by omega
            have j2' : (1 : Int) ≤ (k : Int) := by omega
            have j3 : ((k : Int) - 1).toNat = k - 1 := by omega
            have j4 : (k : Int) - 1 < n := by omega
            by_cases huv : u < v
            · have hd2 : decide (v ≤ u) = false := by simp; omega
              have hnext : okTo zs (k + 1) = true := by
                rw [okTo_next, HK.out, HO.out, hb]
                simp [huv]
              have HN := Lib.hid hnext
              clear hnext hk0 huv
              go_wp2
              go_quiet ((go_at_call 69; exact Calls.quiet_of_same (l6In_any _ _ _ _)))
              clear j1 j2 j3 j4
              go_wp2
              go_roundw
              case rel => exact ⟨k + 1, _, by omega, by go_num, by rw [HW.out, World.drewN_drewN], HN.out⟩
              case measure => simp [intOf]; omega
            · have hd2 : decide (v ≤ u) = true := by simp; omega
              have hr : setB zs = false := set_bad zs k hkl (by rw [HO.out, hb]; simp [hk0]; omega)
              have HR := Lib.hid hr
              clear hr hk0 huv
              go_wp2
              go_quiet ((go_at_call 69; exact Calls.quiet_of_same (l6In_any _ _ _ _)))
              go_wp2
              go_ret
              exact ⟨ret_bool' HR.out.symm, _, by rw [HW.out, World.drewN_drewN]⟩
      · have hr : setB zs = true := by
          have := HK.out
          rw [show k = zs.length by rw [HL.out]; omega] at this
          exact this
        have HR := Lib.hid hr
        clear hr
        go_wp2
        go_ret
        exact ⟨ret_bool' HR.out.symm, m, HW.out⟩
end Go.Proofs.YtafhpbghogdipaaGreatDoor
