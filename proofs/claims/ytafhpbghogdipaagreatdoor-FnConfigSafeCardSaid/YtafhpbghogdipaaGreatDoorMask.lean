/- The reference's l1OfMask: the list of a mask's members. -/
import Derived.Test.YtafhpbghogdipaaGreatDoorAcc1
import Derived.Test.YtafhpbghogdipaaGreatDoorOwn
import Derived.LoopTactic
namespace Go.Proofs.YtafhpbghogdipaaGreatDoor
open Go.RowKit
set_option maxHeartbeats 1000000

/-- The members among the first k that a mask has. -/
def ofTo (mask : Nat) : Nat → List Int
  | 0 => []
  | k + 1 => ofTo mask k ++ (if mask / 2 ^ k % 2 = 1 then [(k : Int) + 1] else [])
theorem ofTo_len (mask : Nat) : ∀ k, (ofTo mask k).length ≤ k
  | 0 => by simp [ofTo]
  | k + 1 => by
    have := ofTo_len mask k
    unfold ofTo
    split <;> simp <;> omega
theorem ofTo_bd (mask : Nat) : ∀ k, ∀ z ∈ ofTo mask k, 1 ≤ z ∧ z ≤ k
  | 0 => by simp [ofTo]
  | k + 1 => by
    intro z hz
    have ih := ofTo_bd mask k
    unfold ofTo at hz
    rw [List.mem_append] at hz
    rcases hz with hz | hz
    · have := ih z hz
      omega
    · split at hz <;> simp at hz
      omega
theorem mask_half (mask k : Nat) : mask / 2 ^ k / 2 = mask / 2 ^ (k + 1) := by
  rw [Nat.div_div_eq_div_mul, Nat.pow_succ]

theorem l1OfMask_any (mask : Nat) (hm : mask ≤ 1000000) (w : World) : Calls Tryz.prog 66 #[.int .i64 (mask : Int)] w fun e w' =>
    ∃ v, e = .returned v ∧ OwnI w' w.heap.size v (ofTo mask 6) ∧ Below w.heap.size w w' := by
  go_enter Tryz.func66, Tryz.ntmps66
  go_wp2
  go_loopw [0, 3, 4] (fun q v i wr => ∃ k : Nat, k ≤ 6 ∧ i = .int .i64 ((k + 1 : Nat) : Int) ∧ q = .int .i64 ((mask / 2 ^ k : Nat) : Int) ∧ OwnI wr w.heap.size v (ofTo mask k) ∧ Below w.heap.size w wr) (fun _ _ i _ => 7 - (intOf i).toNat)
  case atStart => exact ⟨0, by omega, rfl, by simp, owns_empty w _ (Nat.le_refl _), (Below.refl _ _).alloc (Nat.le_refl _) _⟩
  case round =>
    obtain ⟨k, hk, rfl, rfl, hown, hB⟩ := hrel
    have hsz := hB.size
    have hln := ofTo_len mask k
    by_cases hk6 : k < 6
    · have hn : ofTo mask (k + 1) = ofTo mask k ++ (if mask / 2 ^ k % 2 = 1 then [(k : Int) + 1] else []) := rfl
      have hh := mask_half mask k
      have hq1 : mask / 2 ^ k ≤ 1000000 := Nat.le_trans (Nat.div_le_self _ _) hm
      obtain ⟨q, hq⟩ : ∃ q, q = mask / 2 ^ k := ⟨_, rfl⟩
      rw [← hq] at hh hn hq1 ⊢
      have HQ := Lib.hid hq
      have HN := Lib.hid hn
      have HH := Lib.hid hh
      clear hq hn hh
      by_cases hb : q % 2 = 1
      · have hb1 : (((q : Int) % 2) == 1) = true := by simp; omega
        have hb2 : (q : Int) % 2 = 1 := by omega
        have HB2 := Lib.hid hb
        clear hb
        go_wp2_with (at_builtin; refine wpl_append_int rfl _ _ rfl _ _ _ _ rfl hown rfl (by omega) hsz ?_; intro v' w1 hown1 hb1 _ _)
        go_roundw
        case rel => exact ⟨k + 1, by omega, by go_num, by rw [← HH.out]; go_num, by rw [HN.out, if_pos HB2.out]; exact hown1, hB.trans hb1⟩
        case measure => simp [intOf]; omega
      · have hb1 : (((q : Int) % 2) == 1) = false := by simp; omega
        have hb2 : ¬ (q : Int) % 2 = 1 := by omega
        have HB2 := Lib.hid hb
        clear hb
        go_wp2
        go_roundw
        case rel => exact ⟨k + 1, by omega, by go_num, by rw [← HH.out]; go_num, by rw [HN.out, if_neg HB2.out, List.append_nil]; exact hown, hB⟩
        case measure => simp [intOf]; omega
    · obtain rfl : k = 6 := by omega
      have HO := Lib.hid hown
      clear hown
      go_wp2
      go_ret
      exact ⟨_, rfl, HO.out, hB⟩
end Go.Proofs.YtafhpbghogdipaaGreatDoor
