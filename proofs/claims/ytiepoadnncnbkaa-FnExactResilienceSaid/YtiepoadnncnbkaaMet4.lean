/- The program's crew.subsets: an iterator; its contract. -/
import Derived.Test.YtiepoadnncnbkaaMet0
import Derived.Test.YtiepoadnncnbkaaFam6
import Derived.RangeFuncNested
import Derived.RangeFuncBound
import Derived.RangeFuncCalls
import Derived.RangeFuncLeaves
import Derived.Shelf.Abstract
import Derived.Shelf.RegionOpen
import Derived.WalkKit
import Derived.OwnWalkIn
import Derived.TacticsInMore
import Derived.LoopNIn
import Derived.LoopIn
namespace Go.Proofs.Ytiepoadnncnbkaa
open Go.RowKit Go.Shelf
attribute [local go_sem] Oper.semAt_some
set_option maxHeartbeats 4000000

/-- The first k masks. -/
def upto (k : Nat) : List (Fin 64) := (List.finRange 64).take k
theorem upto_next {k : Nat} (hk : k < 64) : upto (k + 1) = upto k ++ [⟨k, hk⟩] := by
  unfold upto
  rw [List.take_succ_eq_append_getElem (by simpa using hk)]
  simp
theorem upto_len {k : Nat} (hk : k ≤ 64) : (upto k).length = k := by
  unfold upto
  simp
  omega

theorem subsets_stops (n : Nat) (hn : 1 ≤ n) (M : Nat) (hM1 : 1 ≤ M) (hM : M ≤ 64) (hin : ∀ s, s < M → inM s (M - 1) = true) (b : Nat) (w : World) (hb : b < w.heap.size) (hc : w.cell? ⟨b, 0, none⟩ = some (.int .u64 ((M - 1 : Nat) : Int))) :
    SeqStopsK Fence.wide n Try.prog 61 #[.pointer (some ⟨b, 0, none⟩)] (fun x : Fin 64 => #[Value.int .u64 (x.val : Int)]) (fun W W' => W'.cell? ⟨b, 0, none⟩ = W.cell? ⟨b, 0, none⟩) (fun xs => xs = upto M) (fun _ => True) M w := fun l J Jx W hW _ _ hY h0 => by
  have hcW : W.cell? ⟨b, 0, none⟩ = some (.int .u64 ((M - 1 : Nat) : Int)) := (hW.cell (p := ⟨b, 0, none⟩) hb).trans hc
  have hw1 : IntKind.u64.wrap (((M - 1 : Nat) : Int) + 1) = (M : Int) := by
    rw [show ((M - 1 : Nat) : Int) + 1 = (M : Int) by omega]
    exact IntWalk.u64_in _ (by omega)
  refine callsIn_of_wp Try.func61 rfl trivial ?_ rfl
  simp only [Try.ntmps61, List.size_toArray, List.length_cons, List.length_nil, Nat.reduceAdd, Nat.reduceSub, Array.replicate_succ, Array.replicate_zero, List.push_toArray, List.append_toArray, List.nil_append, List.cons_append]
  gi_wp2
  gi_loopw [6] (fun i wr => ∃ k : Nat, k ≤ M ∧ i = .int .u64 (k : Int) ∧ J (upto k) wr ∧ wr.cell? ⟨b, 0, none⟩ = some (.int .u64 ((M - 1 : Nat) : Int))) (fun i _ => M - (intOf i).toNat)
  case atStart => exact ⟨0, Nat.zero_le _, rfl, h0, hcW⟩
  case round =>
    obtain ⟨k, hk, rfl, hJ, hck⟩ := hrel
    by_cases hkn : k < M
    · have i1 : (k : Int) < M := by omega
      obtain ⟨fn, tmps, assign, body, hy, hR⟩ := hY (upto k) ⟨k, by omega⟩ wr hJ (by rw [upto_len (by omega)]; exact hkn)
      dsimp only at hy
      have HW := Lib.hid (within_is k (M - 1) wr (by omega) (by omega))
      rw [hin k hkn] at HW
      gi_wp2_with (first | (refine ⟨trivial, ?_⟩; gi_at_call 50; refine (callsIn_wide.2 HW.out).mono ?_; rintro e w' ⟨rfl, rfl⟩) | (gi_at_call 50; refine (callsIn_wide.2 HW.out).mono ?_; rintro e w' ⟨rfl, rfl⟩))
      refine hR.mono ?_
      rintro e W3 (⟨rfl, hJ3, hk3⟩ | ⟨rfl, hJx3⟩)
      · have hc3 : W3.cell? ⟨b, 0, none⟩ = some (.int .u64 ((M - 1 : Nat) : Int)) := hk3.trans hck
        have hk1 : IntKind.u64.wrap ((k : Int) + 1) = ((k + 1 : Nat) : Int) := by
          rw [show (k : Int) + 1 = ((k + 1 : Nat) : Int) by omega]
          exact IntWalk.u64_in _ (by omega)
        gi_wp2
        go_roundw
        case rel => exact ⟨k + 1, by omega, by go_num, by rw [upto_next (by omega)]; exact hJ3, hc3⟩
        case measure => simp [intOf]; omega
      · gi_wp2
        refine bodyPost_ret (results_none rfl _ _ _) rfl ?_
        exact ⟨⟨_, rfl⟩, .inr ⟨_, trivial, hJx3⟩⟩
    · obtain rfl : k = M := by omega
      gi_wp2
      go_end0
      exact ⟨⟨_, rfl⟩, .inl ⟨_, rfl, hJ⟩⟩
end Go.Proofs.Ytiepoadnncnbkaa
