/- The draw of FnLeaseValid's lease: Go leaves the order of three picks, two slices and two loads open. -/
import Derived.Test.YtanapkapojljkaaLse4
import Derived.Deep.DrawnRows
import Derived.BigRegion
namespace Go.Proofs.Ytanapkapojljkaa
open Go.RowKit
set_option maxHeartbeats 4000000
attribute [local go_sem ↓] Go.wp_at_zero Go.wp_at_succ

def lit3 (v : Int) : Int := if v = 0 then 0 else if v = 1 then 5 else 1000
def lit4 (v : Int) : Int := if v = 0 then 0 else if v = 1 then 5 else if v = 2 then 999 else 1000
theorem lit3_bd (v : Int) : 0 ≤ lit3 v ∧ lit3 v ≤ 1000 := by unfold lit3; split <;> (try split) <;> omega
theorem lit4_bd (v : Int) : 0 ≤ lit4 v ∧ lit4 v ≤ 1000 := by unfold lit4; split <;> (try split) <;> (try split) <;> omega
theorem lit3_cell (W : World) (T : TypeId) (g : Nat) (v : Int) (hg : g = W.heap.size) (h0 : 0 ≤ v) (h1 : v < 3) : (W.alloc (.cells #[.int .i64 0, .int .i64 5, .int .i64 1000] T)).cell? ⟨g, v.toNat, none⟩ = some (.int .i64 (lit3 v)) := by
  subst hg
  obtain ⟨k, rfl⟩ := Int.eq_ofNat_of_zero_le h0
  rcases (show k = 0 ∨ k = 1 ∨ k = 2 by omega) with rfl | rfl | rfl <;> simp [lit3]
theorem lit4_cell (W : World) (T : TypeId) (g : Nat) (v : Int) (hg : g = W.heap.size) (h0 : 0 ≤ v) (h1 : v < 4) : (W.alloc (.cells #[.int .i64 0, .int .i64 5, .int .i64 999, .int .i64 1000] T)).cell? ⟨g, v.toNat, none⟩ = some (.int .i64 (lit4 v)) := by
  subst hg
  obtain ⟨k, rfl⟩ := Int.eq_ofNat_of_zero_le h0
  rcases (show k = 0 ∨ k = 1 ∨ k = 2 ∨ k = 3 by omega) with rfl | rfl | rfl | rfl <;> simp [lit4]

set_option maxHeartbeats 40000000 in
theorem drawLeaseValid_any (A : Option Addr) (na ca : Nat) (zs : List Int) (w : World) (hI : Ints .u8 w A na ca zs) : Calls Try.prog 18 #[.slice A na ca] w fun e w' =>
    ∃ h s n : Int, e = .returned (.agg #[.int .i64 h, .int .i64 s, .int .i64 n]) ∧ (-1 ≤ h ∧ h ≤ 10 ∧ 0 ≤ s ∧ s ≤ 1000 ∧ 0 ≤ n ∧ n ≤ 1000) ∧ Below w.heap.size w w' := by
  go_enter Try.func18, Try.ntmps18
  go_wp2_with fail
  (refine (l6Open_any A na ca zs _ _ hI (by (repeat (first | (with_reducible exact Below.refl _ _) | (with_reducible assumption) | (with_reducible refine below_drewN ?_ _) | (with_reducible refine Below.drew ?_) | (with_reducible refine Below.alloc ?_ (by (first | omega | (show _ < _; omega) | (simp; omega) | (simp; done))) _) | (with_reducible refine Below.setCell ?_ (by (first | omega | (show _ < _; omega) | (simp; omega) | (simp; done))) _) | (with_reducible refine Below.trans ?_ (Below.mono (by with_reducible assumption) (by (first | omega | (show _ < _; omega) | (simp; omega) | (simp; done))))) | (with_reducible refine below_grown ?_ (by with_reducible assumption) (by (first | omega | (show _ < _; omega) | (simp; omega) | (simp; done))) (by (first | omega | (show _ < _; omega) | (simp; omega) | (simp; done)))))))).mono ?_; rintro e w1 ⟨rfl, n', c', rfl, hrd⟩; simp only [World.size_alloc] at hrd)
  have a1 : ¬ w.heap.size + 1 = w.heap.size := by omega
  have a2 : ¬ w.heap.size + 1 + 1 = w.heap.size := by omega
  have a3 : ¬ w.heap.size + 1 + 1 + 1 = w.heap.size := by omega
  have a4 : ¬ w.heap.size = w.heap.size + 1 := by omega
  have K3 := lit3_cell
  have K4 := lit4_cell
  go_wp2_with fail
  go_region_with (first | (go_at_call 33; ((apply Calls.mono; focus (apply pick_abs; (focus (repeat (first | (with_reducible assumption) | (with_reducible apply Rdr.drewN) | (with_reducible apply Rdr.drew) | (with_reducible apply Rdr.alloc) | (with_reducible apply Rdr.next) | (with_reducible apply Rdr.keepB; with_reducible assumption) | (with_reducible apply Rdr.setCell; (first | omega | (show _ < _; omega) | (simp; omega) | (simp; done))) | (with_reducible apply Rdr.setLow; (first | omega | (show _ < _; omega) | (simp; omega) | (simp; done)); (first | omega | (show _ < _ ∨ _ < _; omega) | (simp; omega)))))); omega)); rintro e wp ⟨v, rfl, hv0, hv1, hrd, hsz, hcp, hfp, hgp⟩; replace hv1 := hv1 (by omega); try simp at hsz)))
  all_goals try go_wp2_with fail
  all_goals refine bodyPost_ret (by simp only [results, Try.results18]; go_simp; try rfl) rfl ?_
  all_goals refine ⟨_, _, _, rfl, ⟨?_, ?_, ?_, ?_, ?_, ?_⟩, ?_⟩
  all_goals first | omega | exact (lit3_bd _).1 | exact (lit3_bd _).2 | exact (lit4_bd _).1 | exact (lit4_bd _).2 | (rw [IntWalk.i64_in _ (by omega)]; omega) | ((repeat (first | (with_reducible exact Below.refl _ _) | (with_reducible assumption) | (with_reducible refine below_drewN ?_ _) | (with_reducible refine Below.drew ?_) | (with_reducible refine Below.alloc ?_ (by (first | omega | (show _ < _; omega) | (simp; omega) | (simp; done))) _) | (with_reducible refine Below.setCell ?_ (by (first | omega | (show _ < _; omega) | (simp; omega) | (simp; done))) _) | (with_reducible refine Below.trans ?_ (Below.mono (by with_reducible assumption) (by (first | omega | (show _ < _; omega) | (simp; omega) | (simp; done))))) | (with_reducible refine below_grown ?_ (by with_reducible assumption) (by (first | omega | (show _ < _; omega) | (simp; omega) | (simp; done))) (by (first | omega | (show _ < _; omega) | (simp; omega) | (simp; done)))))); done)
end Go.Proofs.Ytanapkapojljkaa
