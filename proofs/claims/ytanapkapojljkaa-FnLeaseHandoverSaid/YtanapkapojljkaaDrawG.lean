/- The draw of LeaseGrant's arguments. -/
import Derived.Test.YtanapkapojljkaaLse7
namespace Go.Proofs.Ytanapkapojljkaa
open Go.RowKit
set_option maxHeartbeats 4000000
attribute [local go_sem ↓] Go.wp_at_zero Go.wp_at_succ

theorem drawGrant_any (A : Option Addr) (na ca : Nat) (zs : List Int) (w : World) (hI : Ints .u8 w A na ca zs) : Calls Try.prog 28 #[.slice A na ca] w fun e w' =>
    ∃ h s n t d o m : Int, e = .returned (.tuple #[.agg #[.int .i64 h, .int .i64 s, .int .i64 n], .int .i64 o, .int .i64 t, .int .i64 m, .int .i64 d]) ∧ (0 ≤ h ∧ h ≤ 6 ∧ 0 ≤ s ∧ s ≤ 59 ∧ 0 ≤ n ∧ n ≤ 30 ∧ -10 ≤ t ∧ t ≤ 200 ∧ -9 ≤ d ∧ d ≤ 7 ∧ 1 ≤ o ∧ o ≤ 6 ∧ 1 ≤ m ∧ m ≤ 30) ∧ Below w.heap.size w w' := by
  go_enter Try.func28, Try.ntmps28
  go_wp2_with fail
  (refine (l6Open_any A na ca zs _ _ hI (by (repeat (first | (with_reducible exact Below.refl _ _) | (with_reducible assumption) | (with_reducible refine below_drewN ?_ _) | (with_reducible refine Below.drew ?_) | (with_reducible refine Below.alloc ?_ (by (first | omega | (show _ < _; omega) | (simp; omega) | (simp; done))) _) | (with_reducible refine Below.setCell ?_ (by (first | omega | (show _ < _; omega) | (simp; omega) | (simp; done))) _) | (with_reducible refine Below.trans ?_ (Below.mono (by with_reducible assumption) (by (first | omega | (show _ < _; omega) | (simp; omega) | (simp; done))))) | (with_reducible refine below_grown ?_ (by with_reducible assumption) (by (first | omega | (show _ < _; omega) | (simp; omega) | (simp; done))) (by (first | omega | (show _ < _; omega) | (simp; omega) | (simp; done)))))))).mono ?_; rintro e w1 ⟨rfl, n', c', rfl, hrd⟩; simp only [World.size_alloc] at hrd)
  go_wp2_with fail
  refine (drawActive_any A na ca zs _ (hI.below (by (repeat (first | (with_reducible exact Below.refl _ _) | (with_reducible assumption) | (with_reducible refine below_drewN ?_ _) | (with_reducible refine Below.drew ?_) | (with_reducible refine Below.alloc ?_ (by (first | omega | (show _ < _; omega) | (simp; omega) | (simp; done))) _) | (with_reducible refine Below.setCell ?_ (by (first | omega | (show _ < _; omega) | (simp; omega) | (simp; done))) _) | (with_reducible refine Below.trans ?_ (Below.mono (by with_reducible assumption) (by (first | omega | (show _ < _; omega) | (simp; omega) | (simp; done))))) | (with_reducible refine below_grown ?_ (by with_reducible assumption) (by (first | omega | (show _ < _; omega) | (simp; omega) | (simp; done))) (by (first | omega | (show _ < _; omega) | (simp; omega) | (simp; done))))))))).mono ?_
  rintro e wd ⟨h, s, n, t, d, rfl, ⟨_, _, _, _, _, _, _, _, _, _⟩, hb_wd⟩
  have hsz_wd := hb_wd.size
  try simp at hsz_wd
  obtain ⟨hc_wd, hf_wd⟩ := bcell hb_wd
  obtain ⟨_, _, _, _, _, _, _⟩ := ups (a := w.heap.size) (b := wd.heap.size) (by omega)
  have hw1 : ¬ wd.heap.size = w.heap.size + 1 := by omega
  have hw9 : ¬ wd.heap.size = w.heap.size := by omega
  have hw0 : ¬ w.heap.size = w.heap.size + 1 := by omega
  go_wp2_with fail
  ((apply Calls.mono; focus (apply pick_abs; (focus (repeat (first | (with_reducible assumption) | (with_reducible apply Rdr.drewN) | (with_reducible apply Rdr.drew) | (with_reducible apply Rdr.alloc) | (with_reducible apply Rdr.next) | (with_reducible apply Rdr.keepB; with_reducible assumption) | (with_reducible apply Rdr.setCell; (first | omega | (show _ < _; omega) | (simp; omega) | (simp; done))) | (with_reducible apply Rdr.setLow; (first | omega | (show _ < _; omega) | (simp; omega) | (simp; done)); (first | omega | (show _ < _ ∨ _ < _; omega) | (simp; omega)))))); omega)); rintro e wp ⟨v, rfl, hv0, hv1, hrd, hsz, hcp, hfp, hgp⟩; replace hv1 := hv1 (by omega); try simp at hsz)
  have p0 : wp.cell? ⟨wd.heap.size, 0, none⟩ = some (.int .i64 h) := by rw [hcp _ _ hw1]; simp
  have p1 : wp.cell? ⟨wd.heap.size, 1, none⟩ = some (.int .i64 s) := by rw [hcp _ _ hw1]; simp
  have p2 : wp.cell? ⟨wd.heap.size, 2, none⟩ = some (.int .i64 n) := by rw [hcp _ _ hw1]; simp
  by_cases hp : 0 < h
  · go_wp2_with fail
    (apply Calls.mono; focus (apply pick_abs; (focus (repeat (first | (with_reducible assumption) | (with_reducible apply Rdr.drewN) | (with_reducible apply Rdr.drew) | (with_reducible apply Rdr.alloc) | (with_reducible apply Rdr.next) | (with_reducible apply Rdr.keepB; with_reducible assumption) | (with_reducible apply Rdr.setCell; (first | omega | (show _ < _; omega) | (simp; omega) | (simp; done))) | (with_reducible apply Rdr.setLow; (first | omega | (show _ < _; omega) | (simp; omega) | (simp; done)); (first | omega | (show _ < _ ∨ _ < _; omega) | (simp; omega)))))); omega))
    rintro e wu ⟨u, rfl, hu0, hu1, hrdu, hszu, hcu, hfu, hgu⟩
    replace hu1 := hu1 (by omega)
    have q0 := (hcu _ 0 hw1).trans p0
    have q1 := (hcu _ 1 hw1).trans p1
    have q2 := (hcu _ 2 hw1).trans p2
    try simp at hszu
    cases hu : (u == 0)
    all_goals go_wp2_with fail
    all_goals go_region_held3 (fun w' => w'.cell? ⟨wd.heap.size, 0, none⟩ = some (.int .i64 h) ∧ w'.cell? ⟨wd.heap.size, 1, none⟩ = some (.int .i64 s) ∧ w'.cell? ⟨wd.heap.size, 2, none⟩ = some (.int .i64 n)) ((first | exact ⟨q0, q1, q2⟩ | (have hh := ‹_ ∧ _ ∧ _›; exact ⟨(hcp _ _ hw1).trans hh.1, (hcp _ _ hw1).trans hh.2.1, (hcp _ _ hw1).trans hh.2.2⟩) | (simp only [cell_far hw9]; assumption))) (first | (go_at_call 33; ((apply Calls.mono; focus (apply pick_abs; (focus (repeat (first | (with_reducible assumption) | (with_reducible apply Rdr.drewN) | (with_reducible apply Rdr.drew) | (with_reducible apply Rdr.alloc) | (with_reducible apply Rdr.next) | (with_reducible apply Rdr.keepB; with_reducible assumption) | (with_reducible apply Rdr.setCell; (first | omega | (show _ < _; omega) | (simp; omega) | (simp; done))) | (with_reducible apply Rdr.setLow; (first | omega | (show _ < _; omega) | (simp; omega) | (simp; done)); (first | omega | (show _ < _ ∨ _ < _; omega) | (simp; omega)))))); omega)); rintro e wp ⟨v, rfl, hv0, hv1, hrd, hsz, hcp, hfp, hgp⟩; replace hv1 := hv1 (by omega); try simp at hsz)))
    all_goals try go_wp2_with fail
    all_goals refine bodyPost_ret (by simp only [results, Try.results28]; go_simp; try rfl) rfl ?_
    all_goals refine ⟨_, _, _, _, _, _, _, rfl, ⟨?_, ?_, ?_, ?_, ?_, ?_, ?_, ?_, ?_, ?_, ?_, ?_, ?_, ?_⟩, ?_⟩
    all_goals first | omega | (rw [IntWalk.i64_in _ (by omega)]; omega) | ((repeat (first | (with_reducible exact Below.refl _ _) | (with_reducible assumption) | (with_reducible refine below_drewN ?_ _) | (with_reducible refine Below.drew ?_) | (with_reducible refine Below.alloc ?_ (by (first | omega | (show _ < _; omega) | (simp; omega) | (simp; done))) _) | (with_reducible refine Below.setCell ?_ (by (first | omega | (show _ < _; omega) | (simp; omega) | (simp; done))) _) | (with_reducible refine Below.trans ?_ (Below.mono (by with_reducible assumption) (by (first | omega | (show _ < _; omega) | (simp; omega) | (simp; done))))) | (with_reducible refine below_grown ?_ (by with_reducible assumption) (by (first | omega | (show _ < _; omega) | (simp; omega) | (simp; done))) (by (first | omega | (show _ < _; omega) | (simp; omega) | (simp; done)))))); done)
  · go_wp2_with fail
    go_region_held3 (fun w' => w'.cell? ⟨wd.heap.size, 0, none⟩ = some (.int .i64 h) ∧ w'.cell? ⟨wd.heap.size, 1, none⟩ = some (.int .i64 s) ∧ w'.cell? ⟨wd.heap.size, 2, none⟩ = some (.int .i64 n)) ((first | exact ⟨p0, p1, p2⟩ | (have hh := ‹_ ∧ _ ∧ _›; exact ⟨(hcp _ _ hw1).trans hh.1, (hcp _ _ hw1).trans hh.2.1, (hcp _ _ hw1).trans hh.2.2⟩) | (simp only [cell_far hw9]; assumption))) (first | (go_at_call 33; ((apply Calls.mono; focus (apply pick_abs; (focus (repeat (first | (with_reducible assumption) | (with_reducible apply Rdr.drewN) | (with_reducible apply Rdr.drew) | (with_reducible apply Rdr.alloc) | (with_reducible apply Rdr.next) | (with_reducible apply Rdr.keepB; with_reducible assumption) | (with_reducible apply Rdr.setCell; (first | omega | (show _ < _; omega) | (simp; omega) | (simp; done))) | (with_reducible apply Rdr.setLow; (first | omega | (show _ < _; omega) | (simp; omega) | (simp; done)); (first | omega | (show _ < _ ∨ _ < _; omega) | (simp; omega)))))); omega)); rintro e wp ⟨v, rfl, hv0, hv1, hrd, hsz, hcp, hfp, hgp⟩; replace hv1 := hv1 (by omega); try simp at hsz)))
    all_goals try go_wp2_with fail
    all_goals refine bodyPost_ret (by simp only [results, Try.results28]; go_simp; try rfl) rfl ?_
    all_goals refine ⟨_, _, _, _, _, _, _, rfl, ⟨?_, ?_, ?_, ?_, ?_, ?_, ?_, ?_, ?_, ?_, ?_, ?_, ?_, ?_⟩, ?_⟩
    all_goals first | omega | (rw [IntWalk.i64_in _ (by omega)]; omega) | ((repeat (first | (with_reducible exact Below.refl _ _) | (with_reducible assumption) | (with_reducible refine below_drewN ?_ _) | (with_reducible refine Below.drew ?_) | (with_reducible refine Below.alloc ?_ (by (first | omega | (show _ < _; omega) | (simp; omega) | (simp; done))) _) | (with_reducible refine Below.setCell ?_ (by (first | omega | (show _ < _; omega) | (simp; omega) | (simp; done))) _) | (with_reducible refine Below.trans ?_ (Below.mono (by with_reducible assumption) (by (first | omega | (show _ < _; omega) | (simp; omega) | (simp; done))))) | (with_reducible refine below_grown ?_ (by with_reducible assumption) (by (first | omega | (show _ < _; omega) | (simp; omega) | (simp; done))) (by (first | omega | (show _ < _; omega) | (simp; omega) | (simp; done)))))); done)

end Go.Proofs.Ytanapkapojljkaa
