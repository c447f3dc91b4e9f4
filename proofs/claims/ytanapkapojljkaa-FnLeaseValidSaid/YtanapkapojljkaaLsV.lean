/- The law FnLeaseValid: its walk. -/
import Derived.Test.YtanapkapojljkaaLsV0
namespace Go.Proofs.Ytanapkapojljkaa
open Go.RowKit
set_option maxHeartbeats 4000000
theorem implValid_zero (w : World) : Calls Try.prog 17 #[.agg #[.int .i64 0, .int .i64 0, .int .i64 0]] w fun e w' => e = .returned (.bool true) ∧ Below w.heap.size w w' :=
  implLeaseValid_any 0 0 0 w

theorem leaseValid_walk (A : Option Addr) (na ca : Nat) (zs : List Int) (w : World) (hI : Ints .u8 w A na ca zs) : Calls Try.prog 4 #[.slice A na ca] w fun e w' => e = .returned (.bool true) ∧ Below w.heap.size w w' := by
  have hmx := hI.max
  unfold maxLen at hmx
  by_cases hl : 1048576 < na
  · go_enter Try.func4, Try.ntmps4
    go_wp2
    go_ret
    exact ⟨rfl, Below.refl _ _⟩
  go_enter Try.func4, Try.ntmps4
  go_wp2_with fail
  refine (drawLeaseValid_any A na ca zs _ hI).mono ?_
  rintro e wd ⟨h, s, n, rfl, ⟨b1, b2, b3, b4, b5, b6⟩, hb_wd⟩
  have hsz_wd := hb_wd.size
  obtain ⟨hc_wd, hf_wd⟩ := bcell hb_wd
  go_wp2_with fail
  refine (implLeaseValid_any _ _ _ _).mono ?_
  (rintro e wi ⟨rfl, hb_wi⟩; have hsz_wi := hb_wi.size; (try simp at hsz_wi); obtain ⟨hc_wi, hf_wi⟩ := bcell hb_wi; obtain ⟨_, _, _, _, _, _, _⟩ := ups (a := wd.heap.size) (b := wi.heap.size) (by omega); have hk_wi := fun o => hc_wi (wd.heap.size) o (by first | omega | (simp; done) | (simp; omega)))
  go_wp2_with fail
  refine (specLeaseValid_any _ _ _ _).mono ?_
  (rintro e ws ⟨rfl, hb_ws⟩; have hsz_ws := hb_ws.size; (try simp at hsz_ws); obtain ⟨hc_ws, hf_ws⟩ := bcell hb_ws; obtain ⟨_, _, _, _, _, _, _⟩ := ups (a := wd.heap.size) (b := ws.heap.size) (by omega); have hk_ws := fun o => hc_ws (wd.heap.size) o (by first | omega | (simp; done) | (simp; omega)))
  rcases lse_cases h s n with ⟨rfl, rfl, rfl, hV⟩ | ⟨rfl, g1, hV⟩ | ⟨rfl, rfl, g1, hV⟩ | ⟨g1, hV⟩ | ⟨g1, hV⟩ | ⟨g1, g2, g3, hV⟩ | ⟨g1, g2, g3, hV⟩ | ⟨g1, g2, g3, g4, g5, hV⟩ | ⟨g1, g2, g3, g4, g5, hV⟩ | ⟨g1, g2, g3, g4, g5, g6, hV⟩
  all_goals try (exfalso; omega)
  all_goals go_wp2_with fail
  all_goals try (go_at_call 17; refine (implValid_zero _).mono ?_; (rintro e wj ⟨rfl, hb_wj⟩; have hsz_wj := hb_wj.size; (try simp at hsz_wj); obtain ⟨hc_wj, hf_wj⟩ := bcell hb_wj; obtain ⟨_, _, _, _, _, _, _⟩ := ups (a := wd.heap.size) (b := wj.heap.size) (by omega); have hk_wj := fun o => hc_wj (wd.heap.size) o (by first | omega | (simp; done) | (simp; omega))); go_wp2_with fail)
  all_goals go_ret
  all_goals exact ⟨by first | rfl | (apply ret_bool; simp; omega) | (apply ret_bool; simp [*]; done), by (repeat (first | (with_reducible exact Below.refl _ _) | (with_reducible assumption) | (with_reducible refine below_drewN ?_ _) | (with_reducible refine Below.drew ?_) | (with_reducible refine Below.alloc ?_ (by (first | omega | (show _ < _; omega) | (simp; omega) | (simp; done))) _) | (with_reducible refine Below.setCell ?_ (by (first | omega | (show _ < _; omega) | (simp; omega) | (simp; done))) _) | (with_reducible refine Below.trans ?_ (Below.mono (by with_reducible assumption) (by (first | omega | (show _ < _; omega) | (simp; omega) | (simp; done))))) | (with_reducible refine below_grown ?_ (by with_reducible assumption) (by (first | omega | (show _ < _; omega) | (simp; omega) | (simp; done))) (by (first | omega | (show _ < _; omega) | (simp; omega) | (simp; done))))))⟩
end Go.Proofs.Ytanapkapojljkaa
