/- The law FnLeaseDrift: its walk. -/
import Derived.Test.YtanapkapojljkaaLsL
namespace Go.Proofs.Ytanapkapojljkaa
open Go.RowKit
set_option maxHeartbeats 8000000

theorem leaseDrift_walk (A : Option Addr) (na ca : Nat) (zs : List Int) (A2 : Option Addr) (n2 c2 : Nat) (zs2 : List Int) (w : World) (hI : Ints .u8 w A na ca zs) (hI2 : Ints .u8 w A2 n2 c2 zs2) : Calls Try.prog 10 #[.slice A na ca, .slice A2 n2 c2] w fun e w' => e = .returned (.bool true) ∧ Below w.heap.size w w' := by
  have hmx := hI.max
  unfold maxLen at hmx
  have hmx2 := hI2.max
  unfold maxLen at hmx2
  have hcp2 := hI2.cap
  by_cases hl : 1048576 < na
  · go_enter Try.func10, Try.ntmps10
    go_wp2
    go_ret
    exact ⟨rfl, Below.refl _ _⟩
  by_cases hl2 : 1048576 < n2
  · go_enter Try.func10, Try.ntmps10
    go_wp2
    go_ret
    exact ⟨rfl, Below.refl _ _⟩
  go_enter Try.func10, Try.ntmps10
  go_wp2_with fail
  refine (drawActive_any A na ca zs _ hI).mono ?_
  rintro e wd ⟨h, s, n, t, d, rfl, ⟨b1, b2, b3, b4, b5, b6, b7, b8, b9, b10⟩, hb_wd⟩
  have hsz_wd := hb_wd.size
  obtain ⟨hc_wd, hf_wd⟩ := bcell hb_wd
  go_wp2_with fail
  refine (implActive_any _ _ _ _ _ _).mono ?_
  (rintro e wi ⟨rfl, hb_wi⟩; have hsz_wi := hb_wi.size; (try simp at hsz_wi); obtain ⟨hc_wi, hf_wi⟩ := bcell hb_wi; obtain ⟨_, _, _, _, _, _, _⟩ := ups (a := wd.heap.size) (b := wi.heap.size) (by omega); have hk_wi := fun o => hc_wi (wd.heap.size) o (by first | omega | (simp; done) | (simp; omega)))
  go_wp2_with fail
  refine (specActive_any _ _ _ _ _ _).mono ?_
  (rintro e ws ⟨rfl, hb_ws⟩; have hsz_ws := hb_ws.size; (try simp at hsz_ws); obtain ⟨hc_ws, hf_ws⟩ := bcell hb_ws; obtain ⟨_, _, _, _, _, _, _⟩ := ups (a := wd.heap.size) (b := ws.heap.size) (by omega); have hk_ws := fun o => hc_ws (wd.heap.size) o (by first | omega | (simp; done) | (simp; omega)))
  have q1 := Int.emod_nonneg (n2 : Int) (show (20 : Int) ≠ 0 by omega)
  have q2 := Int.emod_lt_of_pos (n2 : Int) (show (0 : Int) < 20 by omega)
  rcases (show d < 0 ∨ (0 ≤ d ∧ actB h s n t d = false) ∨ (0 ≤ d ∧ actB h s n t d = true) by cases actB h s n t d <;> simp <;> omega) with g0 | ⟨g0, r1⟩ | ⟨g0, r1⟩
  all_goals cases r2 : expB h s n t d
  all_goals go_wp2_with fail
  all_goals try (go_at_call 19; refine (specActive_any _ _ _ _ _ _).mono ?_; (rintro e wy ⟨rfl, hb_wy⟩; have hsz_wy := hb_wy.size; (try simp at hsz_wy); obtain ⟨hc_wy, hf_wy⟩ := bcell hb_wy; obtain ⟨_, _, _, _, _, _, _⟩ := ups (a := wd.heap.size) (b := wy.heap.size) (by omega); have hk_wy := fun o => hc_wy (wd.heap.size) o (by first | omega | (simp; done) | (simp; omega))); go_wp2_with fail)
  all_goals try (go_at_call 20; refine (implActive_is (b := false) (act_drift r1 g0 (by omega)) _).mono ?_; (rintro e wz ⟨rfl, hb_wz⟩; have hsz_wz := hb_wz.size; (try simp at hsz_wz); obtain ⟨hc_wz, hf_wz⟩ := bcell hb_wz; obtain ⟨_, _, _, _, _, _, _⟩ := ups (a := wd.heap.size) (b := wz.heap.size) (by omega); have hk_wz := fun o => hc_wz (wd.heap.size) o (by first | omega | (simp; done) | (simp; omega))); go_wp2_with fail)
  all_goals try (go_at_call 22; refine (implExpired_is r2 _).mono ?_; (rintro e wx ⟨rfl, hb_wx⟩; have hsz_wx := hb_wx.size; (try simp at hsz_wx); obtain ⟨hc_wx, hf_wx⟩ := bcell hb_wx; obtain ⟨_, _, _, _, _, _, _⟩ := ups (a := wd.heap.size) (b := wx.heap.size) (by omega); have hk_wx := fun o => hc_wx (wd.heap.size) o (by first | omega | (simp; done) | (simp; omega))); go_wp2_with fail)
  all_goals try (go_at_call 22; refine (implExpired_is (b := false) (exp_drift r2 g0 (by omega)) _).mono ?_; (rintro e wu ⟨rfl, hb_wu⟩; have hsz_wu := hb_wu.size; (try simp at hsz_wu); obtain ⟨hc_wu, hf_wu⟩ := bcell hb_wu); go_wp2_with fail)
  all_goals go_ret
  all_goals exact ⟨by first | rfl | (apply ret_bool; simp; omega) | (apply ret_bool; simp [*]; done), by (repeat (first | (with_reducible exact Below.refl _ _) | (with_reducible assumption) | (with_reducible refine below_drewN ?_ _) | (with_reducible refine Below.drew ?_) | (with_reducible refine Below.alloc ?_ (by (first | omega | (show _ < _; omega) | (simp; omega) | (simp; done))) _) | (with_reducible refine Below.setCell ?_ (by (first | omega | (show _ < _; omega) | (simp; omega) | (simp; done))) _) | (with_reducible refine Below.trans ?_ (Below.mono (by with_reducible assumption) (by (first | omega | (show _ < _; omega) | (simp; omega) | (simp; done))))) | (with_reducible refine below_grown ?_ (by with_reducible assumption) (by (first | omega | (show _ < _; omega) | (simp; omega) | (simp; done))) (by (first | omega | (show _ < _; omega) | (simp; omega) | (simp; done))))))⟩
end Go.Proofs.Ytanapkapojljkaa
