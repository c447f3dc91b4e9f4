/- The law FnLeaseGrant: its walk. -/
import Derived.Test.YtanapkapojljkaaLsM
namespace Go.Proofs.Ytanapkapojljkaa
open Go.RowKit
set_option maxHeartbeats 8000000

theorem leaseGrant_walk (A : Option Addr) (na ca : Nat) (zs : List Int) (w : World) (hI : Ints .u8 w A na ca zs) : Calls Try.prog 12 #[.slice A na ca] w fun e w' => e = .returned (.bool true) ∧ Below w.heap.size w w' := by
  have hmx := hI.max
  unfold maxLen at hmx
  by_cases hl : 1048576 < na
  · go_enter Try.func12, Try.ntmps12
    go_wp2
    go_ret
    exact ⟨rfl, Below.refl _ _⟩
  go_enter Try.func12, Try.ntmps12
  go_wp2_with fail
  refine (drawGrant_any A na ca zs _ hI).mono ?_
  rintro e wd ⟨h, s, n, t, d, o, m, rfl, ⟨b1, b2, b3, b4, b5, b6, b7, b8, b9, b10, b11, b12, b13, b14⟩, hb_wd⟩
  have hsz_wd := hb_wd.size
  obtain ⟨hc_wd, hf_wd⟩ := bcell hb_wd
  go_wp2_with fail
  refine (specGrant_any _ _ _ _ _ _ _ _).mono ?_
  (rintro e ws ⟨rfl, hb_ws⟩; have hsz_ws := hb_ws.size; (try simp at hsz_ws); obtain ⟨hc_ws, hf_ws⟩ := bcell hb_ws; obtain ⟨_, _, _, _, _, _, _⟩ := ups (a := wd.heap.size) (b := ws.heap.size) (by omega); have hk_ws := fun o => hc_ws (wd.heap.size) o (by first | omega | (simp; done) | (simp; omega)))
  go_wp2_with fail
  refine (implGrant_any _ _ _ _ _ _ _ _).mono ?_
  (rintro e wi ⟨rfl, hb_wi⟩; have hsz_wi := hb_wi.size; (try simp at hsz_wi); obtain ⟨hc_wi, hf_wi⟩ := bcell hb_wi; obtain ⟨_, _, _, _, _, _, _⟩ := ups (a := wd.heap.size) (b := wi.heap.size) (by omega); have hk_wi := fun o => hc_wi (wd.heap.size) o (by first | omega | (simp; done) | (simp; omega)); obtain ⟨_, _, _, _, _, _, _⟩ := ups (a := ws.heap.size) (b := wi.heap.size) (by omega); have hk_wi := fun o => hc_wi (ws.heap.size) o (by first | omega | (simp; done) | (simp; omega)))
  rcases grant_cases h s n o t m d (by omega) (by omega) (by omega) (by omega) (by omega) (by omega) with ⟨hV, r1, r2, r3, r4⟩ | ⟨hV, g1, r1, r2, r3, r4⟩ | ⟨hV, g1, g2, r1, r2, r3, r4⟩ | ⟨⟨hV, v1, v2, v3, v4, v5, v6, v7, v8⟩, hE, g1, g2, hA, rfl, r1, r2, r3, r4⟩ | ⟨⟨hV, v1, v2, v3, v4, v5, v6, v7, v8⟩, hE, g1, g2, hA, r1, r2, r3, r4⟩ | ⟨⟨hV, v1, v2, v3, v4, v5, v6, v7, v8⟩, hE, g1, g2, rfl, r1, r2, r3, r4⟩ | ⟨⟨hV, v1, v2, v3, v4, v5, v6, v7, v8⟩, hE, g1, r1, r2, r3, r4⟩ | ⟨⟨hV, v1, v2, v3, v4, v5, v6, v7, v8⟩, hE, g1, rfl, r1, r2, r3, r4⟩ | ⟨⟨hV, v1, v2, v3, v4, v5, v6, v7, v8⟩, hE, g1, g2, rfl, r1, r2, r3, r4⟩
  all_goals try have hW : lseB o t m = true := lse_iff.2 (by omega)
  all_goals try have hW : lseB h t m = true := lse_iff.2 (by omega)
  all_goals go_wp2_with fail
  all_goals try (go_at_call 15; refine (specValid_is hV _).mono ?_; (rintro e wv ⟨rfl, hb_wv⟩; have hsz_wv := hb_wv.size; (try simp at hsz_wv); obtain ⟨hc_wv, hf_wv⟩ := bcell hb_wv; obtain ⟨_, _, _, _, _, _, _⟩ := ups (a := wd.heap.size) (b := wv.heap.size) (by omega); have hk_wv := fun o => hc_wv (wd.heap.size) o (by first | omega | (simp; done) | (simp; omega)); obtain ⟨_, _, _, _, _, _, _⟩ := ups (a := ws.heap.size) (b := wv.heap.size) (by omega); have hk_wv := fun o => hc_wv (ws.heap.size) o (by first | omega | (simp; done) | (simp; omega)); obtain ⟨_, _, _, _, _, _, _⟩ := ups (a := wi.heap.size) (b := wv.heap.size) (by omega); have hk_wv := fun o => hc_wv (wi.heap.size) o (by first | omega | (simp; done) | (simp; omega))); go_wp2_with fail)
  all_goals try (go_at_call 22; refine (implExpired_is hE _).mono ?_; (rintro e wy ⟨rfl, hb_wy⟩; have hsz_wy := hb_wy.size; (try simp at hsz_wy); obtain ⟨hc_wy, hf_wy⟩ := bcell hb_wy; obtain ⟨_, _, _, _, _, _, _⟩ := ups (a := wd.heap.size) (b := wy.heap.size) (by omega); have hk_wy := fun o => hc_wy (wd.heap.size) o (by first | omega | (simp; done) | (simp; omega)); obtain ⟨_, _, _, _, _, _, _⟩ := ups (a := ws.heap.size) (b := wy.heap.size) (by omega); have hk_wy := fun o => hc_wy (ws.heap.size) o (by first | omega | (simp; done) | (simp; omega)); obtain ⟨_, _, _, _, _, _, _⟩ := ups (a := wi.heap.size) (b := wy.heap.size) (by omega); have hk_wy := fun o => hc_wy (wi.heap.size) o (by first | omega | (simp; done) | (simp; omega))); go_wp2_with fail)
  all_goals try (go_at_call 17; refine (implValid_is hW _).mono ?_; (rintro e wz ⟨rfl, hb_wz⟩; have hsz_wz := hb_wz.size; (try simp at hsz_wz); obtain ⟨hc_wz, hf_wz⟩ := bcell hb_wz); go_wp2_with fail)
  all_goals go_ret
  all_goals exact ⟨by first | rfl | (apply ret_bool; simp; omega) | (apply ret_bool; simp [*]; done), by (repeat (first | (with_reducible exact Below.refl _ _) | (with_reducible assumption) | (with_reducible refine below_drewN ?_ _) | (with_reducible refine Below.drew ?_) | (with_reducible refine Below.alloc ?_ (by (first | omega | (show _ < _; omega) | (simp; omega) | (simp; done))) _) | (with_reducible refine Below.setCell ?_ (by (first | omega | (show _ < _; omega) | (simp; omega) | (simp; done))) _) | (with_reducible refine Below.trans ?_ (Below.mono (by with_reducible assumption) (by (first | omega | (show _ < _; omega) | (simp; omega) | (simp; done))))) | (with_reducible refine below_grown ?_ (by with_reducible assumption) (by (first | omega | (show _ < _; omega) | (simp; omega) | (simp; done))) (by (first | omega | (show _ < _; omega) | (simp; omega) | (simp; done))))))⟩
end Go.Proofs.Ytanapkapojljkaa
