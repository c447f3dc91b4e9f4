/- The laws FnExactLeaseValid, FnExactLeaseActive, FnExactLeaseExpired: their walks. -/
import Derived.Test.YtanapkapojljkaaLse3
namespace Go.Proofs.Ytanapkapojljkaa
open Go.RowKit
set_option maxHeartbeats 1000000

theorem toLease_any (h s n : Int) (w : World) : Calls Try.prog 16 #[.agg #[.int .i64 h, .int .i64 s, .int .i64 n]] w fun e w' => e = .returned (.agg #[.int .i64 h, .int .i64 s, .int .i64 n]) ∧ ∃ c1 c2 c3 : Array Value, w' = ((w.alloc (.cells c1 23)).alloc (.cells c2 25)).alloc (.cells c3 25) := by
  go_enter Try.func16, Try.ntmps16
  go_wp2
  go_returns
  exact ⟨rfl, _, _, _, rfl⟩

theorem exactLeaseValid_walk (h s n : Int) (_wh : (Lit.int .i64 h).wf = true) (_ws : (Lit.int .i64 s).wf = true) (_wn : (Lit.int .i64 n).wf = true) (w : World) : Calls Try.prog 3 #[.agg #[.int .i64 h, .int .i64 s, .int .i64 n]] w fun e w' => e = .returned (.bool true) ∧ Below w.heap.size w w' := by
  go_enter Try.func3, Try.ntmps3
  go_wp2_with (first
    | (go_at_call 16; refine (toLease_any _ _ _ _).mono ?_; rintro e w' ⟨rfl, c1, c2, c3, rfl⟩)
    | (go_at_call 15; refine (specLeaseValid_any _ _ _ _).mono ?_; (rintro e ws ⟨rfl, hb_ws⟩; have hsz_ws := hb_ws.size; (try simp at hsz_ws); obtain ⟨hc_ws, hf_ws⟩ := bcell hb_ws; obtain ⟨_, _, _, _, _, _, _⟩ := ups (a := w.heap.size) (b := ws.heap.size) (by omega); have hk_ws := fun o => hc_ws (w.heap.size) o (by first | omega | (simp; done) | (simp; omega))))
    | (go_at_call 17; refine (implLeaseValid_any _ _ _ _).mono ?_; (rintro e wi ⟨rfl, hb_wi⟩; have hsz_wi := hb_wi.size; (try simp at hsz_wi); obtain ⟨hc_wi, hf_wi⟩ := bcell hb_wi; obtain ⟨_, _, _, _, _, _, _⟩ := ups (a := w.heap.size) (b := wi.heap.size) (by omega); have hk_wi := fun o => hc_wi (w.heap.size) o (by first | omega | (simp; done) | (simp; omega)))))
  go_ret
  exact ⟨rfl, by (repeat (first | (with_reducible exact Below.refl _ _) | (with_reducible assumption) | (with_reducible refine below_drewN ?_ _) | (with_reducible refine Below.drew ?_) | (with_reducible refine Below.alloc ?_ (by (first | omega | (show _ < _; omega) | (simp; omega) | (simp; done))) _) | (with_reducible refine Below.setCell ?_ (by (first | omega | (show _ < _; omega) | (simp; omega) | (simp; done))) _) | (with_reducible refine Below.trans ?_ (Below.mono (by with_reducible assumption) (by (first | omega | (show _ < _; omega) | (simp; omega) | (simp; done))))) | (with_reducible refine below_grown ?_ (by with_reducible assumption) (by (first | omega | (show _ < _; omega) | (simp; omega) | (simp; done))) (by (first | omega | (show _ < _; omega) | (simp; omega) | (simp; done))))))⟩

theorem exactLeaseActive_walk (h s n t d : Int) (_wh : (Lit.int .i64 h).wf = true) (_ws : (Lit.int .i64 s).wf = true) (_wn : (Lit.int .i64 n).wf = true) (_wt : (Lit.int .i64 t).wf = true) (_wd : (Lit.int .i64 d).wf = true) (w : World) : Calls Try.prog 5 #[.agg #[.int .i64 h, .int .i64 s, .int .i64 n], .int .i64 t, .int .i64 d] w fun e w' => e = .returned (.bool true) ∧ Below w.heap.size w w' := by
  go_enter Try.func5, Try.ntmps5
  go_wp2_with (first
    | (go_at_call 16; refine (toLease_any _ _ _ _).mono ?_; rintro e w' ⟨rfl, c1, c2, c3, rfl⟩)
    | (go_at_call 19; refine (specActive_any _ _ _ _ _ _).mono ?_; (rintro e ws ⟨rfl, hb_ws⟩; have hsz_ws := hb_ws.size; (try simp at hsz_ws); obtain ⟨hc_ws, hf_ws⟩ := bcell hb_ws; obtain ⟨_, _, _, _, _, _, _⟩ := ups (a := w.heap.size) (b := ws.heap.size) (by omega); have hk_ws := fun o => hc_ws (w.heap.size) o (by first | omega | (simp; done) | (simp; omega))))
    | (go_at_call 20; refine (implActive_any _ _ _ _ _ _).mono ?_; (rintro e wi ⟨rfl, hb_wi⟩; have hsz_wi := hb_wi.size; (try simp at hsz_wi); obtain ⟨hc_wi, hf_wi⟩ := bcell hb_wi; obtain ⟨_, _, _, _, _, _, _⟩ := ups (a := w.heap.size) (b := wi.heap.size) (by omega); have hk_wi := fun o => hc_wi (w.heap.size) o (by first | omega | (simp; done) | (simp; omega)))))
  go_ret
  exact ⟨rfl, by (repeat (first | (with_reducible exact Below.refl _ _) | (with_reducible assumption) | (with_reducible refine below_drewN ?_ _) | (with_reducible refine Below.drew ?_) | (with_reducible refine Below.alloc ?_ (by (first | omega | (show _ < _; omega) | (simp; omega) | (simp; done))) _) | (with_reducible refine Below.setCell ?_ (by (first | omega | (show _ < _; omega) | (simp; omega) | (simp; done))) _) | (with_reducible refine Below.trans ?_ (Below.mono (by with_reducible assumption) (by (first | omega | (show _ < _; omega) | (simp; omega) | (simp; done))))) | (with_reducible refine below_grown ?_ (by with_reducible assumption) (by (first | omega | (show _ < _; omega) | (simp; omega) | (simp; done))) (by (first | omega | (show _ < _; omega) | (simp; omega) | (simp; done))))))⟩

theorem exactLeaseExpired_walk (h s n t d : Int) (_wh : (Lit.int .i64 h).wf = true) (_ws : (Lit.int .i64 s).wf = true) (_wn : (Lit.int .i64 n).wf = true) (_wt : (Lit.int .i64 t).wf = true) (_wd : (Lit.int .i64 d).wf = true) (w : World) : Calls Try.prog 6 #[.agg #[.int .i64 h, .int .i64 s, .int .i64 n], .int .i64 t, .int .i64 d] w fun e w' => e = .returned (.bool true) ∧ Below w.heap.size w w' := by
  go_enter Try.func6, Try.ntmps6
  go_wp2_with (first
    | (go_at_call 16; refine (toLease_any _ _ _ _).mono ?_; rintro e w' ⟨rfl, c1, c2, c3, rfl⟩)
    | (go_at_call 21; refine (specExpired_any _ _ _ _ _ _).mono ?_; (rintro e ws ⟨rfl, hb_ws⟩; have hsz_ws := hb_ws.size; (try simp at hsz_ws); obtain ⟨hc_ws, hf_ws⟩ := bcell hb_ws; obtain ⟨_, _, _, _, _, _, _⟩ := ups (a := w.heap.size) (b := ws.heap.size) (by omega); have hk_ws := fun o => hc_ws (w.heap.size) o (by first | omega | (simp; done) | (simp; omega))))
    | (go_at_call 22; refine (implExpired_any _ _ _ _ _ _).mono ?_; (rintro e wi ⟨rfl, hb_wi⟩; have hsz_wi := hb_wi.size; (try simp at hsz_wi); obtain ⟨hc_wi, hf_wi⟩ := bcell hb_wi; obtain ⟨_, _, _, _, _, _, _⟩ := ups (a := w.heap.size) (b := wi.heap.size) (by omega); have hk_wi := fun o => hc_wi (w.heap.size) o (by first | omega | (simp; done) | (simp; omega)))))
  go_ret
  exact ⟨rfl, by (repeat (first | (with_reducible exact Below.refl _ _) | (with_reducible assumption) | (with_reducible refine below_drewN ?_ _) | (with_reducible refine Below.drew ?_) | (with_reducible refine Below.alloc ?_ (by (first | omega | (show _ < _; omega) | (simp; omega) | (simp; done))) _) | (with_reducible refine Below.setCell ?_ (by (first | omega | (show _ < _; omega) | (simp; omega) | (simp; done))) _) | (with_reducible refine Below.trans ?_ (Below.mono (by with_reducible assumption) (by (first | omega | (show _ < _; omega) | (simp; omega) | (simp; done))))) | (with_reducible refine below_grown ?_ (by with_reducible assumption) (by (first | omega | (show _ < _; omega) | (simp; omega) | (simp; done))) (by (first | omega | (show _ < _; omega) | (simp; omega) | (simp; done))))))⟩
end Go.Proofs.Ytanapkapojljkaa
