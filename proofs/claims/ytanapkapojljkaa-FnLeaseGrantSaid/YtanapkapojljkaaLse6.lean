/- The reference's LeaseGrant and the law FnExactLeaseGrant. -/
import Derived.Test.YtanapkapojljkaaLse5
namespace Go.Proofs.Ytanapkapojljkaa
open Go.RowKit
set_option maxHeartbeats 2000000

theorem specGrant_any (h s n o t m d : Int) (w : World) : Calls Try.prog 25 #[.agg #[.int .i64 h, .int .i64 s, .int .i64 n], .int .i64 o, .int .i64 t, .int .i64 m, .int .i64 d] w fun e w' => e = .returned (.tuple #[.agg #[.int .i64 (grH h s n o t m d), .int .i64 (grS h s n o t m d), .int .i64 (grN h s n o t m d)], .bool (grOk h s n o t m d)]) ∧ Below w.heap.size w w' := by
  rcases gr_cases h s n o t m d with ⟨hV, r1, r2, r3, r4⟩ | ⟨hV, hO, r1, r2, r3, r4⟩ | ⟨hV, hO, hK, r1, r2, r3, r4⟩ | ⟨hV, hO, hK, hM, r1, r2, r3, r4⟩ | ⟨hV, hO, hK, hM, hE, r1, r2, r3, r4⟩ | ⟨hV, hO, hK, hM, hE, hR, r1, r2, r3, r4⟩ | ⟨hV, hO, hK, hM, hE, hR, r1, r2, r3, r4⟩
  iterate 4
    focus
      rw [r1, r2, r3, r4]
      clear r1 r2 r3 r4
      go_enter Try.func25, Try.ntmps25
      go_wp2_with (first | (go_at_call 15; refine (specLeaseValid_any _ _ _ _).mono ?_; (rintro e wv ⟨rfl, hb_wv⟩; have hsz_wv := hb_wv.size; (try simp at hsz_wv); obtain ⟨hc_wv, hf_wv⟩ := bcell hb_wv; obtain ⟨_, _, _, _, _, _, _⟩ := ups (a := w.heap.size) (b := wv.heap.size) (by omega); have hk_wv := fun o => hc_wv (w.heap.size) o (by first | omega | (simp; done) | (simp; omega)); obtain ⟨_, _, _, _, _, _, _⟩ := ups (a := w.heap.size + 1) (b := wv.heap.size) (by omega); have hk_wv := fun o => hc_wv (w.heap.size + 1) o (by first | omega | (simp; done) | (simp; omega)))) | (go_at_call 34; refine (l23Args_any _ _ _).mono ?_; rintro e w' ⟨rfl, rfl⟩) | (go_at_call 29; refine (l6In_any _ _ _ _).mono ?_; rintro e w' ⟨rfl, rfl⟩))
      refine bodyPost_ret (by simp only [results, Try.results25]; go_simp; try rfl) rfl ?_
      exact ⟨rfl, by (repeat (first | (with_reducible exact Below.refl _ _) | (with_reducible assumption) | (with_reducible refine below_drewN ?_ _) | (with_reducible refine Below.drew ?_) | (with_reducible refine Below.alloc ?_ (by (first | omega | (show _ < _; omega) | (simp; omega) | (simp; done))) _) | (with_reducible refine Below.setCell ?_ (by (first | omega | (show _ < _; omega) | (simp; omega) | (simp; done))) _) | (with_reducible refine Below.trans ?_ (Below.mono (by with_reducible assumption) (by (first | omega | (show _ < _; omega) | (simp; omega) | (simp; done))))) | (with_reducible refine below_grown ?_ (by with_reducible assumption) (by (first | omega | (show _ < _; omega) | (simp; omega) | (simp; done))) (by (first | omega | (show _ < _; omega) | (simp; omega) | (simp; done))))))⟩
  all_goals rw [r1, r2, r3, r4]
  all_goals clear r1 r2 r3 r4
  all_goals obtain ⟨k1, k2, k3, k4⟩ := clk_iff.1 hK
  all_goals obtain ⟨m1, m2⟩ := inB_iff.1 hM
  all_goals have hX := exp_of hV hK
  all_goals rw [hE] at hX
  · go_enter Try.func25, Try.ntmps25
    go_wp2_with (first | (go_at_call 15; refine (specLeaseValid_any _ _ _ _).mono ?_; (rintro e wv ⟨rfl, hb_wv⟩; have hsz_wv := hb_wv.size; (try simp at hsz_wv); obtain ⟨hc_wv, hf_wv⟩ := bcell hb_wv; obtain ⟨_, _, _, _, _, _, _⟩ := ups (a := w.heap.size) (b := wv.heap.size) (by omega); have hk_wv := fun o => hc_wv (w.heap.size) o (by first | omega | (simp; done) | (simp; omega)); obtain ⟨_, _, _, _, _, _, _⟩ := ups (a := w.heap.size + 1) (b := wv.heap.size) (by omega); have hk_wv := fun o => hc_wv (w.heap.size + 1) o (by first | omega | (simp; done) | (simp; omega)))) | (go_at_call 34; refine (l23Args_any _ _ _).mono ?_; rintro e w' ⟨rfl, rfl⟩) | (go_at_call 29; refine (l6In_any _ _ _ _).mono ?_; rintro e w' ⟨rfl, rfl⟩) | (go_at_call 21; refine (specExpired_any _ _ _ _ _ _).mono ?_; (rintro e wx ⟨rfl, hb_wx⟩; have hsz_wx := hb_wx.size; (try simp at hsz_wx); obtain ⟨hc_wx, hf_wx⟩ := bcell hb_wx; obtain ⟨_, _, _, _, _, _, _⟩ := ups (a := w.heap.size) (b := wx.heap.size) (by omega); have hk_wx := fun o => hc_wx (w.heap.size) o (by first | omega | (simp; done) | (simp; omega)); obtain ⟨_, _, _, _, _, _, _⟩ := ups (a := w.heap.size + 1) (b := wx.heap.size) (by omega); have hk_wx := fun o => hc_wx (w.heap.size + 1) o (by first | omega | (simp; done) | (simp; omega)))))
    refine bodyPost_ret (by simp only [results, Try.results25]; go_simp; try rfl) rfl ?_
    exact ⟨rfl, by (repeat (first | (with_reducible exact Below.refl _ _) | (with_reducible assumption) | (with_reducible refine below_drewN ?_ _) | (with_reducible refine Below.drew ?_) | (with_reducible refine Below.alloc ?_ (by (first | omega | (show _ < _; omega) | (simp; omega) | (simp; done))) _) | (with_reducible refine Below.setCell ?_ (by (first | omega | (show _ < _; omega) | (simp; omega) | (simp; done))) _) | (with_reducible refine Below.trans ?_ (Below.mono (by with_reducible assumption) (by (first | omega | (show _ < _; omega) | (simp; omega) | (simp; done))))) | (with_reducible refine below_grown ?_ (by with_reducible assumption) (by (first | omega | (show _ < _; omega) | (simp; omega) | (simp; done))) (by (first | omega | (show _ < _; omega) | (simp; omega) | (simp; done))))))⟩
  · obtain ⟨q1, q2, q3⟩ := ren_iff.1 hR
    obtain rfl : h = o := q1
    have hB := lse_iff.1 hV
    have hb : 0 ≤ s ∧ s ≤ 999 ∧ 0 ≤ n ∧ n ≤ 999 := by omega
    obtain ⟨b1, b2, b3, b4⟩ := hb
    clear hB
    go_enter Try.func25, Try.ntmps25
    go_wp2_with (first | (go_at_call 15; refine (specLeaseValid_any _ _ _ _).mono ?_; (rintro e wv ⟨rfl, hb_wv⟩; have hsz_wv := hb_wv.size; (try simp at hsz_wv); obtain ⟨hc_wv, hf_wv⟩ := bcell hb_wv; obtain ⟨_, _, _, _, _, _, _⟩ := ups (a := w.heap.size) (b := wv.heap.size) (by omega); have hk_wv := fun o => hc_wv (w.heap.size) o (by first | omega | (simp; done) | (simp; omega)); obtain ⟨_, _, _, _, _, _, _⟩ := ups (a := w.heap.size + 1) (b := wv.heap.size) (by omega); have hk_wv := fun o => hc_wv (w.heap.size + 1) o (by first | omega | (simp; done) | (simp; omega)))) | (go_at_call 34; refine (l23Args_any _ _ _).mono ?_; rintro e w' ⟨rfl, rfl⟩) | (go_at_call 29; refine (l6In_any _ _ _ _).mono ?_; rintro e w' ⟨rfl, rfl⟩) | (go_at_call 21; refine (specExpired_any _ _ _ _ _ _).mono ?_; (rintro e wx ⟨rfl, hb_wx⟩; have hsz_wx := hb_wx.size; (try simp at hsz_wx); obtain ⟨hc_wx, hf_wx⟩ := bcell hb_wx; obtain ⟨_, _, _, _, _, _, _⟩ := ups (a := w.heap.size) (b := wx.heap.size) (by omega); have hk_wx := fun o => hc_wx (w.heap.size) o (by first | omega | (simp; done) | (simp; omega)); obtain ⟨_, _, _, _, _, _, _⟩ := ups (a := w.heap.size + 1) (b := wx.heap.size) (by omega); have hk_wx := fun o => hc_wx (w.heap.size + 1) o (by first | omega | (simp; done) | (simp; omega)))))
    refine bodyPost_ret (by simp only [results, Try.results25]; go_simp; try rfl) rfl ?_
    exact ⟨rfl, by (repeat (first | (with_reducible exact Below.refl _ _) | (with_reducible assumption) | (with_reducible refine below_drewN ?_ _) | (with_reducible refine Below.drew ?_) | (with_reducible refine Below.alloc ?_ (by (first | omega | (show _ < _; omega) | (simp; omega) | (simp; done))) _) | (with_reducible refine Below.setCell ?_ (by (first | omega | (show _ < _; omega) | (simp; omega) | (simp; done))) _) | (with_reducible refine Below.trans ?_ (Below.mono (by with_reducible assumption) (by (first | omega | (show _ < _; omega) | (simp; omega) | (simp; done))))) | (with_reducible refine below_grown ?_ (by with_reducible assumption) (by (first | omega | (show _ < _; omega) | (simp; omega) | (simp; done))) (by (first | omega | (show _ < _; omega) | (simp; omega) | (simp; done))))))⟩
  · have hB := lse_iff.1 hV
    have hb : 0 ≤ s ∧ s ≤ 999 ∧ 0 ≤ n ∧ n ≤ 999 := by omega
    obtain ⟨b1, b2, b3, b4⟩ := hb
    clear hB
    have hq : ((h != o) = true) ∨ (h = o ∧ t < s) ∨ (h = o ∧ s ≤ t ∧ t + m < s + n) := by
      have := @ren_iff h s n o t m
      simp [hR] at this
      simp
      omega
    rcases hq with q1 | ⟨rfl, q2⟩ | ⟨rfl, q2, q3⟩
    all_goals go_enter Try.func25, Try.ntmps25
    all_goals go_wp2_with (first | (go_at_call 15; refine (specLeaseValid_any _ _ _ _).mono ?_; (rintro e wv ⟨rfl, hb_wv⟩; have hsz_wv := hb_wv.size; (try simp at hsz_wv); obtain ⟨hc_wv, hf_wv⟩ := bcell hb_wv; obtain ⟨_, _, _, _, _, _, _⟩ := ups (a := w.heap.size) (b := wv.heap.size) (by omega); have hk_wv := fun o => hc_wv (w.heap.size) o (by first | omega | (simp; done) | (simp; omega)); obtain ⟨_, _, _, _, _, _, _⟩ := ups (a := w.heap.size + 1) (b := wv.heap.size) (by omega); have hk_wv := fun o => hc_wv (w.heap.size + 1) o (by first | omega | (simp; done) | (simp; omega)))) | (go_at_call 34; refine (l23Args_any _ _ _).mono ?_; rintro e w' ⟨rfl, rfl⟩) | (go_at_call 29; refine (l6In_any _ _ _ _).mono ?_; rintro e w' ⟨rfl, rfl⟩) | (go_at_call 21; refine (specExpired_any _ _ _ _ _ _).mono ?_; (rintro e wx ⟨rfl, hb_wx⟩; have hsz_wx := hb_wx.size; (try simp at hsz_wx); obtain ⟨hc_wx, hf_wx⟩ := bcell hb_wx; obtain ⟨_, _, _, _, _, _, _⟩ := ups (a := w.heap.size) (b := wx.heap.size) (by omega); have hk_wx := fun o => hc_wx (w.heap.size) o (by first | omega | (simp; done) | (simp; omega)); obtain ⟨_, _, _, _, _, _, _⟩ := ups (a := w.heap.size + 1) (b := wx.heap.size) (by omega); have hk_wx := fun o => hc_wx (w.heap.size + 1) o (by first | omega | (simp; done) | (simp; omega)))))
    all_goals refine bodyPost_ret (by simp only [results, Try.results25]; go_simp; try rfl) rfl ?_
    all_goals exact ⟨rfl, by (repeat (first | (with_reducible exact Below.refl _ _) | (with_reducible assumption) | (with_reducible refine below_drewN ?_ _) | (with_reducible refine Below.drew ?_) | (with_reducible refine Below.alloc ?_ (by (first | omega | (show _ < _; omega) | (simp; omega) | (simp; done))) _) | (with_reducible refine Below.setCell ?_ (by (first | omega | (show _ < _; omega) | (simp; omega) | (simp; done))) _) | (with_reducible refine Below.trans ?_ (Below.mono (by with_reducible assumption) (by (first | omega | (show _ < _; omega) | (simp; omega) | (simp; done))))) | (with_reducible refine below_grown ?_ (by with_reducible assumption) (by (first | omega | (show _ < _; omega) | (simp; omega) | (simp; done))) (by (first | omega | (show _ < _; omega) | (simp; omega) | (simp; done))))))⟩

def eqL (h s n h' s' n' : Int) : Bool := h == h' && s == s' && n == n'
theorem eqLease_same (h s n : Int) (w : World) : Calls Try.prog 27 #[.agg #[.int .i64 h, .int .i64 s, .int .i64 n], .agg #[.int .i64 h, .int .i64 s, .int .i64 n]] w fun e w' => e = .returned (.bool true) ∧ Below w.heap.size w w' := by
  go_enter Try.func27, Try.ntmps27
  go_wp2
  go_ret
  exact ⟨rfl, by go_grown⟩

theorem exactLeaseGrant_walk (h s n o t m d : Int) (_wh : (Lit.int .i64 h).wf = true) (_ws : (Lit.int .i64 s).wf = true) (_wn : (Lit.int .i64 n).wf = true) (_wo : (Lit.int .i64 o).wf = true) (_wt : (Lit.int .i64 t).wf = true) (_wm : (Lit.int .i64 m).wf = true) (_wd : (Lit.int .i64 d).wf = true) (w : World) : Calls Try.prog 9 #[.agg #[.int .i64 h, .int .i64 s, .int .i64 n], .int .i64 o, .int .i64 t, .int .i64 m, .int .i64 d] w fun e w' => e = .returned (.bool true) ∧ Below w.heap.size w w' := by
  go_enter Try.func9, Try.ntmps9
  go_wp2_with (first
    | (go_at_call 16; refine (toLease_any _ _ _ _).mono ?_; rintro e w' ⟨rfl, c1, c2, c3, rfl⟩)
    | (go_at_call 25; refine (specGrant_any _ _ _ _ _ _ _ _).mono ?_; (rintro e ws ⟨rfl, hb_ws⟩; have hsz_ws := hb_ws.size; (try simp at hsz_ws); obtain ⟨hc_ws, hf_ws⟩ := bcell hb_ws; obtain ⟨_, _, _, _, _, _, _⟩ := ups (a := w.heap.size) (b := ws.heap.size) (by omega); have hk_ws := fun o => hc_ws (w.heap.size) o (by first | omega | (simp; done) | (simp; omega))))
    | (go_at_call 26; refine (implGrant_any _ _ _ _ _ _ _ _).mono ?_; (rintro e wi ⟨rfl, hb_wi⟩; have hsz_wi := hb_wi.size; (try simp at hsz_wi); obtain ⟨hc_wi, hf_wi⟩ := bcell hb_wi; obtain ⟨_, _, _, _, _, _, _⟩ := ups (a := ws.heap.size) (b := wi.heap.size) (by omega); have hk_wi := fun o => hc_wi (ws.heap.size) o (by first | omega | (simp; done) | (simp; omega))))
    | (go_at_call 27; refine (eqLease_same _ _ _ _).mono ?_; (rintro e we ⟨rfl, hb_we⟩; have hsz_we := hb_we.size; (try simp at hsz_we); obtain ⟨hc_we, hf_we⟩ := bcell hb_we)))
  go_ret
  exact ⟨rfl, by (repeat (first | (with_reducible exact Below.refl _ _) | (with_reducible assumption) | (with_reducible refine below_drewN ?_ _) | (with_reducible refine Below.drew ?_) | (with_reducible refine Below.alloc ?_ (by (first | omega | (show _ < _; omega) | (simp; omega) | (simp; done))) _) | (with_reducible refine Below.setCell ?_ (by (first | omega | (show _ < _; omega) | (simp; omega) | (simp; done))) _) | (with_reducible refine Below.trans ?_ (Below.mono (by with_reducible assumption) (by (first | omega | (show _ < _; omega) | (simp; omega) | (simp; done))))) | (with_reducible refine below_grown ?_ (by with_reducible assumption) (by (first | omega | (show _ < _; omega) | (simp; omega) | (simp; done))) (by (first | omega | (show _ < _; omega) | (simp; omega) | (simp; done))))))⟩
end Go.Proofs.Ytanapkapojljkaa
