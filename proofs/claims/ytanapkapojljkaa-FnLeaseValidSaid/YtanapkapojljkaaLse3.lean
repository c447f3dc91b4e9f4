/- Contracts of LeaseActive and LeaseExpired, the program's and the reference's. -/
import Derived.Test.YtanapkapojljkaaLse2
namespace Go.Proofs.Ytanapkapojljkaa
open Go.RowKit

theorem Ctr.of {W w' : World} {h s n : Int} (hb : Below (W.alloc (.cells #[.int .i32 0, .int .u32 0, .int .i64 h, .int .i64 s, .int .i64 n] 57)).heap.size (W.alloc (.cells #[.int .i32 0, .int .u32 0, .int .i64 h, .int .i64 s, .int .i64 n] 57)) w') : Ctr w' W.heap.size 0 h s n :=
  (Ctr.new W h s n).below hb

def actB (h s n t d : Int) : Bool := lseB h s n && clkB t d && actR h s n t d
def expB (h s n t d : Int) : Bool := lseB h s n && clkB t d && expR h s n t d
theorem clk_iff {t d : Int} : clkB t d = true ↔ 0 ≤ t ∧ t ≤ 999 ∧ 0 ≤ d ∧ d ≤ 99 := by
  unfold clkB inB; simp; omega
theorem act_cases (h s n t d : Int) : (lseB h s n = false ∧ actB h s n t d = false) ∨ (lseB h s n = true ∧ clkB t d = false ∧ actB h s n t d = false) ∨
    (lseB h s n = true ∧ clkB t d = true ∧ (0 ≤ t ∧ t ≤ 999 ∧ 0 ≤ d ∧ d ≤ 99) ∧ h = 0 ∧ s = 0 ∧ n = 0 ∧ actB h s n t d = false) ∨
    (lseB h s n = true ∧ clkB t d = true ∧ (0 ≤ t ∧ t ≤ 999 ∧ 0 ≤ d ∧ d ≤ 99) ∧ (1 ≤ h ∧ h ≤ 6 ∧ 0 ≤ s ∧ s ≤ 999 ∧ 1 ≤ n ∧ n ≤ 999) ∧ t < s ∧ actB h s n t d = false) ∨
    (lseB h s n = true ∧ clkB t d = true ∧ (0 ≤ t ∧ t ≤ 999 ∧ 0 ≤ d ∧ d ≤ 99) ∧ (1 ≤ h ∧ h ≤ 6 ∧ 0 ≤ s ∧ s ≤ 999 ∧ 1 ≤ n ∧ n ≤ 999) ∧ s ≤ t ∧ t < s + n - d ∧ actB h s n t d = true) ∨
    (lseB h s n = true ∧ clkB t d = true ∧ (0 ≤ t ∧ t ≤ 999 ∧ 0 ≤ d ∧ d ≤ 99) ∧ (1 ≤ h ∧ h ≤ 6 ∧ 0 ≤ s ∧ s ≤ 999 ∧ 1 ≤ n ∧ n ≤ 999) ∧ s ≤ t ∧ s + n - d ≤ t ∧ actB h s n t d = false) := by
  have h1 := @lse_iff h s n
  have h2 := @clk_iff t d
  unfold actB actR
  cases hA : lseB h s n <;> cases hB : clkB t d <;> simp [hA, hB] at h1 h2 ⊢
  omega
theorem exp_cases (h s n t d : Int) : (lseB h s n = false ∧ expB h s n t d = false) ∨ (lseB h s n = true ∧ clkB t d = false ∧ expB h s n t d = false) ∨
    (lseB h s n = true ∧ clkB t d = true ∧ (0 ≤ t ∧ t ≤ 999 ∧ 0 ≤ d ∧ d ≤ 99) ∧ h = 0 ∧ s = 0 ∧ n = 0 ∧ expB h s n t d = true) ∨
    (lseB h s n = true ∧ clkB t d = true ∧ (0 ≤ t ∧ t ≤ 999 ∧ 0 ≤ d ∧ d ≤ 99) ∧ (1 ≤ h ∧ h ≤ 6 ∧ 0 ≤ s ∧ s ≤ 999 ∧ 1 ≤ n ∧ n ≤ 999) ∧ s + n + d ≤ t ∧ expB h s n t d = true) ∨
    (lseB h s n = true ∧ clkB t d = true ∧ (0 ≤ t ∧ t ≤ 999 ∧ 0 ≤ d ∧ d ≤ 99) ∧ (1 ≤ h ∧ h ≤ 6 ∧ 0 ≤ s ∧ s ≤ 999 ∧ 1 ≤ n ∧ n ≤ 999) ∧ t < s + n + d ∧ expB h s n t d = false) := by
  have h1 := @lse_iff h s n
  have h2 := @clk_iff t d
  unfold expB expR
  cases hA : lseB h s n <;> cases hB : clkB t d <;> simp [hA, hB] at h1 h2 ⊢
  omega
theorem act_of {h s n t d : Int} (h1 : lseB h s n = true) (h2 : clkB t d = true) : actB h s n t d = actR h s n t d := by simp [actB, h1, h2]
theorem exp_of {h s n t d : Int} (h1 : lseB h s n = true) (h2 : clkB t d = true) : expB h s n t d = expR h s n t d := by simp [expB, h1, h2]

set_option maxHeartbeats 1000000

theorem specActive_any (h s n t d : Int) (w : World) : Calls Try.prog 19 #[.agg #[.int .i64 h, .int .i64 s, .int .i64 n], .int .i64 t, .int .i64 d] w fun e w' => e = .returned (.bool (actB h s n t d)) ∧ Below w.heap.size w w' := by
  rcases act_cases h s n t d with ⟨hV, hr⟩ | ⟨hV, hK, hr⟩ | ⟨hV, hK, ⟨k1, k2, k3, k4⟩, rfl, rfl, rfl, hr⟩ | ⟨hV, hK, ⟨k1, k2, k3, k4⟩, ⟨g1, g2, g3, g4, g5, g6⟩, q1, hr⟩ | ⟨hV, hK, ⟨k1, k2, k3, k4⟩, ⟨g1, g2, g3, g4, g5, g6⟩, q1, q2, hr⟩ | ⟨hV, hK, ⟨k1, k2, k3, k4⟩, ⟨g1, g2, g3, g4, g5, g6⟩, q1, q2, hr⟩
  all_goals rw [hr]
  all_goals clear hr
  all_goals go_enter Try.func19, Try.ntmps19
  all_goals go_wp2_with (first | (go_at_call 15; refine (specLeaseValid_any _ _ _ _).mono ?_; (rintro e wv ⟨rfl, hb_wv⟩; have hsz_wv := hb_wv.size; (try simp at hsz_wv); obtain ⟨hc_wv, hf_wv⟩ := bcell hb_wv; obtain ⟨_, _, _, _, _, _, _⟩ := ups (a := w.heap.size) (b := wv.heap.size) (by omega); have hk_wv := fun o => hc_wv (w.heap.size) o (by first | omega | (simp; done) | (simp; omega)))) | (go_at_call 34; refine (l23Args_any _ _ _).mono ?_; rintro e w' ⟨rfl, rfl⟩))
  all_goals go_ret
  all_goals exact ⟨by first | rfl | (simp [*]; done) | (simp [*]; omega), by (repeat (first | (with_reducible exact Below.refl _ _) | (with_reducible assumption) | (with_reducible refine below_drewN ?_ _) | (with_reducible refine Below.drew ?_) | (with_reducible refine Below.alloc ?_ (by (first | omega | (show _ < _; omega) | (simp; omega) | (simp; done))) _) | (with_reducible refine Below.setCell ?_ (by (first | omega | (show _ < _; omega) | (simp; omega) | (simp; done))) _) | (with_reducible refine Below.trans ?_ (Below.mono (by with_reducible assumption) (by (first | omega | (show _ < _; omega) | (simp; omega) | (simp; done))))) | (with_reducible refine below_grown ?_ (by with_reducible assumption) (by (first | omega | (show _ < _; omega) | (simp; omega) | (simp; done))) (by (first | omega | (show _ < _; omega) | (simp; omega) | (simp; done))))))⟩

theorem specExpired_any (h s n t d : Int) (w : World) : Calls Try.prog 21 #[.agg #[.int .i64 h, .int .i64 s, .int .i64 n], .int .i64 t, .int .i64 d] w fun e w' => e = .returned (.bool (expB h s n t d)) ∧ Below w.heap.size w w' := by
  rcases exp_cases h s n t d with ⟨hV, hr⟩ | ⟨hV, hK, hr⟩ | ⟨hV, hK, ⟨k1, k2, k3, k4⟩, rfl, rfl, rfl, hr⟩ | ⟨hV, hK, ⟨k1, k2, k3, k4⟩, ⟨g1, g2, g3, g4, g5, g6⟩, q1, hr⟩ | ⟨hV, hK, ⟨k1, k2, k3, k4⟩, ⟨g1, g2, g3, g4, g5, g6⟩, q1, hr⟩
  all_goals rw [hr]
  all_goals clear hr
  all_goals go_enter Try.func21, Try.ntmps21
  all_goals go_wp2_with (first | (go_at_call 15; refine (specLeaseValid_any _ _ _ _).mono ?_; (rintro e wv ⟨rfl, hb_wv⟩; have hsz_wv := hb_wv.size; (try simp at hsz_wv); obtain ⟨hc_wv, hf_wv⟩ := bcell hb_wv; obtain ⟨_, _, _, _, _, _, _⟩ := ups (a := w.heap.size) (b := wv.heap.size) (by omega); have hk_wv := fun o => hc_wv (w.heap.size) o (by first | omega | (simp; done) | (simp; omega)))) | (go_at_call 34; refine (l23Args_any _ _ _).mono ?_; rintro e w' ⟨rfl, rfl⟩))
  all_goals go_ret
  all_goals exact ⟨by first | rfl | (simp [*]; done) | (simp [*]; omega), by (repeat (first | (with_reducible exact Below.refl _ _) | (with_reducible assumption) | (with_reducible refine below_drewN ?_ _) | (with_reducible refine Below.drew ?_) | (with_reducible refine Below.alloc ?_ (by (first | omega | (show _ < _; omega) | (simp; omega) | (simp; done))) _) | (with_reducible refine Below.setCell ?_ (by (first | omega | (show _ < _; omega) | (simp; omega) | (simp; done))) _) | (with_reducible refine Below.trans ?_ (Below.mono (by with_reducible assumption) (by (first | omega | (show _ < _; omega) | (simp; omega) | (simp; done))))) | (with_reducible refine below_grown ?_ (by with_reducible assumption) (by (first | omega | (show _ < _; omega) | (simp; omega) | (simp; done))) (by (first | omega | (show _ < _; omega) | (simp; omega) | (simp; done))))))⟩

theorem implActive_any (h s n t d : Int) (w : World) : Calls Try.prog 20 #[.agg #[.int .i64 h, .int .i64 s, .int .i64 n], .int .i64 t, .int .i64 d] w fun e w' => e = .returned (.bool (actB h s n t d)) ∧ Below w.heap.size w w' := by
  rcases (show lseB h s n = false ∨ (lseB h s n = true ∧ clkB t d = false) ∨ (lseB h s n = true ∧ clkB t d = true) by cases lseB h s n <;> cases clkB t d <;> simp) with hV | ⟨hV, hK⟩ | ⟨hV, hK⟩
  · have hr : actB h s n t d = false := by simp [actB, hV]
    rw [hr]
    clear hr
    go_enter Try.func20, Try.ntmps20
    go_wp2_with (go_at_call 17; refine (implLeaseValid_any _ _ _ _).mono ?_; (rintro e wv ⟨rfl, hb_wv⟩; have hsz_wv := hb_wv.size; (try simp at hsz_wv); obtain ⟨hc_wv, hf_wv⟩ := bcell hb_wv; obtain ⟨_, _, _, _, _, _, _⟩ := ups (a := w.heap.size) (b := wv.heap.size) (by omega); have hk_wv := fun o => hc_wv (w.heap.size) o (by first | omega | (simp; done) | (simp; omega))); try (have hC := Ctr.of hb_wv; simp only [World.size_alloc] at hC))
    go_ret
    exact ⟨rfl, by (repeat (first | (with_reducible exact Below.refl _ _) | (with_reducible assumption) | (with_reducible refine below_drewN ?_ _) | (with_reducible refine Below.drew ?_) | (with_reducible refine Below.alloc ?_ (by (first | omega | (show _ < _; omega) | (simp; omega) | (simp; done))) _) | (with_reducible refine Below.setCell ?_ (by (first | omega | (show _ < _; omega) | (simp; omega) | (simp; done))) _) | (with_reducible refine Below.trans ?_ (Below.mono (by with_reducible assumption) (by (first | omega | (show _ < _; omega) | (simp; omega) | (simp; done))))) | (with_reducible refine below_grown ?_ (by with_reducible assumption) (by (first | omega | (show _ < _; omega) | (simp; omega) | (simp; done))) (by (first | omega | (show _ < _; omega) | (simp; omega) | (simp; done))))))⟩
  · have hr : actB h s n t d = false := by simp [actB, hV, hK]
    rw [hr]
    clear hr
    go_enter Try.func20, Try.ntmps20
    go_wp2_with (first | (go_at_call 17; refine (implLeaseValid_any _ _ _ _).mono ?_; (rintro e wv ⟨rfl, hb_wv⟩; have hsz_wv := hb_wv.size; (try simp at hsz_wv); obtain ⟨hc_wv, hf_wv⟩ := bcell hb_wv; obtain ⟨_, _, _, _, _, _, _⟩ := ups (a := w.heap.size) (b := wv.heap.size) (by omega); have hk_wv := fun o => hc_wv (w.heap.size) o (by first | omega | (simp; done) | (simp; omega))); try (have hC := Ctr.of hb_wv; simp only [World.size_alloc] at hC)) | (go_at_call 35; refine (clockOk_any _ _ _).mono ?_; rintro e w' ⟨rfl, rfl⟩))
    go_ret
    exact ⟨rfl, by (repeat (first | (with_reducible exact Below.refl _ _) | (with_reducible assumption) | (with_reducible refine below_drewN ?_ _) | (with_reducible refine Below.drew ?_) | (with_reducible refine Below.alloc ?_ (by (first | omega | (show _ < _; omega) | (simp; omega) | (simp; done))) _) | (with_reducible refine Below.setCell ?_ (by (first | omega | (show _ < _; omega) | (simp; omega) | (simp; done))) _) | (with_reducible refine Below.trans ?_ (Below.mono (by with_reducible assumption) (by (first | omega | (show _ < _; omega) | (simp; omega) | (simp; done))))) | (with_reducible refine below_grown ?_ (by with_reducible assumption) (by (first | omega | (show _ < _; omega) | (simp; omega) | (simp; done))) (by (first | omega | (show _ < _; omega) | (simp; omega) | (simp; done))))))⟩
  · rw [act_of hV hK]
    obtain ⟨k1, k2, k3, k4⟩ := clk_iff.1 hK
    go_enter Try.func20, Try.ntmps20
    go_wp2_with (first | (go_at_call 17; refine (implLeaseValid_any _ _ _ _).mono ?_; (rintro e wv ⟨rfl, hb_wv⟩; have hsz_wv := hb_wv.size; (try simp at hsz_wv); obtain ⟨hc_wv, hf_wv⟩ := bcell hb_wv; obtain ⟨_, _, _, _, _, _, _⟩ := ups (a := w.heap.size) (b := wv.heap.size) (by omega); have hk_wv := fun o => hc_wv (w.heap.size) o (by first | omega | (simp; done) | (simp; omega))); try (have hC := Ctr.of hb_wv; simp only [World.size_alloc] at hC)) | (go_at_call 35; refine (clockOk_any _ _ _).mono ?_; rintro e w' ⟨rfl, rfl⟩) | (go_at_call 36; refine (active_any _ h s n t d _ hC hV k1 k2 k3 k4).mono ?_; rintro e wx ⟨rfl, hC2, hg2⟩))
    go_ret
    exact ⟨rfl, by (repeat (first | (with_reducible exact Below.refl _ _) | (with_reducible assumption) | (with_reducible refine below_drewN ?_ _) | (with_reducible refine Below.drew ?_) | (with_reducible refine Below.alloc ?_ (by (first | omega | (show _ < _; omega) | (simp; omega) | (simp; done))) _) | (with_reducible refine Below.setCell ?_ (by (first | omega | (show _ < _; omega) | (simp; omega) | (simp; done))) _) | (with_reducible refine Below.trans ?_ (Below.mono (by with_reducible assumption) (by (first | omega | (show _ < _; omega) | (simp; omega) | (simp; done))))) | (with_reducible refine below_grown ?_ (by with_reducible assumption) (by (first | omega | (show _ < _; omega) | (simp; omega) | (simp; done))) (by (first | omega | (show _ < _; omega) | (simp; omega) | (simp; done))))))⟩

theorem implExpired_any (h s n t d : Int) (w : World) : Calls Try.prog 22 #[.agg #[.int .i64 h, .int .i64 s, .int .i64 n], .int .i64 t, .int .i64 d] w fun e w' => e = .returned (.bool (expB h s n t d)) ∧ Below w.heap.size w w' := by
  rcases (show lseB h s n = false ∨ (lseB h s n = true ∧ clkB t d = false) ∨ (lseB h s n = true ∧ clkB t d = true) by cases lseB h s n <;> cases clkB t d <;> simp) with hV | ⟨hV, hK⟩ | ⟨hV, hK⟩
  · have hr : expB h s n t d = false := by simp [expB, hV]
    rw [hr]
    clear hr
    go_enter Try.func22, Try.ntmps22
    go_wp2_with (go_at_call 17; refine (implLeaseValid_any _ _ _ _).mono ?_; (rintro e wv ⟨rfl, hb_wv⟩; have hsz_wv := hb_wv.size; (try simp at hsz_wv); obtain ⟨hc_wv, hf_wv⟩ := bcell hb_wv; obtain ⟨_, _, _, _, _, _, _⟩ := ups (a := w.heap.size) (b := wv.heap.size) (by omega); have hk_wv := fun o => hc_wv (w.heap.size) o (by first | omega | (simp; done) | (simp; omega))); try (have hC := Ctr.of hb_wv; simp only [World.size_alloc] at hC))
    go_ret
    exact ⟨rfl, by (repeat (first | (with_reducible exact Below.refl _ _) | (with_reducible assumption) | (with_reducible refine below_drewN ?_ _) | (with_reducible refine Below.drew ?_) | (with_reducible refine Below.alloc ?_ (by (first | omega | (show _ < _; omega) | (simp; omega) | (simp; done))) _) | (with_reducible refine Below.setCell ?_ (by (first | omega | (show _ < _; omega) | (simp; omega) | (simp; done))) _) | (with_reducible refine Below.trans ?_ (Below.mono (by with_reducible assumption) (by (first | omega | (show _ < _; omega) | (simp; omega) | (simp; done))))) | (with_reducible refine below_grown ?_ (by with_reducible assumption) (by (first | omega | (show _ < _; omega) | (simp; omega) | (simp; done))) (by (first | omega | (show _ < _; omega) | (simp; omega) | (simp; done))))))⟩
  · have hr : expB h s n t d = false := by simp [expB, hV, hK]
    rw [hr]
    clear hr
    go_enter Try.func22, Try.ntmps22
    go_wp2_with (first | (go_at_call 17; refine (implLeaseValid_any _ _ _ _).mono ?_; (rintro e wv ⟨rfl, hb_wv⟩; have hsz_wv := hb_wv.size; (try simp at hsz_wv); obtain ⟨hc_wv, hf_wv⟩ := bcell hb_wv; obtain ⟨_, _, _, _, _, _, _⟩ := ups (a := w.heap.size) (b := wv.heap.size) (by omega); have hk_wv := fun o => hc_wv (w.heap.size) o (by first | omega | (simp; done) | (simp; omega))); try (have hC := Ctr.of hb_wv; simp only [World.size_alloc] at hC)) | (go_at_call 35; refine (clockOk_any _ _ _).mono ?_; rintro e w' ⟨rfl, rfl⟩))
    go_ret
    exact ⟨rfl, by (repeat (first | (with_reducible exact Below.refl _ _) | (with_reducible assumption) | (with_reducible refine below_drewN ?_ _) | (with_reducible refine Below.drew ?_) | (with_reducible refine Below.alloc ?_ (by (first | omega | (show _ < _; omega) | (simp; omega) | (simp; done))) _) | (with_reducible refine Below.setCell ?_ (by (first | omega | (show _ < _; omega) | (simp; omega) | (simp; done))) _) | (with_reducible refine Below.trans ?_ (Below.mono (by with_reducible assumption) (by (first | omega | (show _ < _; omega) | (simp; omega) | (simp; done))))) | (with_reducible refine below_grown ?_ (by with_reducible assumption) (by (first | omega | (show _ < _; omega) | (simp; omega) | (simp; done))) (by (first | omega | (show _ < _; omega) | (simp; omega) | (simp; done))))))⟩
  · rw [exp_of hV hK]
    obtain ⟨k1, k2, k3, k4⟩ := clk_iff.1 hK
    go_enter Try.func22, Try.ntmps22
    go_wp2_with (first | (go_at_call 17; refine (implLeaseValid_any _ _ _ _).mono ?_; (rintro e wv ⟨rfl, hb_wv⟩; have hsz_wv := hb_wv.size; (try simp at hsz_wv); obtain ⟨hc_wv, hf_wv⟩ := bcell hb_wv; obtain ⟨_, _, _, _, _, _, _⟩ := ups (a := w.heap.size) (b := wv.heap.size) (by omega); have hk_wv := fun o => hc_wv (w.heap.size) o (by first | omega | (simp; done) | (simp; omega))); try (have hC := Ctr.of hb_wv; simp only [World.size_alloc] at hC)) | (go_at_call 35; refine (clockOk_any _ _ _).mono ?_; rintro e w' ⟨rfl, rfl⟩) | (go_at_call 37; refine (expired_any _ h s n t d _ hC hV k1 k2 k3 k4).mono ?_; rintro e wx ⟨rfl, hC2, hg2⟩))
    go_ret
    exact ⟨rfl, by (repeat (first | (with_reducible exact Below.refl _ _) | (with_reducible assumption) | (with_reducible refine below_drewN ?_ _) | (with_reducible refine Below.drew ?_) | (with_reducible refine Below.alloc ?_ (by (first | omega | (show _ < _; omega) | (simp; omega) | (simp; done))) _) | (with_reducible refine Below.setCell ?_ (by (first | omega | (show _ < _; omega) | (simp; omega) | (simp; done))) _) | (with_reducible refine Below.trans ?_ (Below.mono (by with_reducible assumption) (by (first | omega | (show _ < _; omega) | (simp; omega) | (simp; done))))) | (with_reducible refine below_grown ?_ (by with_reducible assumption) (by (first | omega | (show _ < _; omega) | (simp; omega) | (simp; done))) (by (first | omega | (show _ < _; omega) | (simp; omega) | (simp; done))))))⟩
end Go.Proofs.Ytanapkapojljkaa
