/- Contracts of LeaseGrant, the program's and the reference's. -/
import Derived.Test.YtanapkapojljkaaLse4
namespace Go.Proofs.Ytanapkapojljkaa
open Go.RowKit

/-- The arguments of LeaseGrant are valid. -/
def grArg (h s n o t m d : Int) : Bool := lseB h s n && inB o 1 6 && clkB t d && inB m 1 999
def grOk (h s n o t m d : Int) : Bool := grArg h s n o t m d && (expR h s n t d || renR h s n o t m)
def grH (h s n o t m d : Int) : Int := if grArg h s n o t m d then (if expR h s n t d || renR h s n o t m then o else h) else 0
def grS (h s n o t m d : Int) : Int := if grArg h s n o t m d then (if expR h s n t d || renR h s n o t m then t else s) else 0
def grN (h s n o t m d : Int) : Int := if grArg h s n o t m d then (if expR h s n t d || renR h s n o t m then m else n) else 0

theorem ren_iff {h s n o t m : Int} : renR h s n o t m = true ↔ h = o ∧ s ≤ t ∧ s + n ≤ t + m := by
  unfold renR; simp; omega
theorem exp_iff {h s n t d : Int} : expR h s n t d = true ↔ h = 0 ∨ s + n + d ≤ t := by
  unfold expR; simp

theorem gr_cases (h s n o t m d : Int) :
    (lseB h s n = false ∧ grOk h s n o t m d = false ∧ grH h s n o t m d = 0 ∧ grS h s n o t m d = 0 ∧ grN h s n o t m d = 0) ∨
    (lseB h s n = true ∧ inB o 1 6 = false ∧ grOk h s n o t m d = false ∧ grH h s n o t m d = 0 ∧ grS h s n o t m d = 0 ∧ grN h s n o t m d = 0) ∨
    (lseB h s n = true ∧ inB o 1 6 = true ∧ clkB t d = false ∧ grOk h s n o t m d = false ∧ grH h s n o t m d = 0 ∧ grS h s n o t m d = 0 ∧ grN h s n o t m d = 0) ∨
    (lseB h s n = true ∧ inB o 1 6 = true ∧ clkB t d = true ∧ inB m 1 999 = false ∧ grOk h s n o t m d = false ∧ grH h s n o t m d = 0 ∧ grS h s n o t m d = 0 ∧ grN h s n o t m d = 0) ∨
    (lseB h s n = true ∧ inB o 1 6 = true ∧ clkB t d = true ∧ inB m 1 999 = true ∧ expR h s n t d = true ∧ grOk h s n o t m d = true ∧ grH h s n o t m d = o ∧ grS h s n o t m d = t ∧ grN h s n o t m d = m) ∨
    (lseB h s n = true ∧ inB o 1 6 = true ∧ clkB t d = true ∧ inB m 1 999 = true ∧ expR h s n t d = false ∧ renR h s n o t m = true ∧ grOk h s n o t m d = true ∧ grH h s n o t m d = o ∧ grS h s n o t m d = t ∧ grN h s n o t m d = m) ∨
    (lseB h s n = true ∧ inB o 1 6 = true ∧ clkB t d = true ∧ inB m 1 999 = true ∧ expR h s n t d = false ∧ renR h s n o t m = false ∧ grOk h s n o t m d = false ∧ grH h s n o t m d = h ∧ grS h s n o t m d = s ∧ grN h s n o t m d = n) := by
  unfold grOk grH grS grN grArg
  cases lseB h s n <;> cases inB o 1 6 <;> cases clkB t d <;> cases inB m 1 999 <;> cases expR h s n t d <;> cases renR h s n o t m <;> simp

set_option maxHeartbeats 2000000

theorem implGrant_any (h s n o t m d : Int) (w : World) : Calls Try.prog 26 #[.agg #[.int .i64 h, .int .i64 s, .int .i64 n], .int .i64 o, .int .i64 t, .int .i64 m, .int .i64 d] w fun e w' => e = .returned (.tuple #[.agg #[.int .i64 (grH h s n o t m d), .int .i64 (grS h s n o t m d), .int .i64 (grN h s n o t m d)], .bool (grOk h s n o t m d)]) ∧ Below w.heap.size w w' := by
  rcases gr_cases h s n o t m d with ⟨hV, r1, r2, r3, r4⟩ | ⟨hV, hO, r1, r2, r3, r4⟩ | ⟨hV, hO, hK, r1, r2, r3, r4⟩ | ⟨hV, hO, hK, hM, r1, r2, r3, r4⟩ | ⟨hV, hO, hK, hM, hE, r1, r2, r3, r4⟩ | ⟨hV, hO, hK, hM, hE, hR, r1, r2, r3, r4⟩ | ⟨hV, hO, hK, hM, hE, hR, r1, r2, r3, r4⟩
  iterate 4
    focus
      rw [r1, r2, r3, r4]
      clear r1 r2 r3 r4
      go_enter Try.func26, Try.ntmps26
      go_wp2_with (first | (go_at_call 17; refine (implLeaseValid_any _ _ _ _).mono ?_; (rintro e wv ⟨rfl, hb_wv⟩; have hsz_wv := hb_wv.size; (try simp at hsz_wv); obtain ⟨hc_wv, hf_wv⟩ := bcell hb_wv; obtain ⟨_, _, _, _, _, _, _⟩ := ups (a := w.heap.size) (b := wv.heap.size) (by omega); have hk_wv := fun o => hc_wv (w.heap.size) o (by first | omega | (simp; done) | (simp; omega)); obtain ⟨_, _, _, _, _, _, _⟩ := ups (a := w.heap.size + 1) (b := wv.heap.size) (by omega); have hk_wv := fun o => hc_wv (w.heap.size + 1) o (by first | omega | (simp; done) | (simp; omega)))) | (go_at_call 35; refine (clockOk_any _ _ _).mono ?_; rintro e w' ⟨rfl, rfl⟩) | (go_at_call 30; refine (isMember_any _ _).mono ?_; rintro e w' ⟨rfl, rfl⟩) | (go_at_call 31; refine (isLength_any _ _).mono ?_; rintro e w' ⟨rfl, rfl⟩))
      refine bodyPost_ret (by simp only [results, Try.results26]; go_simp; try rfl) rfl ?_
      exact ⟨rfl, by (repeat (first | (with_reducible exact Below.refl _ _) | (with_reducible assumption) | (with_reducible refine below_drewN ?_ _) | (with_reducible refine Below.drew ?_) | (with_reducible refine Below.alloc ?_ (by (first | omega | (show _ < _; omega) | (simp; omega) | (simp; done))) _) | (with_reducible refine Below.setCell ?_ (by (first | omega | (show _ < _; omega) | (simp; omega) | (simp; done))) _) | (with_reducible refine Below.trans ?_ (Below.mono (by with_reducible assumption) (by (first | omega | (show _ < _; omega) | (simp; omega) | (simp; done))))) | (with_reducible refine below_grown ?_ (by with_reducible assumption) (by (first | omega | (show _ < _; omega) | (simp; omega) | (simp; done))) (by (first | omega | (show _ < _; omega) | (simp; omega) | (simp; done))))))⟩
  all_goals rw [r1, r2, r3, r4]
  all_goals clear r1 r2 r3 r4
  all_goals obtain ⟨k1, k2, k3, k4⟩ := clk_iff.1 hK
  all_goals obtain ⟨m1, m2⟩ := inB_iff.1 hM
  all_goals go_enter Try.func26, Try.ntmps26
  all_goals go_wp2_with (first | (go_at_call 17; refine (implLeaseValid_any _ _ _ _).mono ?_; (rintro e wv ⟨rfl, hb_wv⟩; have hsz_wv := hb_wv.size; (try simp at hsz_wv); obtain ⟨hc_wv, hf_wv⟩ := bcell hb_wv; obtain ⟨_, _, _, _, _, _, _⟩ := ups (a := w.heap.size) (b := wv.heap.size) (by omega); have hk_wv := fun o => hc_wv (w.heap.size) o (by first | omega | (simp; done) | (simp; omega)); obtain ⟨_, _, _, _, _, _, _⟩ := ups (a := w.heap.size + 1) (b := wv.heap.size) (by omega); have hk_wv := fun o => hc_wv (w.heap.size + 1) o (by first | omega | (simp; done) | (simp; omega)))) | (go_at_call 35; refine (clockOk_any _ _ _).mono ?_; rintro e w' ⟨rfl, rfl⟩) | (go_at_call 30; refine (isMember_any _ _).mono ?_; rintro e w' ⟨rfl, rfl⟩) | (go_at_call 31; refine (isLength_any _ _).mono ?_; rintro e w' ⟨rfl, rfl⟩))
  all_goals refine (expired_any _ h s n t d _ (by (repeat (first | (with_reducible exact Ctr.new _ _ _ _) | (with_reducible apply Ctr.alloc) | (with_reducible apply Ctr.drew)))) hV k1 k2 k3 k4).mono ?_
  all_goals rintro e wx ⟨rfl, hC2, hg2⟩
  all_goals have hsz2 := hg2.size
  all_goals simp at hsz2
  all_goals obtain ⟨hc2, hf2⟩ := gcell hg2
  all_goals have n0 : ¬ w.heap.size = w'.heap.size := by omega
  all_goals have n1 : ¬ w.heap.size + 1 = w'.heap.size := by omega
  all_goals obtain ⟨_, _, _, _, _, _, _⟩ := ups (a := w.heap.size) (b := wx.heap.size) (by omega)
  all_goals obtain ⟨_, _, _, _, _, _, _⟩ := ups (a := w.heap.size + 1) (b := wx.heap.size) (by omega)
  all_goals obtain ⟨_, _, _, _, _, _, _⟩ := ups (a := w'.heap.size + 1) (b := wx.heap.size) (by omega)
  all_goals have hl2 := fun o => hc2 w.heap.size o (by simp; omega) n0
  all_goals have hr2 := fun o => hc2 (w.heap.size + 1) o (by simp; omega) n1
  all_goals go_wp2_with (go_at_call 39; refine (renews_any _ h s n o t m _ hC2 hV k1 k2 m1 m2).mono ?_; rintro e wy ⟨rfl, hC3, hg3⟩; have hsz3 := hg3.size; (try simp at hsz3); obtain ⟨hc3, hf3⟩ := gcell hg3; have hl3 := fun o => hc3 w.heap.size o (by omega) n0; have hr3 := fun o => hc3 (w.heap.size + 1) o (by omega) n1)
  all_goals refine bodyPost_ret (by simp only [results, Try.results26]; go_simp; try rfl) rfl ?_
  all_goals exact ⟨rfl, by (repeat (first | (with_reducible exact Below.refl _ _) | (with_reducible assumption) | (with_reducible refine below_drewN ?_ _) | (with_reducible refine Below.drew ?_) | (with_reducible refine Below.alloc ?_ (by (first | omega | (show _ < _; omega) | (simp; omega) | (simp; done))) _) | (with_reducible refine Below.setCell ?_ (by (first | omega | (show _ < _; omega) | (simp; omega) | (simp; done))) _) | (with_reducible refine Below.trans ?_ (Below.mono (by with_reducible assumption) (by (first | omega | (show _ < _; omega) | (simp; omega) | (simp; done))))) | (with_reducible refine below_grown ?_ (by with_reducible assumption) (by (first | omega | (show _ < _; omega) | (simp; omega) | (simp; done))) (by (first | omega | (show _ < _; omega) | (simp; omega) | (simp; done))))))⟩
end Go.Proofs.Ytanapkapojljkaa
