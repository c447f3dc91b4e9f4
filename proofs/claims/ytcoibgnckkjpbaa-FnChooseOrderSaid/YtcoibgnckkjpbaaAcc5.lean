/- The draws of acceptor states, and the laws over AcceptorPrepare and AcceptorAccept. -/
import Derived.Test.YtcoibgnckkjpbaaAcc4
import Derived.Test.YtcoibgnckkjpbaaPick2
namespace Go.Proofs.Ytcoibgnckkjpbaa
open Go.RowKit

def eqAcc (p a v p' a' v' : Int) : Bool := p == p' && a == a' && v == v'
theorem eqAcc_same (p a v : Int) : eqAcc p a v p a v = true := by simp [eqAcc]
theorem eqAcceptor_any (p a v p' a' v' : Int) (w : World) : Calls Try.prog 22 #[.agg #[.int .i64 p, .int .i64 a, .int .i64 v], .agg #[.int .i64 p', .int .i64 a', .int .i64 v']] w fun e w' => e = .returned (.bool (eqAcc p a v p' a' v')) ∧ Below w.heap.size w w' := by
  unfold eqAcc
  cases h1 : (p == p') <;> cases h2 : (a == a') <;> cases h3 : (v == v')
  all_goals
    have n1 : (p != p') = !(p == p') := rfl
    have n2 : (a != a') = !(a == a') := rfl
    have n3 : (v != v') = !(v == v') := rfl
    rw [h1] at n1
    rw [h2] at n2
    rw [h3] at n3
    go_enter Try.func22, Try.ntmps22
    go_wp2
    go_ret
    exact ⟨rfl, by go_grown⟩
theorem eqAcceptor_same (p a v : Int) (w : World) : Calls Try.prog 22 #[.agg #[.int .i64 p, .int .i64 a, .int .i64 v], .agg #[.int .i64 p, .int .i64 a, .int .i64 v]] w fun e w' => e = .returned (.bool true) ∧ Below w.heap.size w w' :=
  (eqAcceptor_any p a v p a v w).mono fun _ _ ⟨he, hb⟩ => ⟨by rw [he, eqAcc_same], hb⟩

theorem exactPrepare_walk (p a v b : Int) (_wp : (Lit.int .i64 p).wf = true) (_wa : (Lit.int .i64 a).wf = true) (_wv : (Lit.int .i64 v).wf = true) (_wb : (Lit.int .i64 b).wf = true) (w : World) :
    Calls Try.prog 6 #[.agg #[.int .i64 p, .int .i64 a, .int .i64 v], .int .i64 b] w fun e w' => e = .returned (.bool true) ∧ Below w.heap.size w w' := by
  go_enter Try.func6, Try.ntmps6
  go_wp2_with (first
    | (go_at_call 17; refine (toAcceptor_any _ _ _ _).mono ?_; rintro e w' ⟨rfl, c1, c2, c3, rfl⟩)
    | (go_at_call 23; refine (specPrepare_any _ _ _ _ _).mono ?_; (rintro e ws ⟨rfl, hb_ws⟩; have hsz_ws := hb_ws.size; (try simp at hsz_ws); obtain ⟨hc_ws, hf_ws⟩ := bcell hb_ws; obtain ⟨_, _, _, _, _, _, _⟩ := ups (a := w.heap.size) (b := ws.heap.size) (by omega); have hk_ws := fun o => hc_ws (w.heap.size) o (by first | omega | (simp; done) | (simp; omega))))
    | (go_at_call 24; refine (implPrepare_any _ _ _ _ _).mono ?_; (rintro e wi ⟨rfl, hb_wi⟩; have hsz_wi := hb_wi.size; (try simp at hsz_wi); obtain ⟨hc_wi, hf_wi⟩ := bcell hb_wi; obtain ⟨_, _, _, _, _, _, _⟩ := ups (a := ws.heap.size) (b := wi.heap.size) (by omega); have hk_wi := fun o => hc_wi (ws.heap.size) o (by first | omega | (simp; done) | (simp; omega))))
    | (go_at_call 22; refine (eqAcceptor_same _ _ _ _).mono ?_; (rintro e we ⟨rfl, hb_we⟩; have hsz_we := hb_we.size; (try simp at hsz_we); obtain ⟨hc_we, hf_we⟩ := bcell hb_we)))
  go_ret
  exact ⟨rfl, by (repeat (first | (with_reducible exact Below.refl _ _) | (with_reducible assumption) | (with_reducible refine below_drewN ?_ _) | (with_reducible refine Below.drew ?_) | (with_reducible refine Below.alloc ?_ (by (first | omega | (show _ < _; omega) | (simp; omega) | (simp; done))) _) | (with_reducible refine Below.setCell ?_ (by (first | omega | (show _ < _; omega) | (simp; omega) | (simp; done))) _) | (with_reducible refine Below.trans ?_ (Below.mono (by with_reducible assumption) (by (first | omega | (show _ < _; omega) | (simp; omega) | (simp; done))))) | (with_reducible refine below_grown ?_ (by with_reducible assumption) (by (first | omega | (show _ < _; omega) | (simp; omega) | (simp; done))) (by (first | omega | (show _ < _; omega) | (simp; omega) | (simp; done))))))⟩

theorem exactAccept_walk (p a v b x : Int) (_wp : (Lit.int .i64 p).wf = true) (_wa : (Lit.int .i64 a).wf = true) (_wv : (Lit.int .i64 v).wf = true) (_wb : (Lit.int .i64 b).wf = true) (_wx : (Lit.int .i64 x).wf = true) (w : World) :
    Calls Try.prog 5 #[.agg #[.int .i64 p, .int .i64 a, .int .i64 v], .int .i64 b, .int .i64 x] w fun e w' => e = .returned (.bool true) ∧ Below w.heap.size w w' := by
  go_enter Try.func5, Try.ntmps5
  go_wp2_with (first
    | (go_at_call 17; refine (toAcceptor_any _ _ _ _).mono ?_; rintro e w' ⟨rfl, c1, c2, c3, rfl⟩)
    | (go_at_call 20; refine (specAccept_any _ _ _ _ _ _).mono ?_; (rintro e ws ⟨rfl, hb_ws⟩; have hsz_ws := hb_ws.size; (try simp at hsz_ws); obtain ⟨hc_ws, hf_ws⟩ := bcell hb_ws; obtain ⟨_, _, _, _, _, _, _⟩ := ups (a := w.heap.size) (b := ws.heap.size) (by omega); have hk_ws := fun o => hc_ws (w.heap.size) o (by first | omega | (simp; done) | (simp; omega))))
    | (go_at_call 21; refine (implAccept_any _ _ _ _ _ _).mono ?_; (rintro e wi ⟨rfl, hb_wi⟩; have hsz_wi := hb_wi.size; (try simp at hsz_wi); obtain ⟨hc_wi, hf_wi⟩ := bcell hb_wi; obtain ⟨_, _, _, _, _, _, _⟩ := ups (a := ws.heap.size) (b := wi.heap.size) (by omega); have hk_wi := fun o => hc_wi (ws.heap.size) o (by first | omega | (simp; done) | (simp; omega))))
    | (go_at_call 22; refine (eqAcceptor_same _ _ _ _).mono ?_; (rintro e we ⟨rfl, hb_we⟩; have hsz_we := hb_we.size; (try simp at hsz_we); obtain ⟨hc_we, hf_we⟩ := bcell hb_we)))
  go_ret
  exact ⟨rfl, by (repeat (first | (with_reducible exact Below.refl _ _) | (with_reducible assumption) | (with_reducible refine below_drewN ?_ _) | (with_reducible refine Below.drew ?_) | (with_reducible refine Below.alloc ?_ (by (first | omega | (show _ < _; omega) | (simp; omega) | (simp; done))) _) | (with_reducible refine Below.setCell ?_ (by (first | omega | (show _ < _; omega) | (simp; omega) | (simp; done))) _) | (with_reducible refine Below.trans ?_ (Below.mono (by with_reducible assumption) (by (first | omega | (show _ < _; omega) | (simp; omega) | (simp; done))))) | (with_reducible refine below_grown ?_ (by with_reducible assumption) (by (first | omega | (show _ < _; omega) | (simp; omega) | (simp; done))) (by (first | omega | (show _ < _; omega) | (simp; omega) | (simp; done))))))⟩
end Go.Proofs.Ytcoibgnckkjpbaa
