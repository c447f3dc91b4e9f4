/- The laws FnPrepareBlocks and FnAcceptorValid: their walks. -/
import Derived.Test.YtcoibgnckkjpbaaAcc8
import Derived.LoopTactic
namespace Go.Proofs.Ytcoibgnckkjpbaa
open Go.RowKit
set_option maxHeartbeats 4000000

theorem prepareBlocks_walk (A : Option Addr) (n c : Nat) (zs : List Int) (w : World) (h : Ints .u8 w A n c zs) : Calls Try.prog 10 #[.slice A n c] w fun e w' => e = .returned (.bool true) ∧ Below w.heap.size w w' := by
  have hmx := h.max
  unfold maxLen at hmx
  by_cases hl : 1048576 < n
  · go_enter Try.func10, Try.ntmps10
    go_wp2
    go_ret
    exact ⟨rfl, Below.refl _ _⟩
  go_enter Try.func10, Try.ntmps10
  go_wp2_with fail
  refine (drawPrepare_any A n c zs _ h).mono ?_
  rintro e wd ⟨p, a, v, b, rfl, ⟨_, _, _, _, _, _, _, _⟩, hb_wd⟩; have hsz_wd := hb_wd.size; try simp at hsz_wd; obtain ⟨hc_wd, hf_wd⟩ := bcell hb_wd
  go_wp2_with fail
  refine (specPrepare_any _ _ _ _ _).mono ?_
  (rintro e ws ⟨rfl, hb_ws⟩; have hsz_ws := hb_ws.size; simp at hsz_ws; obtain ⟨hc_ws, hf_ws⟩ := bcell hb_ws; obtain ⟨_, _, _, _, _, _, _⟩ := ups (a := wd.heap.size) (b := ws.heap.size) (by omega); have hk_ws := fun o => hc_ws (wd.heap.size) o (by first | omega | (simp; done) | (simp; omega)))
  go_wp2_with fail
  refine (implPrepare_any _ _ _ _ _).mono ?_
  (rintro e wi ⟨rfl, hb_wi⟩; have hsz_wi := hb_wi.size; simp at hsz_wi; obtain ⟨hc_wi, hf_wi⟩ := bcell hb_wi; obtain ⟨_, _, _, _, _, _, _⟩ := ups (a := wd.heap.size) (b := wi.heap.size) (by omega); have hk_wi := fun o => hc_wi (wd.heap.size) o (by first | omega | (simp; done) | (simp; omega)); obtain ⟨_, _, _, _, _, _, _⟩ := ups (a := ws.heap.size) (b := wi.heap.size) (by omega); have hk_wi := fun o => hc_wi (ws.heap.size) o (by first | omega | (simp; done) | (simp; omega)))
  rcases pr_cases p a v b with ⟨hV, e1, e2, e3, e4⟩ | ⟨hV, g1, e1, e2, e3, e4⟩ | ⟨hV, g1, e1, e2, e3, e4⟩ | ⟨hV, g1, g2, g3, e1, e2, e3, e4⟩ | ⟨hV, g1, g2, g3, e1, e2, e3, e4⟩
  rotate_left 4
  · have e5 := acc_up hV g3 g2
    go_wp2_with fail
    go_loopw [9] (fun i wr => ∃ k : Nat, 1 ≤ k ∧ k ≤ 21 ∧ i = .int .i64 k ∧ Below w.heap.size w wr ∧ wi.heap.size < wr.heap.size ∧ wr.cell? ⟨wi.heap.size, 0, none⟩ = some (.int .i64 b) ∧ wr.cell? ⟨wi.heap.size, 1, none⟩ = some (.int .i64 a) ∧ wr.cell? ⟨wi.heap.size, 2, none⟩ = some (.int .i64 v)) (fun i _ => 21 - (intOf i).toNat)
    case atStart =>
      refine ⟨1, by omega, by omega, rfl, ?_, by simp, by simp, by simp, by simp⟩
      (repeat (first | (with_reducible exact Below.refl _ _) | (with_reducible assumption) | (with_reducible refine below_drewN ?_ _) | (with_reducible refine Below.drew ?_) | (with_reducible refine Below.alloc ?_ (by (first | omega | (show _ < _; omega) | (simp; omega) | (simp; done))) _) | (with_reducible refine Below.setCell ?_ (by (first | omega | (show _ < _; omega) | (simp; omega) | (simp; done))) _) | (with_reducible refine Below.trans ?_ (Below.mono (by with_reducible assumption) (by (first | omega | (show _ < _; omega) | (simp; omega) | (simp; done))))) | (with_reducible refine below_grown ?_ (by with_reducible assumption) (by (first | omega | (show _ < _; omega) | (simp; omega) | (simp; done))) (by (first | omega | (show _ < _; omega) | (simp; omega) | (simp; done))))))
    case round =>
      obtain ⟨k, hk1, hk2, rfl, hbr, hszr, hr0, hr1, hr2⟩ := hrel
      by_cases hk : k ≤ 20
      · go_wp2_with fail
        refine (implAccept_ok b a v k 7 (by omega) (by omega) e5 _).mono ?_
        rintro e wj ⟨p', a', v', rfl, hb_wj⟩
        have hsz_wj := hb_wj.size
        obtain ⟨hc_wj, hf_wj⟩ := bcell hb_wj
        have hk0 := (hc_wj wi.heap.size 0 hszr).trans hr0
        have hk1' := (hc_wj wi.heap.size 1 hszr).trans hr1
        have hk2' := (hc_wj wi.heap.size 2 hszr).trans hr2
        clear hc_wj hf_wj
        go_wp2_with fail
        go_roundw
        case rel =>
          refine ⟨k + 1, by omega, by omega, by go_num, ?_, by simp; omega, ?_, ?_, ?_⟩
          · exact (hbr.trans (hb_wj.mono hbr.size)).alloc (Nat.le_trans hbr.size hsz_wj) _
          · rw [World.cell?_alloc_lt _ _ _ (by show wi.heap.size < _; omega)]; exact hk0
          · rw [World.cell?_alloc_lt _ _ _ (by show wi.heap.size < _; omega)]; exact hk1'
          · rw [World.cell?_alloc_lt _ _ _ (by show wi.heap.size < _; omega)]; exact hk2'
        case measure => simp [intOf]; omega
      · obtain rfl : k = 21 := by omega
        go_wp2
        go_ret
        exact ⟨rfl, hbr⟩
  all_goals go_wp2_with fail
  all_goals go_ret
  all_goals exact ⟨rfl, by (repeat (first | (with_reducible exact Below.refl _ _) | (with_reducible assumption) | (with_reducible refine below_drewN ?_ _) | (with_reducible refine Below.drew ?_) | (with_reducible refine Below.alloc ?_ (by (first | omega | (show _ < _; omega) | (simp; omega) | (simp; done))) _) | (with_reducible refine Below.setCell ?_ (by (first | omega | (show _ < _; omega) | (simp; omega) | (simp; done))) _) | (with_reducible refine Below.trans ?_ (Below.mono (by with_reducible assumption) (by (first | omega | (show _ < _; omega) | (simp; omega) | (simp; done))))) | (with_reducible refine below_grown ?_ (by with_reducible assumption) (by (first | omega | (show _ < _; omega) | (simp; omega) | (simp; done))) (by (first | omega | (show _ < _; omega) | (simp; omega) | (simp; done))))))⟩

theorem valid_cases (p a v : Int) (h : 0 ≤ a) : (p < a ∧ accB p a v = false) ∨ (a ≤ p ∧ 20 < p ∧ accB p a v = false) ∨ (a ≤ p ∧ p ≤ 20 ∧ a = 0 ∧ v = 0 ∧ accB p a v = true) ∨ (a ≤ p ∧ p ≤ 20 ∧ a = 0 ∧ ¬ v = 0 ∧ accB p a v = false) ∨
    (a ≤ p ∧ p ≤ 20 ∧ 0 < a ∧ v < 1 ∧ accB p a v = false) ∨ (a ≤ p ∧ p ≤ 20 ∧ 0 < a ∧ 99 < v ∧ accB p a v = false) ∨ (a ≤ p ∧ p ≤ 20 ∧ 0 < a ∧ 1 ≤ v ∧ v ≤ 99 ∧ accB p a v = true) := by
  have hi := @acc_iff p a v
  cases hB : accB p a v <;> simp [hB] at hi ⊢ <;> omega

theorem drawValid_any (A : Option Addr) (n c : Nat) (zs : List Int) (w : World) (h : Ints .u8 w A n c zs) : Calls Try.prog 19 #[.slice A n c] w fun e w' =>
    ∃ p a v : Int, e = .returned (.agg #[.int .i64 p, .int .i64 a, .int .i64 v]) ∧ (-1 ≤ p ∧ p ≤ 100 ∧ 0 ≤ a ∧ a ≤ 100 ∧ 0 ≤ v ∧ v ≤ 100) ∧ Below w.heap.size w w' := by
  go_enter Try.func19, Try.ntmps19
  go_wp2_with fail
  (refine (l6Open_any A n c zs _ (h.below (by (repeat (first | (with_reducible exact Below.refl _ _) | (with_reducible assumption) | (with_reducible refine below_drewN ?_ _) | (with_reducible refine Below.drew ?_) | (with_reducible refine Below.alloc ?_ (by (first | omega | (show _ < _; omega) | (simp; omega) | (simp; done))) _) | (with_reducible refine Below.setCell ?_ (by (first | omega | (show _ < _; omega) | (simp; omega) | (simp; done))) _) | (with_reducible refine Below.trans ?_ (Below.mono (by with_reducible assumption) (by (first | omega | (show _ < _; omega) | (simp; omega) | (simp; done))))) | (with_reducible refine below_grown ?_ (by with_reducible assumption) (by (first | omega | (show _ < _; omega) | (simp; omega) | (simp; done))) (by (first | omega | (show _ < _; omega) | (simp; omega) | (simp; done))))))))).mono ?_; rintro e w1 ⟨rfl, n', c', rfl, hrd⟩; simp only [World.size_alloc] at hrd)
  go_wp2_with fail
  (all_goals (try (((apply Calls.mono; focus (apply pick_abs; (focus (repeat (first | (with_reducible assumption) | (with_reducible apply Rdr.drewN) | (with_reducible apply Rdr.drew) | (with_reducible apply Rdr.alloc) | (with_reducible apply Rdr.next) | (with_reducible apply Rdr.setCell; (first | omega | (show _ < _; omega) | (simp; omega) | (simp; done)))))); omega)); rintro e wp ⟨v, rfl, hv0, hv1, hrd, hsz, hcp, hfp, hgp⟩; replace hv1 := hv1 (by omega); try simp at hsz); go_wp2_with fail)))
  (all_goals (try (((apply Calls.mono; focus (apply pick_abs; (focus (repeat (first | (with_reducible assumption) | (with_reducible apply Rdr.drewN) | (with_reducible apply Rdr.drew) | (with_reducible apply Rdr.alloc) | (with_reducible apply Rdr.next) | (with_reducible apply Rdr.setCell; (first | omega | (show _ < _; omega) | (simp; omega) | (simp; done)))))); omega)); rintro e wp ⟨v, rfl, hv0, hv1, hrd, hsz, hcp, hfp, hgp⟩; replace hv1 := hv1 (by omega); try simp at hsz); go_wp2_with fail)))
  ((apply Calls.mono; focus (apply pick_abs; (focus (repeat (first | (with_reducible assumption) | (with_reducible apply Rdr.drewN) | (with_reducible apply Rdr.drew) | (with_reducible apply Rdr.alloc) | (with_reducible apply Rdr.next) | (with_reducible apply Rdr.setCell; (first | omega | (show _ < _; omega) | (simp; omega) | (simp; done)))))); omega)); rintro e wp ⟨v, rfl, hv0, hv1, hrd, hsz, hcp, hfp, hgp⟩; replace hv1 := hv1 (by omega); try simp at hsz)
  obtain ⟨m, rfl⟩ := Int.eq_ofNat_of_zero_le hv0
  rcases (show m = 0 ∨ m = 1 ∨ m = 2 ∨ m = 3 by omega) with rfl | rfl | rfl | rfl
  all_goals go_wp2_with fail
  all_goals refine bodyPost_ret (by simp only [results, Try.results19]; go_simp; try rfl) rfl ?_
  all_goals refine ⟨_, _, _, rfl, ⟨?_, ?_, ?_, ?_, ?_, ?_⟩, ?_⟩
  all_goals first | omega | (repeat (first | (with_reducible exact Below.refl _ _) | (with_reducible assumption) | (with_reducible refine below_drewN ?_ _) | (with_reducible refine Below.drew ?_) | (with_reducible refine Below.alloc ?_ (by (first | omega | (show _ < _; omega) | (simp; omega) | (simp; done))) _) | (with_reducible refine Below.setCell ?_ (by (first | omega | (show _ < _; omega) | (simp; omega) | (simp; done))) _) | (with_reducible refine Below.trans ?_ (Below.mono (by with_reducible assumption) (by (first | omega | (show _ < _; omega) | (simp; omega) | (simp; done))))) | (with_reducible refine below_grown ?_ (by with_reducible assumption) (by (first | omega | (show _ < _; omega) | (simp; omega) | (simp; done))) (by (first | omega | (show _ < _; omega) | (simp; omega) | (simp; done))))))

theorem acceptorValid_walk (A : Option Addr) (n c : Nat) (zs : List Int) (w : World) (h : Ints .u8 w A n c zs) : Calls Try.prog 4 #[.slice A n c] w fun e w' => e = .returned (.bool true) ∧ Below w.heap.size w w' := by
  have hmx := h.max
  unfold maxLen at hmx
  by_cases hl : 1048576 < n
  · go_enter Try.func4, Try.ntmps4
    go_wp2
    go_ret
    exact ⟨rfl, Below.refl _ _⟩
  go_enter Try.func4, Try.ntmps4
  go_wp2_with fail
  refine (drawValid_any A n c zs _ h).mono ?_
  rintro e wd ⟨p, a, v, rfl, ⟨_, _, ha0, _, _, _⟩, hb_wd⟩; have hsz_wd := hb_wd.size; try simp at hsz_wd; obtain ⟨hc_wd, hf_wd⟩ := bcell hb_wd
  rcases valid_cases p a v ha0 with ⟨g1, hV⟩ | ⟨g1, g2, hV⟩ | ⟨g1, g2, rfl, rfl, hV⟩ | ⟨g1, g2, rfl, g3, hV⟩ | ⟨g1, g2, g3, g4, hV⟩ | ⟨g1, g2, g3, g4, hV⟩ | ⟨g1, g2, g3, g4, g5, hV⟩
  all_goals go_wp2_with fail
  all_goals try (go_at_call 18; refine (implValid_any _ _ _ _).mono ?_; rintro e wv ⟨rfl, rfl⟩; go_wp2_with fail)
  all_goals try (go_at_call 16; refine (specValid_any _ _ _ _).mono ?_; rintro e wv ⟨rfl, rfl⟩; go_wp2_with fail)
  all_goals go_ret
  all_goals exact ⟨by first | rfl | (apply ret_bool; simp; omega) | (apply ret_bool; simp [*]; done), by (repeat (first | (with_reducible exact Below.refl _ _) | (with_reducible assumption) | (with_reducible refine below_drewN ?_ _) | (with_reducible refine Below.drew ?_) | (with_reducible refine Below.alloc ?_ (by (first | omega | (show _ < _; omega) | (simp; omega) | (simp; done))) _) | (with_reducible refine Below.setCell ?_ (by (first | omega | (show _ < _; omega) | (simp; omega) | (simp; done))) _) | (with_reducible refine Below.trans ?_ (Below.mono (by with_reducible assumption) (by (first | omega | (show _ < _; omega) | (simp; omega) | (simp; done))))) | (with_reducible refine below_grown ?_ (by with_reducible assumption) (by (first | omega | (show _ < _; omega) | (simp; omega) | (simp; done))) (by (first | omega | (show _ < _; omega) | (simp; omega) | (simp; done))))))⟩
end Go.Proofs.Ytcoibgnckkjpbaa
