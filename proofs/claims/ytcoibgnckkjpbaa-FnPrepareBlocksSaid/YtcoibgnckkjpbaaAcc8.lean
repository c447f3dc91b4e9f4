/- Laws over AcceptorPrepare and AcceptorAccept at a drawn state: their walks. -/
import Derived.Test.YtcoibgnckkjpbaaAcc7
namespace Go.Proofs.Ytcoibgnckkjpbaa
open Go.RowKit

theorem pr_cases (p a v b : Int) : (accB p a v = false ∧ prOk p a v b = false ∧ prP p a v b = 0 ∧ prA p a v b = 0 ∧ prV p a v b = 0) ∨
      (accB p a v = true ∧ b < 1 ∧ prOk p a v b = false ∧ prP p a v b = 0 ∧ prA p a v b = 0 ∧ prV p a v b = 0) ∨
      (accB p a v = true ∧ 20 < b ∧ prOk p a v b = false ∧ prP p a v b = 0 ∧ prA p a v b = 0 ∧ prV p a v b = 0) ∨
      (accB p a v = true ∧ 1 ≤ b ∧ b ≤ 20 ∧ b ≤ p ∧ prOk p a v b = false ∧ prP p a v b = p ∧ prA p a v b = a ∧ prV p a v b = v) ∨
      (accB p a v = true ∧ 1 ≤ b ∧ b ≤ 20 ∧ p < b ∧ prOk p a v b = true ∧ prP p a v b = b ∧ prA p a v b = a ∧ prV p a v b = v) := by
  unfold prOk prP prA prV inB
  cases h : accB p a v
  · simp
  · by_cases h1 : 1 ≤ b <;> by_cases h2 : b ≤ 20 <;> by_cases h3 : p < b <;> simp [*] <;> omega

theorem ac_cases (p a v b x : Int) : (accB p a v = false ∧ acOk p a v b x = false ∧ acP p a v b x = 0 ∧ acA p a v b x = 0 ∧ acV p a v b x = 0) ∨
      (accB p a v = true ∧ b < 1 ∧ acOk p a v b x = false ∧ acP p a v b x = 0 ∧ acA p a v b x = 0 ∧ acV p a v b x = 0) ∨
      (accB p a v = true ∧ 20 < b ∧ acOk p a v b x = false ∧ acP p a v b x = 0 ∧ acA p a v b x = 0 ∧ acV p a v b x = 0) ∨
      (accB p a v = true ∧ 1 ≤ b ∧ b ≤ 20 ∧ x < 1 ∧ acOk p a v b x = false ∧ acP p a v b x = 0 ∧ acA p a v b x = 0 ∧ acV p a v b x = 0) ∨
      (accB p a v = true ∧ 1 ≤ b ∧ b ≤ 20 ∧ 99 < x ∧ acOk p a v b x = false ∧ acP p a v b x = 0 ∧ acA p a v b x = 0 ∧ acV p a v b x = 0) ∨
      (accB p a v = true ∧ 1 ≤ b ∧ b ≤ 20 ∧ 1 ≤ x ∧ x ≤ 99 ∧ b < p ∧ acOk p a v b x = false ∧ acP p a v b x = p ∧ acA p a v b x = a ∧ acV p a v b x = v) ∨
      (accB p a v = true ∧ 1 ≤ b ∧ b ≤ 20 ∧ 1 ≤ x ∧ x ≤ 99 ∧ p ≤ b ∧ acOk p a v b x = true ∧ acP p a v b x = b ∧ acA p a v b x = b ∧ acV p a v b x = x) := by
  unfold acOk acP acA acV inB
  cases h : accB p a v
  · simp
  · by_cases h1 : 1 ≤ b <;> by_cases h2 : b ≤ 20 <;> by_cases h4 : 1 ≤ x <;> by_cases h5 : x ≤ 99 <;> by_cases h3 : p ≤ b <;> simp [*] <;> omega

theorem acc_iff {p a v : Int} : accB p a v = true ↔ (0 ≤ a ∧ a ≤ p ∧ p ≤ 20 ∧ ((a = 0 ∧ v = 0) ∨ (0 < a ∧ 1 ≤ v ∧ v ≤ 99))) := by
  unfold accB inB
  simp
  omega

theorem acc_up {p a v b : Int} (h : accB p a v = true) (h1 : p < b) (h2 : b ≤ 20) : accB b a v = true := by
  rw [acc_iff] at h ⊢
  omega
theorem acc_new {b x : Int} (h1 : 1 ≤ b) (h2 : b ≤ 20) (h3 : 1 ≤ x) (h4 : x ≤ 99) : accB b b x = true := by
  rw [acc_iff]
  omega
theorem pr_again (b a v : Int) : prOk b a v b = false := by simp [prOk]
theorem ac_again {b x : Int} (h1 : 1 ≤ b) (h2 : b ≤ 20) (h3 : 1 ≤ x) (h4 : x ≤ 99) : acOk b b x b x = true ∧ acP b b x b x = b ∧ acA b b x b x = b ∧ acV b b x b x = x := by
  have := acc_new h1 h2 h3 h4
  simp [acOk, acP, acA, acV, inB, *]

set_option maxHeartbeats 4000000

theorem prepareState_walk (A : Option Addr) (n c : Nat) (zs : List Int) (w : World) (h : Ints .u8 w A n c zs) : Calls Try.prog 8 #[.slice A n c] w fun e w' => e = .returned (.bool true) ∧ Below w.heap.size w w' := by
  have hmx := h.max
  unfold maxLen at hmx
  by_cases hl : 1048576 < n
  · go_enter Try.func8, Try.ntmps8
    go_wp2
    go_ret
    exact ⟨rfl, Below.refl _ _⟩
  go_enter Try.func8, Try.ntmps8
  go_wp2_with fail
  refine (drawPrepare_any A n c zs _ h).mono ?_
  rintro e wd ⟨p, a, v, b, rfl, ⟨_, _, _, _, _, _, _, _⟩, hb_wd⟩; have hsz_wd := hb_wd.size; try simp at hsz_wd; obtain ⟨hc_wd, hf_wd⟩ := bcell hb_wd
  go_wp2_with fail
  refine (specPrepare_any _ _ _ _ _).mono ?_
  (rintro e ws ⟨rfl, hb_ws⟩; have hsz_ws := hb_ws.size; simp at hsz_ws; obtain ⟨hc_ws, hf_ws⟩ := bcell hb_ws; obtain ⟨_, _, _, _, _, _, _⟩ := ups (a := wd.heap.size) (b := ws.heap.size) (by omega); have hk_ws := fun o => hc_ws (wd.heap.size) o (by first | omega | (simp; done) | (simp; omega)))
  go_wp2_with fail
  refine (implPrepare_any _ _ _ _ _).mono ?_
  (rintro e wi ⟨rfl, hb_wi⟩; have hsz_wi := hb_wi.size; simp at hsz_wi; obtain ⟨hc_wi, hf_wi⟩ := bcell hb_wi; obtain ⟨_, _, _, _, _, _, _⟩ := ups (a := wd.heap.size) (b := wi.heap.size) (by omega); have hk_wi := fun o => hc_wi (wd.heap.size) o (by first | omega | (simp; done) | (simp; omega)); obtain ⟨_, _, _, _, _, _, _⟩ := ups (a := ws.heap.size) (b := wi.heap.size) (by omega); have hk_wi := fun o => hc_wi (ws.heap.size) o (by first | omega | (simp; done) | (simp; omega)))
  rcases pr_cases p a v b with ⟨hV, e1, e2, e3, e4⟩ | ⟨hV, g1, e1, e2, e3, e4⟩ | ⟨hV, g1, e1, e2, e3, e4⟩ | ⟨hV, g1, g2, g3, e1, e2, e3, e4⟩ | ⟨hV, g1, g2, g3, e1, e2, e3, e4⟩
  all_goals try have e5 := acc_up hV g3 g2
  all_goals have e6 := pr_again b a v
  all_goals go_wp2_with fail
  all_goals try (go_at_call 16; refine (specValid_any _ _ _ _).mono ?_; rintro e wv ⟨rfl, rfl⟩; go_wp2_with fail)
  all_goals try (go_at_call 24; refine (implPrepare_any _ _ _ _ _).mono ?_; (rintro e wj ⟨rfl, hb_wj⟩; have hsz_wj := hb_wj.size; simp at hsz_wj; obtain ⟨hc_wj, hf_wj⟩ := bcell hb_wj; obtain ⟨_, _, _, _, _, _, _⟩ := ups (a := wd.heap.size) (b := wj.heap.size) (by omega); have hk_wj := fun o => hc_wj (wd.heap.size) o (by first | omega | (simp; done) | (simp; omega)); obtain ⟨_, _, _, _, _, _, _⟩ := ups (a := ws.heap.size) (b := wj.heap.size) (by omega); have hk_wj := fun o => hc_wj (ws.heap.size) o (by first | omega | (simp; done) | (simp; omega)); obtain ⟨_, _, _, _, _, _, _⟩ := ups (a := wi.heap.size) (b := wj.heap.size) (by omega); have hk_wj := fun o => hc_wj (wi.heap.size) o (by first | omega | (simp; done) | (simp; omega))); go_wp2_with fail)
  all_goals try (go_at_call 18; refine (implValid_any _ _ _ _).mono ?_; rintro e wv ⟨rfl, rfl⟩; go_wp2_with fail)
  all_goals go_ret
  all_goals exact ⟨rfl, by (repeat (first | (with_reducible exact Below.refl _ _) | (with_reducible assumption) | (with_reducible refine below_drewN ?_ _) | (with_reducible refine Below.drew ?_) | (with_reducible refine Below.alloc ?_ (by (first | omega | (show _ < _; omega) | (simp; omega) | (simp; done))) _) | (with_reducible refine Below.setCell ?_ (by (first | omega | (show _ < _; omega) | (simp; omega) | (simp; done))) _) | (with_reducible refine Below.trans ?_ (Below.mono (by with_reducible assumption) (by (first | omega | (show _ < _; omega) | (simp; omega) | (simp; done))))) | (with_reducible refine below_grown ?_ (by with_reducible assumption) (by (first | omega | (show _ < _; omega) | (simp; omega) | (simp; done))) (by (first | omega | (show _ < _; omega) | (simp; omega) | (simp; done))))))⟩

theorem acceptState_walk (A : Option Addr) (n c : Nat) (zs : List Int) (w : World) (h : Ints .u8 w A n c zs) : Calls Try.prog 7 #[.slice A n c] w fun e w' => e = .returned (.bool true) ∧ Below w.heap.size w w' := by
  have hmx := h.max
  unfold maxLen at hmx
  by_cases hl : 1048576 < n
  · go_enter Try.func7, Try.ntmps7
    go_wp2
    go_ret
    exact ⟨rfl, Below.refl _ _⟩
  go_enter Try.func7, Try.ntmps7
  go_wp2_with fail
  refine (drawAccept_any A n c zs _ h).mono ?_
  rintro e wd ⟨p, a, v, b, x, rfl, ⟨_, _, _, _, _, _, _, _, _, _⟩, hb_wd⟩; have hsz_wd := hb_wd.size; try simp at hsz_wd; obtain ⟨hc_wd, hf_wd⟩ := bcell hb_wd
  go_wp2_with fail
  refine (specAccept_any _ _ _ _ _ _).mono ?_
  (rintro e ws ⟨rfl, hb_ws⟩; have hsz_ws := hb_ws.size; simp at hsz_ws; obtain ⟨hc_ws, hf_ws⟩ := bcell hb_ws; obtain ⟨_, _, _, _, _, _, _⟩ := ups (a := wd.heap.size) (b := ws.heap.size) (by omega); have hk_ws := fun o => hc_ws (wd.heap.size) o (by first | omega | (simp; done) | (simp; omega)))
  go_wp2_with fail
  refine (implAccept_any _ _ _ _ _ _).mono ?_
  (rintro e wi ⟨rfl, hb_wi⟩; have hsz_wi := hb_wi.size; simp at hsz_wi; obtain ⟨hc_wi, hf_wi⟩ := bcell hb_wi; obtain ⟨_, _, _, _, _, _, _⟩ := ups (a := wd.heap.size) (b := wi.heap.size) (by omega); have hk_wi := fun o => hc_wi (wd.heap.size) o (by first | omega | (simp; done) | (simp; omega)); obtain ⟨_, _, _, _, _, _, _⟩ := ups (a := ws.heap.size) (b := wi.heap.size) (by omega); have hk_wi := fun o => hc_wi (ws.heap.size) o (by first | omega | (simp; done) | (simp; omega)))
  rcases ac_cases p a v b x with ⟨hV, e1, e2, e3, e4⟩ | ⟨hV, g1, e1, e2, e3, e4⟩ | ⟨hV, g1, e1, e2, e3, e4⟩ | ⟨hV, g1, g2, g3, e1, e2, e3, e4⟩ | ⟨hV, g1, g2, g3, e1, e2, e3, e4⟩ | ⟨hV, g1, g2, g3, g4, g5, e1, e2, e3, e4⟩ | ⟨hV, g1, g2, g3, g4, g5, e1, e2, e3, e4⟩
  all_goals try have e5 := acc_new g1 g2 g3 g4
  all_goals go_wp2_with fail
  all_goals try (go_at_call 16; refine (specValid_any _ _ _ _).mono ?_; rintro e wv ⟨rfl, rfl⟩; go_wp2_with fail)
  all_goals try (go_at_call 18; refine (implValid_any _ _ _ _).mono ?_; rintro e wv ⟨rfl, rfl⟩; go_wp2_with fail)
  all_goals go_ret
  all_goals exact ⟨rfl, by (repeat (first | (with_reducible exact Below.refl _ _) | (with_reducible assumption) | (with_reducible refine below_drewN ?_ _) | (with_reducible refine Below.drew ?_) | (with_reducible refine Below.alloc ?_ (by (first | omega | (show _ < _; omega) | (simp; omega) | (simp; done))) _) | (with_reducible refine Below.setCell ?_ (by (first | omega | (show _ < _; omega) | (simp; omega) | (simp; done))) _) | (with_reducible refine Below.trans ?_ (Below.mono (by with_reducible assumption) (by (first | omega | (show _ < _; omega) | (simp; omega) | (simp; done))))) | (with_reducible refine below_grown ?_ (by with_reducible assumption) (by (first | omega | (show _ < _; omega) | (simp; omega) | (simp; done))) (by (first | omega | (show _ < _; omega) | (simp; omega) | (simp; done))))))⟩

theorem acceptAgain_walk (A : Option Addr) (n c : Nat) (zs : List Int) (w : World) (h : Ints .u8 w A n c zs) : Calls Try.prog 9 #[.slice A n c] w fun e w' => e = .returned (.bool true) ∧ Below w.heap.size w w' := by
  have hmx := h.max
  unfold maxLen at hmx
  by_cases hl : 1048576 < n
  · go_enter Try.func9, Try.ntmps9
    go_wp2
    go_ret
    exact ⟨rfl, Below.refl _ _⟩
  go_enter Try.func9, Try.ntmps9
  go_wp2_with fail
  refine (drawAccept_any A n c zs _ h).mono ?_
  rintro e wd ⟨p, a, v, b, x, rfl, ⟨_, _, _, _, _, _, _, _, _, _⟩, hb_wd⟩; have hsz_wd := hb_wd.size; try simp at hsz_wd; obtain ⟨hc_wd, hf_wd⟩ := bcell hb_wd
  go_wp2_with fail
  refine (specAccept_any _ _ _ _ _ _).mono ?_
  (rintro e ws ⟨rfl, hb_ws⟩; have hsz_ws := hb_ws.size; simp at hsz_ws; obtain ⟨hc_ws, hf_ws⟩ := bcell hb_ws; obtain ⟨_, _, _, _, _, _, _⟩ := ups (a := wd.heap.size) (b := ws.heap.size) (by omega); have hk_ws := fun o => hc_ws (wd.heap.size) o (by first | omega | (simp; done) | (simp; omega)))
  go_wp2_with fail
  refine (implAccept_any _ _ _ _ _ _).mono ?_
  (rintro e wi ⟨rfl, hb_wi⟩; have hsz_wi := hb_wi.size; simp at hsz_wi; obtain ⟨hc_wi, hf_wi⟩ := bcell hb_wi; obtain ⟨_, _, _, _, _, _, _⟩ := ups (a := wd.heap.size) (b := wi.heap.size) (by omega); have hk_wi := fun o => hc_wi (wd.heap.size) o (by first | omega | (simp; done) | (simp; omega)); obtain ⟨_, _, _, _, _, _, _⟩ := ups (a := ws.heap.size) (b := wi.heap.size) (by omega); have hk_wi := fun o => hc_wi (ws.heap.size) o (by first | omega | (simp; done) | (simp; omega)))
  rcases ac_cases p a v b x with ⟨hV, e1, e2, e3, e4⟩ | ⟨hV, g1, e1, e2, e3, e4⟩ | ⟨hV, g1, e1, e2, e3, e4⟩ | ⟨hV, g1, g2, g3, e1, e2, e3, e4⟩ | ⟨hV, g1, g2, g3, e1, e2, e3, e4⟩ | ⟨hV, g1, g2, g3, g4, g5, e1, e2, e3, e4⟩ | ⟨hV, g1, g2, g3, g4, g5, e1, e2, e3, e4⟩
  all_goals try (have e0 := ac_again g1 g2 g3 g4; obtain ⟨e5, e6, e7, e8⟩ := e0)
  all_goals have e9 := pr_again b b x
  all_goals go_wp2_with fail
  all_goals try (go_at_call 21; refine (implAccept_any _ _ _ _ _ _).mono ?_; (rintro e wj ⟨rfl, hb_wj⟩; have hsz_wj := hb_wj.size; simp at hsz_wj; obtain ⟨hc_wj, hf_wj⟩ := bcell hb_wj; obtain ⟨_, _, _, _, _, _, _⟩ := ups (a := wd.heap.size) (b := wj.heap.size) (by omega); have hk_wj := fun o => hc_wj (wd.heap.size) o (by first | omega | (simp; done) | (simp; omega)); obtain ⟨_, _, _, _, _, _, _⟩ := ups (a := ws.heap.size) (b := wj.heap.size) (by omega); have hk_wj := fun o => hc_wj (ws.heap.size) o (by first | omega | (simp; done) | (simp; omega)); obtain ⟨_, _, _, _, _, _, _⟩ := ups (a := wi.heap.size) (b := wj.heap.size) (by omega); have hk_wj := fun o => hc_wj (wi.heap.size) o (by first | omega | (simp; done) | (simp; omega))); go_wp2_with fail)
  all_goals try (go_at_call 24; refine (implPrepare_any _ _ _ _ _).mono ?_; (rintro e wk ⟨rfl, hb_wk⟩; have hsz_wk := hb_wk.size; simp at hsz_wk; obtain ⟨hc_wk, hf_wk⟩ := bcell hb_wk; obtain ⟨_, _, _, _, _, _, _⟩ := ups (a := wd.heap.size) (b := wk.heap.size) (by omega); have hk_wk := fun o => hc_wk (wd.heap.size) o (by first | omega | (simp; done) | (simp; omega)); obtain ⟨_, _, _, _, _, _, _⟩ := ups (a := ws.heap.size) (b := wk.heap.size) (by omega); have hk_wk := fun o => hc_wk (ws.heap.size) o (by first | omega | (simp; done) | (simp; omega)); obtain ⟨_, _, _, _, _, _, _⟩ := ups (a := wi.heap.size) (b := wk.heap.size) (by omega); have hk_wk := fun o => hc_wk (wi.heap.size) o (by first | omega | (simp; done) | (simp; omega)); obtain ⟨_, _, _, _, _, _, _⟩ := ups (a := wj.heap.size) (b := wk.heap.size) (by omega); have hk_wk := fun o => hc_wk (wj.heap.size) o (by first | omega | (simp; done) | (simp; omega))); go_wp2_with fail)
  all_goals go_ret
  all_goals exact ⟨rfl, by (repeat (first | (with_reducible exact Below.refl _ _) | (with_reducible assumption) | (with_reducible refine below_drewN ?_ _) | (with_reducible refine Below.drew ?_) | (with_reducible refine Below.alloc ?_ (by (first | omega | (show _ < _; omega) | (simp; omega) | (simp; done))) _) | (with_reducible refine Below.setCell ?_ (by (first | omega | (show _ < _; omega) | (simp; omega) | (simp; done))) _) | (with_reducible refine Below.trans ?_ (Below.mono (by with_reducible assumption) (by (first | omega | (show _ < _; omega) | (simp; omega) | (simp; done))))) | (with_reducible refine below_grown ?_ (by with_reducible assumption) (by (first | omega | (show _ < _; omega) | (simp; omega) | (simp; done))) (by (first | omega | (show _ < _; omega) | (simp; omega) | (simp; done))))))⟩

theorem acMono {p a v m x : Int} (h1 : 1 ≤ m) (h2 : m ≤ 20) (h3 : 1 ≤ x) (h4 : x ≤ 99) (hV : accB p a v = true) : p ≤ acP p a v m x ∧ a ≤ acA p a v m x := by
  rw [acc_iff] at hV
  have hV' : accB p a v = true := acc_iff.2 hV
  unfold acP acA
  simp [hV', inB, h1, h2, h3, h4]
  constructor <;> split <;> omega
theorem implAccept_mono (p a v b x : Int) (hb : 1 ≤ b ∧ b ≤ 20) (hx : 1 ≤ x ∧ x ≤ 99) (hV : accB p a v = true) (w : World) : Calls Try.prog 21 #[.agg #[.int .i64 p, .int .i64 a, .int .i64 v], .int .i64 b, .int .i64 x] w fun e w' =>
    ∃ (p' a' v' : Int) (ok : Bool), e = .returned (.tuple #[.agg #[.int .i64 p', .int .i64 a', .int .i64 v'], .bool ok]) ∧ (p ≤ p' ∧ a ≤ a') ∧ Below w.heap.size w w' :=
  (implAccept_any p a v b x w).mono fun _ _ ⟨he, hb'⟩ => ⟨_, _, _, _, he, acMono hb.1 hb.2 hx.1 hx.2 hV, hb'⟩
theorem implAccept_ok (p a v b x : Int) (hb : 1 ≤ b ∧ b ≤ 20) (hx : 1 ≤ x ∧ x ≤ 99) (hV : accB p a v = true) (w : World) : Calls Try.prog 21 #[.agg #[.int .i64 p, .int .i64 a, .int .i64 v], .int .i64 b, .int .i64 x] w fun e w' =>
    ∃ (p' a' v' : Int), e = .returned (.tuple #[.agg #[.int .i64 p', .int .i64 a', .int .i64 v'], .bool (decide (p ≤ b))]) ∧ Below w.heap.size w w' :=
  (implAccept_any p a v b x w).mono fun _ _ ⟨he, hb'⟩ => ⟨acP p a v b x, acA p a v b x, acV p a v b x, by rw [he]; simp [acOk, hV, inB, hb, hx], hb'⟩

theorem promiseMonotone_walk (A : Option Addr) (n c : Nat) (zs : List Int) (A2 : Option Addr) (n2 c2 : Nat) (zs2 : List Int) (w : World) (h : Ints .u8 w A n c zs) (h2 : Ints .u8 w A2 n2 c2 zs2) : Calls Try.prog 11 #[.slice A n c, .slice A2 n2 c2] w fun e w' => e = .returned (.bool true) ∧ Below w.heap.size w w' := by
  have hmx := h.max
  unfold maxLen at hmx
  have hmx2 := h2.max
  unfold maxLen at hmx2
  by_cases hl : 1048576 < n
  · go_enter Try.func11, Try.ntmps11
    go_wp2
    go_ret
    exact ⟨rfl, Below.refl _ _⟩
  by_cases hl2 : 1048576 < n2
  · go_enter Try.func11, Try.ntmps11
    go_wp2
    go_ret
    exact ⟨rfl, Below.refl _ _⟩
  go_enter Try.func11, Try.ntmps11
  go_wp2_with fail
  refine (drawPrepare_any A n c zs _ h).mono ?_
  rintro e wd ⟨p, a, v, b, rfl, ⟨_, _, _, _, _, _, _, _⟩, hb_wd⟩; have hsz_wd := hb_wd.size; try simp at hsz_wd; obtain ⟨hc_wd, hf_wd⟩ := bcell hb_wd
  go_wp2_with fail
  refine (specPrepare_any _ _ _ _ _).mono ?_
  (rintro e ws ⟨rfl, hb_ws⟩; have hsz_ws := hb_ws.size; simp at hsz_ws; obtain ⟨hc_ws, hf_ws⟩ := bcell hb_ws; obtain ⟨_, _, _, _, _, _, _⟩ := ups (a := wd.heap.size) (b := ws.heap.size) (by omega); have hk_ws := fun o => hc_ws (wd.heap.size) o (by first | omega | (simp; done) | (simp; omega)))
  go_wp2_with fail
  refine (implPrepare_any _ _ _ _ _).mono ?_
  (rintro e wi ⟨rfl, hb_wi⟩; have hsz_wi := hb_wi.size; simp at hsz_wi; obtain ⟨hc_wi, hf_wi⟩ := bcell hb_wi; obtain ⟨_, _, _, _, _, _, _⟩ := ups (a := wd.heap.size) (b := wi.heap.size) (by omega); have hk_wi := fun o => hc_wi (wd.heap.size) o (by first | omega | (simp; done) | (simp; omega)); obtain ⟨_, _, _, _, _, _, _⟩ := ups (a := ws.heap.size) (b := wi.heap.size) (by omega); have hk_wi := fun o => hc_wi (ws.heap.size) o (by first | omega | (simp; done) | (simp; omega)))
  rcases pr_cases p a v b with ⟨hV, e1, e2, e3, e4⟩ | ⟨hV, g1, e1, e2, e3, e4⟩ | ⟨hV, g1, e1, e2, e3, e4⟩ | ⟨hV, g1, g2, g3, e1, e2, e3, e4⟩ | ⟨hV, g1, g2, g3, e1, e2, e3, e4⟩
  all_goals try have e5 := acc_up hV g3 g2
  all_goals go_wp2_with fail
  all_goals try (go_at_call 21; refine (implAccept_mono _ _ _ _ _ (by omega) (by omega) (by assumption) _).mono ?_; rintro e wj ⟨p', a', v', ok, rfl, ⟨_, _⟩, hb_wj⟩; have hsz_wj := hb_wj.size; simp at hsz_wj; obtain ⟨hc_wj, hf_wj⟩ := bcell hb_wj; obtain ⟨_, _, _, _, _, _, _⟩ := ups (a := wd.heap.size) (b := wj.heap.size) (by omega); obtain ⟨_, _, _, _, _, _, _⟩ := ups (a := wi.heap.size) (b := wj.heap.size) (by omega); go_wp2_with fail)
  all_goals go_ret
  all_goals exact ⟨rfl, by (repeat (first | (with_reducible exact Below.refl _ _) | (with_reducible assumption) | (with_reducible refine below_drewN ?_ _) | (with_reducible refine Below.drew ?_) | (with_reducible refine Below.alloc ?_ (by (first | omega | (show _ < _; omega) | (simp; omega) | (simp; done))) _) | (with_reducible refine Below.setCell ?_ (by (first | omega | (show _ < _; omega) | (simp; omega) | (simp; done))) _) | (with_reducible refine Below.trans ?_ (Below.mono (by with_reducible assumption) (by (first | omega | (show _ < _; omega) | (simp; omega) | (simp; done))))) | (with_reducible refine below_grown ?_ (by with_reducible assumption) (by (first | omega | (show _ < _; omega) | (simp; omega) | (simp; done))) (by (first | omega | (show _ < _; omega) | (simp; omega) | (simp; done))))))⟩
end Go.Proofs.Ytcoibgnckkjpbaa
