/- The law FnWeightsValid: its walk. -/
import Derived.Test.YtmbmpfodfboniaaWts1
import Derived.Test.YtmbmpfodfboniaaDr1
namespace Go.Proofs.Ytmbmpfodfboniaa
open Go.RowKit
set_option maxHeartbeats 4000000

theorem own_form {w : World} {B : Nat} {v : Value} {zs : List Int} (h : OwnI w B v zs) (hn : 0 < zs.length) : ∃ g cap, v = .slice (some ⟨g, 0, none⟩) zs.length cap ∧ B ≤ g ∧ g < w.heap.size ∧ zs.length ≤ cap ∧
    (∀ k, k < zs.length → ∃ u, w.cell? ⟨g, k, none⟩ = some (.int .i64 u)) ∧ (∀ k, w.frozen? ⟨g, k, none⟩ = false) := by
  unfold OwnI at h
  rcases h.2 with ⟨_, h0⟩ | ⟨g, cap, cur, rfl, h2, h3, h4, h5, h6, h7⟩
  · omega
  · have hlt : g < w.heap.size := by
      rcases Nat.lt_or_ge g w.heap.size with hlt | hge
      · exact hlt
      · rw [Array.getElem?_eq_none hge] at h3; cases h3
    refine ⟨g, cap, rfl, h2, hlt, h4, fun k hk => ⟨zs[k], ?_⟩, fun k => h.frozenAt k⟩
    have := h.cellAt k (by omega)
    rw [this]
    simp [hk]
theorem own_set {w : World} {B g cap K : Nat} {zs : List Int} (h : OwnI w B (.slice (some ⟨g, 0, none⟩) zs.length cap) zs) (_hK : K < zs.length) (x : Int) : OwnI (w.setCell ⟨g, K, none⟩ (.int .i64 x)) B (.slice (some ⟨g, 0, none⟩) zs.length cap) (zs.set K x) := by
  unfold OwnI at h ⊢
  have := World.ownsRow.stored h K (.int .i64 x)
  rw [List.length_set, List.map_set]
  exact this.1
theorem own_empty' {w : World} {H B : Nat} (hH : w.heap.size = H) (hB : B ≤ H) : OwnI (w.alloc (.cells #[] 3)) B (.slice (some ⟨H, 0, none⟩) 0 0) [] := by
  subst hH
  exact own_empty w hB
theorem own_row {w : World} {B n c : Nat} {A : Option Addr} {zs : List Int} (h : OwnI w B (.slice A n c) zs) : Row w w.heap.size A (zs.map (Value.int .i64)) := by
  obtain ⟨A', c', e, _, _, hr⟩ := owns_row h
  injection e with e1 e2 e3
  subst e1
  exact hr
theorem own_far {w : World} {B : Nat} {v : Value} {zs : List Int} {p : Addr} (h : OwnI w B v zs) (hp : ∀ k, v.ownBlock = some k → k ≠ p.block) (u : Value) : OwnI (w.setCell p u) B v zs := by
  refine World.ownsRow.kept (row := some p.block) h ⟨rfl, rfl, rfl, by simp, fun i _ hne => Below.heap_setCell w p u i (fun e => hne (by rw [e]))⟩ ?_
  cases hv : v.ownBlock with
  | none => exact .inl rfl
  | some k => exact .inr (fun e => hp k hv (by injection e))

theorem implWeights_is {b : Bool} (A : Option Addr) (n c : Nat) (zs : List Int) (w : World) (B : Nat) (hA : Row w B A (zs.map (Value.int .i64))) (hB : B ≤ w.heap.size) (hl : zs.length = n) (hn : n ≤ 1048576) (hb : wtsB zs = b) :
    Calls Try.prog 12 #[.slice A n c] w fun e w' => e = .returned (.bool b) ∧ w' = w := by
  rw [← hb]; exact implWeights_any A n c zs w (hA.more hB) hl hn
theorem specWeights_is {b : Bool} (A : Option Addr) (n c : Nat) (zs : List Int) (w : World) (B : Nat) (hA : Row w B A (zs.map (Value.int .i64))) (hB : B ≤ w.heap.size) (hl : zs.length = n) (hn : n ≤ 1048576) (hb : wtsB zs = b) :
    Calls Try.prog 10 #[.slice A n c] w fun e w' => e = .returned (.bool b) ∧ w' = w := by
  rw [← hb]; exact specWeights_any A n c zs w (hA.more hB) hl hn

theorem wts_iff {zs : List Int} : wtsB zs = true ↔ (∀ z ∈ zs, 0 ≤ z ∧ z ≤ 9) ∧ 1 ≤ zs.length ∧ zs.length ≤ 6 := by
  unfold wtsB
  rw [Bool.and_eq_true, List.all_eq_true, inB_iff]
  simp only [inB_iff]
  constructor
  · intro h; exact ⟨h.1, by omega, by omega⟩
  · intro h; exact ⟨h.1, by omega, by omega⟩
theorem wts_set {zs : List Int} (h : wtsB zs = true) (K : Nat) {x : Int} (h0 : 0 ≤ x) (h9 : x ≤ 9) : wtsB (zs.set K x) = true := by
  rw [wts_iff] at h ⊢
  refine ⟨fun z hz => ?_, by simpa using h.2⟩
  rcases List.mem_or_eq_of_mem_set hz with h1 | h1
  · exact h.1 z h1
  · subst h1; omega
theorem wts_bad {zs : List Int} {K : Nat} (hK : K < zs.length) {x : Int} (h : x < 0 ∨ 9 < x) : wtsB (zs.set K x) = false := by
  cases hB : wtsB (zs.set K x)
  · rfl
  · rw [wts_iff] at hB
    have := hB.1 x (List.mem_set hK x)
    omega

theorem weightsValid_walk (A : Option Addr) (n c : Nat) (zs0 : List Int) (A2 : Option Addr) (n2 c2 : Nat) (zs2 : List Int) (w : World) (h : Ints .u8 w A n c zs0) (h2 : Ints .u8 w A2 n2 c2 zs2) :
    Calls Try.prog 5 #[.slice A n c, .slice A2 n2 c2] w fun e w' => e = .returned (.bool true) ∧ Below w.heap.size w w' := by
  have hmx := h.max
  have hmx2 := h2.max
  have hcp2 := h2.cap
  unfold maxLen at hmx hmx2
  by_cases hl : 1048576 < n
  · go_enter Try.func5, Try.ntmps5
    go_wp2
    go_ret
    exact ⟨rfl, Below.refl _ _⟩
  by_cases hl2 : 1048576 < n2
  · go_enter Try.func5, Try.ntmps5
    go_wp2
    go_ret
    exact ⟨rfl, Below.refl _ _⟩
  go_enter Try.func5, Try.ntmps5
  go_wp2_with fail
  refine (drawWeights_any A n c zs0 _ h).mono ?_
  rintro e wd ⟨v, zs, rfl, hown, ⟨hlen, hall⟩, hbd⟩
  have hbz := hbd.size
  obtain ⟨B, cc, rfl, hcc, hcm, hrow⟩ := owns_row hown
  have hBn : B = none → zs.length = 0 := by
    rintro rfl
    rcases Nat.eq_zero_or_pos zs.length with h0 | h0
    · exact h0
    · obtain ⟨g, cap, e, _⟩ := own_form hown h0
      cases e
  unfold maxLen at hcm
  have HB := Lib.hid hBn
  clear hown hBn
  obtain ⟨p, hp⟩ : ∃ p, wtsB zs = p := ⟨_, rfl⟩
  have HP := Lib.hid hp
  clear hp
  go_wp2_with fail
  refine (implWeights_is B _ cc zs _ _ hrow (Nat.le_refl _) rfl (by omega) HP.out).mono ?_
  rintro e w' ⟨rfl, rfl⟩
  go_wp2_with fail
  refine (specWeights_is B _ cc zs _ _ hrow (Nat.le_refl _) rfl (by omega) HP.out).mono ?_
  rintro e w'' ⟨rfl, rfl⟩
  cases p
  · go_wp2_with fail
    refine (specWeights_is B _ cc zs _ _ hrow (Nat.le_refl _) rfl (by omega) HP.out).mono ?_
    rintro e w'' ⟨rfl, rfl⟩
    go_wp2
    go_ret
    exact ⟨rfl, hbd⟩
  · obtain ⟨_, hz1, hz6⟩ := wts_iff.1 HP.out
    obtain ⟨K, hK, hKlt⟩ : ∃ K : Nat, (n2 : Int) % (zs.length : Int) = (K : Int) ∧ K < zs.length := ⟨n2 % zs.length, by simp, Nat.mod_lt _ (by omega)⟩
    have hK0 : (K : Int) < zs.length := by omega
    have HK := Lib.hid (Nat.le_refl K)
    go_wp2_with (first
      | (at_builtin; have hq1 := hrow; have hz1 : w''.heap.size ≤ (w'').heap.size := Nat.le_refl _; refine wpl_append_ints rfl (.tmp 40) (.tmp 41) (by rfl) w''.heap.size (.slice (some ⟨w''.heap.size, 0, none⟩) 0 0) [] (by rfl) (own_empty' (w := w'') (by simp) (Nat.le_refl _)) w''.heap.size B _ cc zs (by rfl) (hq1.alloc hz1 _) rfl HB.out (by simp) (by omega) (by simp) ?_; intro v1 w1 hown1 hb1 hgr1 hat1; simp only [List.nil_append] at hown1; obtain ⟨g1, cp1, rfl, hg1, hl1, hcp1, hc1, hf1⟩ := own_form hown1 (by omega); obtain ⟨u1, hu1⟩ := hc1 K hKlt; have hfz1 := hf1 K; clear hc1 hf1 hgr1 hat1; have hs1 := hb1.size)
      | (at_builtin; have hq2 := ((hq1.alloc hz1 (.cells #[] 3)).below hb1).setCell (p := ⟨g1, K, none⟩) hg1 (.int .i64 0); have hz2 : w''.heap.size ≤ w1.heap.size := (by simp at hs1; omega); refine wpl_append_ints rfl (.tmp 46) (.tmp 47) (by rfl) w1.heap.size (.slice (some ⟨w1.heap.size, 0, none⟩) 0 0) [] (by rfl) (own_empty' (w := w1.setCell ⟨g1, K, none⟩ (.int .i64 0)) (by simp) (Nat.le_refl _)) w''.heap.size B _ cc zs (by rfl) (hq2.alloc (by simp; exact hz2) _) rfl HB.out (by simp) (by omega) (by simp) ?_; intro v2 w2 hown2 hb2 hgr2 hat2; simp only [List.nil_append] at hown2; obtain ⟨g2, cp2, rfl, hg2, hl2, hcp2, hc2, hf2⟩ := own_form hown2 (by omega); obtain ⟨u2, hu2⟩ := hc2 K hKlt; have hfz2 := hf2 K; clear hc2 hf2 hgr2 hat2; have hs2 := hb2.size)
      | (at_builtin; have hq3 := ((hq2.alloc (by simp; exact hz2) (.cells #[] 3)).below (hb2.mono hz2)).setCell (p := ⟨g2, K, none⟩) (Nat.le_trans hz2 hg2) (.int .i64 (-1)); have hz3 : w''.heap.size ≤ w2.heap.size := (by simp at hs2; omega); refine wpl_append_ints rfl (.tmp 52) (.tmp 53) (by rfl) w2.heap.size (.slice (some ⟨w2.heap.size, 0, none⟩) 0 0) [] (by rfl) (own_empty' (w := w2.setCell ⟨g2, K, none⟩ (.int .i64 (-1))) (by simp) (Nat.le_refl _)) w''.heap.size B _ cc zs (by rfl) (hq3.alloc (by simp; exact hz3) _) rfl HB.out (by simp) (by omega) (by simp) ?_; intro v3 w3 hown3 hb3 hgr3 hat3; simp only [List.nil_append] at hown3; obtain ⟨g3, cp3, rfl, hg3, hl3, hcp3, hc3, hf3⟩ := own_form hown3 (by omega); obtain ⟨u3, hu3⟩ := hc3 K hKlt; have hfz3 := hf3 K; clear hc3 hf3 hgr3 hat3; have hs3 := hb3.size))
    simp at hs1 hs2 hs3 hz2 hz3
    have r1 := own_row (own_set hown1 hKlt 0)
    have r2 := own_row (own_set hown2 hKlt (-1))
    have r3 := own_row (own_set hown3 hKlt 10)
    simp only [World.size_setCell] at r1 r2 r3
    have r12 := ((r1.alloc (by simp) (.cells #[] 3)).below hb2).setCell (p := ⟨g2, K, none⟩) hg2 (.int .i64 (-1))
    have r13 := ((r12.alloc (by simp; omega) (.cells #[] 3)).below (hb3.mono (by omega))).setCell (p := ⟨g3, K, none⟩) (by show w1.heap.size ≤ g3; omega) (.int .i64 10)
    have r23 := ((r2.alloc (by simp) (.cells #[] 3)).below hb3).setCell (p := ⟨g3, K, none⟩) hg3 (.int .i64 10)
    have hbw : Below w.heap.size w (w3.setCell ⟨g3, K, none⟩ (.int .i64 10)) := by (repeat (first | (with_reducible exact Below.refl _ _) | (with_reducible assumption) | (with_reducible refine below_drewN ?_ _) | (with_reducible refine Below.drew ?_) | (with_reducible refine Below.alloc ?_ (by (first | omega | (show _ < _; omega) | (simp; omega) | (simp; done))) _) | (with_reducible refine Below.setCell ?_ (by (first | omega | (show _ < _; omega) | (simp; omega) | (simp; done))) _) | (with_reducible refine Below.trans ?_ (Below.mono (by with_reducible assumption) (by (first | omega | (show _ < _; omega) | (simp; omega) | (simp; done))))) | (with_reducible refine below_grown ?_ (by with_reducible assumption) (by (first | omega | (show _ < _; omega) | (simp; omega) | (simp; done))) (by (first | omega | (show _ < _; omega) | (simp; omega) | (simp; done))))))
    have x1 := wts_set HP.out K (x := 0) (by omega) (by omega)
    have x2 := wts_bad hKlt (x := -1) (by omega)
    have x3 := wts_bad hKlt (x := 10) (by omega)
    obtain ⟨W, hW⟩ : ∃ W, W = w3.setCell ⟨g3, K, none⟩ (.int .i64 10) := ⟨_, rfl⟩
    have hsW : W.heap.size = w3.heap.size := by rw [hW]; simp
    rw [← hW] at hbw r3 r13 r23
    simp only [← hW]
    have HX1 := Lib.hid x1
    have HX2 := Lib.hid x2
    have HX3 := Lib.hid x3
    have hsW' : w3.heap.size ≤ W.heap.size := by omega
    clear hW hsW x1 x2 x3 r1 r2 r12 hown1 hown2 hown3 hu1 hu2 hu3 hfz1 hfz2 hfz3 hrow hq1 hq2 hq3 hK
    refine (implWeights_is _ _ _ (zs.set K 0) W _ r13 (by omega) (by simp) (by omega) HX1.out).mono ?_
    rintro e wa ⟨rfl, rfl⟩
    go_wp2_with fail
    refine (implWeights_is _ _ _ (zs.set K (-1)) wa _ r23 (by omega) (by simp) (by omega) HX2.out).mono ?_
    rintro e wb ⟨rfl, rfl⟩
    go_wp2_with fail
    refine (implWeights_is _ _ _ (zs.set K 10) wb _ r3 (by omega) (by simp) (by omega) HX3.out).mono ?_
    rintro e wc ⟨rfl, rfl⟩
    go_wp2_with fail
    refine (implWeights_is none 0 0 [] wc 0 Row.empty (Nat.zero_le _) rfl (by omega) rfl).mono ?_
    rintro e wy ⟨rfl, rfl⟩
    go_wp2
    go_ret
    exact ⟨rfl, hbw⟩
end Go.Proofs.Ytmbmpfodfboniaa
