/- Cfg1 IsE IsS EvF Cz2 Cz3 Cz4 Cz5 (merge.py). -/
import Derived.Test.YtafhpbghogdipaaGreatDoorIn4
import Derived.LaidEql
import Derived.Stop.Asserts
import Derived.RowKitTokens
import Derived.LaidMore
import Derived.Stop.LaidErr
import Derived.Stop.LaidTwo
import Derived.Stop.Joined
import Derived.Test.YtafhpbghogdipaaGreatDoorCoX
import Derived.Deep.RegionHeld3
/- Configurations: opened; weighed, copied, compared; the reference's ConfigSafe. -/
namespace Go.Proofs.YtafhpbghogdipaaGreatDoor
open Go.ChangeShapes Go.WideShapes Go.ChangeAt Go.RowKit Go.Deep
set_option maxHeartbeats 4000000
set_option maxRecDepth 100000
set_option linter.unusedVariables false

theorem mat_trod {H : Type} {enc : TypeId × Value → H} {P : Program} {w : World} {base : Nat} {held : Bool} {fuel : Nat} {t e q : TypeId} {cs : List Value} {x : DataW H × List MemPlace}
    (ht : P.underlying t = some (.slice e)) (he : P.underlying e = some (.slice q)) (hq : P.underlying q = some (.int .i64)) (hce : P.cellsOf e = 1) (hcq : P.cellsOf q = 1) (hf : DataW.trod enc P w base (fun _ => true) held fuel t cs = some x) :
    ∃ (A : Option Addr) (n c : Nat) (zss : List (List Int)), cs = [.slice A n c] ∧ Mat w w.heap.size A n zss ∧ n ≤ c ∧ c ≤ maxLen := by
  rcases open_slice ht hf with ⟨hcs, _⟩ | ⟨a, n, c, m, f2, D, Pl, hcs, _, hl, hm, hmm, _, hi⟩
  · exact ⟨_, _, _, [], hcs, ⟨rfl, fun _ => rfl, fun k hk => absurd hk (by omega), fun k hk => absurd hk (by omega)⟩, Nat.le_refl _, Nat.zero_le _⟩
  · have hz : ∀ i, i < n → ∃ zs : List Int, ∃ (C : Option Addr) (c1 : Nat), w.cell? (a.add i) = some (.slice C zs.length c1) ∧ Ints .i64 w C zs.length c1 zs := by
      intro i hin
      obtain ⟨cs', hc', ht'⟩ := hi i (by rw [hmm]; split <;> omega)
      obtain ⟨C, n1, c1, zs, rfl, hI⟩ := ints_trod he hq hcq ht'
      obtain ⟨_, _, hat⟩ := World.cells?_some hc'
      have h0 := hat 0 (by rw [hce]; omega)
      rw [hce, Nat.mul_one] at h0
      have e0 : (a.add i).add 0 = a.add i := by simp [Addr.add]
      rw [e0] at h0
      have hl := hI.len
      subst hl
      exact ⟨zs, C, c1, by simpa using h0, hI⟩
    obtain ⟨zss, hzl, hP⟩ := list_of n hz
    have hat : ∀ k, k < n → zss[k]? = some (zss.getD k []) := by
      intro k hk
      rw [List.getD_eq_getElem?_getD, List.getElem?_eq_getElem (by omega)]
      rfl
    refine ⟨_, _, _, zss, hcs, ⟨hzl, ?_, ?_, ?_⟩, hl, hm⟩
    · intro e; cases e
    · intro k hk
      obtain ⟨C, c1, hc1, hI⟩ := hP k _ (hat k hk)
      obtain ⟨b, off, spot⟩ := a
      have hspot : spot = none := by
        obtain ⟨C0, c0, hc0, _⟩ := hP 0 _ (hat 0 (by omega))
        simpa [Addr.add] using World.cell?_spot hc0
      subst hspot
      have hb := World.block_lt_of_cell? _ _ hc1
      rw [addr_add'] at hb hc1
      refine ⟨b, off, C, c1, rfl, hb, hc1, hI.cap, hI.max, hI.row, ?_⟩
      rintro rfl
      rcases Nat.eq_zero_or_pos (zss.getD k []).length with h0 | h0
      · exact List.eq_nil_of_length_eq_zero h0
      · obtain ⟨b2, o2, e2, _⟩ := hI.row (by intro e; rw [List.map_eq_nil_iff] at e; rw [e] at h0; simp at h0)
        cases e2
    · intro k hk
      obtain ⟨C, c1, _, hI⟩ := hP k _ (hat k hk)
      exact hI.fit
theorem config_of {H : Type} {enc : TypeId × Value → H} {P : Program} {w : World} {base b0 : Nat} {r : Reach} {held : Bool} {t m e q : TypeId} {f0 f1 : Field} {v : Value} {d : DataW H} {ps : List MemPlace}
    (hs : P.underlying t = some (.struct #[f0, f1])) (hone : oneCellFields P #[f0, f1] = true) (hC : P.cellsOf t = 2) (h0 : f0.type = m) (h1 : f1.type = m) (hm : P.underlying m = some (.slice e)) (he : P.underlying e = some (.slice q)) (hq : P.underlying q = some (.int .i64)) (hce : P.cellsOf e = 1) (hcq : P.cellsOf q = 1)
    (hv : Value.okWide P w r b0 t v) (h : DataW.Trod enc P w base (fun _ => true) held t v d ps) :
    ∃ (A : Option Addr) (n c : Nat) (zss : List (List Int)) (B : Option Addr) (k l : Nat) (yss : List (List Int)), v = .agg #[.slice A n c, .slice B k l] ∧ (Mat w w.heap.size A n zss ∧ n ≤ c ∧ c ≤ maxLen) ∧ (Mat w w.heap.size B k yss ∧ k ≤ l ∧ l ≤ maxLen) := by
  obtain ⟨v0, v1, y0, y1, n, rfl, _, _, hy0, hy1⟩ := Go.Joins.open_agg2 hs hone hC hv h
  rw [h0] at hy0
  rw [h1] at hy1
  obtain ⟨A, n, c, zss, e0, g0⟩ := mat_trod hm he hq hce hcq hy0
  obtain ⟨B, k, l, yss, e1, g1⟩ := mat_trod hm he hq hce hcq hy1
  simp at e0 e1
  subst e0 e1
  exact ⟨A, n, c, zss, B, k, l, yss, rfl, g0, g1⟩

theorem ArgM.to {w w' : World} {A : Option Addr} {n c : Nat} {zss : List (List Int)} (h : ArgM w A n c zss) (hb : Below w.heap.size w w') : ArgM w' A n c zss := ⟨(h.1.below hb).more hb.size, h.2⟩
theorem CpM.set {w : World} {g n : Nat} {zss : List (List Int)} (h : CpM w g n zss) {R o : Nat} (hR : R < g) (v : Value) : CpM (w.setCell ⟨R, o, none⟩ v) g n zss := by
  obtain ⟨⟨xs, h1, h2, h3, h4⟩, hl, hf, hk⟩ := h
  have keep : ∀ b, g ≤ b → (w.setCell ⟨R, o, none⟩ v).heap[b]? = w.heap[b]? := fun b hb => Below.heap_setCell w _ _ b (by show b ≠ R; omega)
  refine ⟨⟨xs, (keep g (Nat.le_refl _)).trans h1, h2, fun j hj => ?_, h4⟩, hl, hf, hk⟩
  obtain ⟨b, e1, e2, e3⟩ := h3 j hj
  exact ⟨b, e1, e2, (keep b (by omega)).trans e3⟩
section
variable (A : Option Addr) (n c : Nat) (zss : List (List Int)) (A2 : Option Addr) (n2 c2 : Nat) (yss : List (List Int))
/-- A configuration of the call's own making. -/
def OwnCf (w : World) (v : Value) : Prop := ∃ g0 g1, v = .agg #[.slice (some ⟨g0, 0, none⟩) n n, .slice (some ⟨g1, 0, none⟩) n2 n2] ∧ CpM w g0 n zss ∧ CpM w g1 n2 yss
theorem specValid13_any (w : World) (hM : Mat w w.heap.size A n zss) (hN : Mat w w.heap.size A2 n2 yss) (hz : SzOk zss n) (hz2 : SzOk yss n2) :
    Calls Tryz.prog 12 #[.agg #[.slice A n c, .slice A2 n2 c2]] w fun e w' => e = .returned (.bool (famB zss && famB yss && decide (0 < n) && decide (0 < n2))) ∧ Below w.heap.size w w' := by
  have H1 := fun (W : World) (hb : Below w.heap.size w W) => specFamily_any A n c zss W ((hM.below hb).more hb.size) hz
  have H2 := fun (W : World) (hb : Below w.heap.size w W) => specFamily_any A2 n2 c2 yss W ((hN.below hb).more hb.size) hz2
  clear hM hN
  obtain ⟨p, hp⟩ : ∃ p, famB zss = p := ⟨_, rfl⟩
  obtain ⟨q, hq⟩ : ∃ q, famB yss = q := ⟨_, rfl⟩
  rw [hp] at H1
  rw [hq] at H2
  rw [hp, hq]
  have K1 := Lib.hid H1
  have K2 := Lib.hid H2
  clear H1 H2 hp hq hz hz2
  cases p
  · go_enter Tryz.func12, Tryz.ntmps12
    go_wp2_with fail
    refine (K1.out _ (by (repeat (first | (with_reducible exact Below.refl _ _) | (with_reducible assumption) | (with_reducible refine below_drewN ?_ _) | (with_reducible refine Below.drew ?_) | (with_reducible refine Below.alloc ?_ (by (first | omega | (show _ < _; omega) | (simp; omega) | (simp; done))) _) | (with_reducible refine Below.setCell ?_ (by (first | omega | (show _ < _; omega) | (simp; omega) | (simp; done))) _) | (with_reducible refine Below.trans ?_ (Below.mono (by with_reducible assumption) (by (first | omega | (show _ < _; omega) | (simp; omega) | (simp; done))))) | (with_reducible refine below_grown ?_ (by with_reducible assumption) (by (first | omega | (show _ < _; omega) | (simp; omega) | (simp; done))) (by (first | omega | (show _ < _; omega) | (simp; omega) | (simp; done)))))))).mono ?_
    rintro e wq ⟨rfl, m, rfl⟩
    go_wp2
    go_ret
    exact ⟨rfl, by (repeat (first | (with_reducible exact Below.refl _ _) | (with_reducible assumption) | (with_reducible refine below_drewN ?_ _) | (with_reducible refine Below.drew ?_) | (with_reducible refine Below.alloc ?_ (by (first | omega | (show _ < _; omega) | (simp; omega) | (simp; done))) _) | (with_reducible refine Below.setCell ?_ (by (first | omega | (show _ < _; omega) | (simp; omega) | (simp; done))) _) | (with_reducible refine Below.trans ?_ (Below.mono (by with_reducible assumption) (by (first | omega | (show _ < _; omega) | (simp; omega) | (simp; done))))) | (with_reducible refine below_grown ?_ (by with_reducible assumption) (by (first | omega | (show _ < _; omega) | (simp; omega) | (simp; done))) (by (first | omega | (show _ < _; omega) | (simp; omega) | (simp; done))))))⟩
  cases q
  · go_enter Tryz.func12, Tryz.ntmps12
    go_wp2_with fail
    refine (K1.out _ (by (repeat (first | (with_reducible exact Below.refl _ _) | (with_reducible assumption) | (with_reducible refine below_drewN ?_ _) | (with_reducible refine Below.drew ?_) | (with_reducible refine Below.alloc ?_ (by (first | omega | (show _ < _; omega) | (simp; omega) | (simp; done))) _) | (with_reducible refine Below.setCell ?_ (by (first | omega | (show _ < _; omega) | (simp; omega) | (simp; done))) _) | (with_reducible refine Below.trans ?_ (Below.mono (by with_reducible assumption) (by (first | omega | (show _ < _; omega) | (simp; omega) | (simp; done))))) | (with_reducible refine below_grown ?_ (by with_reducible assumption) (by (first | omega | (show _ < _; omega) | (simp; omega) | (simp; done))) (by (first | omega | (show _ < _; omega) | (simp; omega) | (simp; done)))))))).mono ?_
    rintro e wq ⟨rfl, m, rfl⟩
    go_wp2_with fail
    refine (K2.out _ (by (repeat (first | (with_reducible exact Below.refl _ _) | (with_reducible assumption) | (with_reducible refine below_drewN ?_ _) | (with_reducible refine Below.drew ?_) | (with_reducible refine Below.alloc ?_ (by (first | omega | (show _ < _; omega) | (simp; omega) | (simp; done))) _) | (with_reducible refine Below.setCell ?_ (by (first | omega | (show _ < _; omega) | (simp; omega) | (simp; done))) _) | (with_reducible refine Below.trans ?_ (Below.mono (by with_reducible assumption) (by (first | omega | (show _ < _; omega) | (simp; omega) | (simp; done))))) | (with_reducible refine below_grown ?_ (by with_reducible assumption) (by (first | omega | (show _ < _; omega) | (simp; omega) | (simp; done))) (by (first | omega | (show _ < _; omega) | (simp; omega) | (simp; done)))))))).mono ?_
    rintro e wq ⟨rfl, m2, rfl⟩
    go_wp2
    go_ret
    exact ⟨rfl, by (repeat (first | (with_reducible exact Below.refl _ _) | (with_reducible assumption) | (with_reducible refine below_drewN ?_ _) | (with_reducible refine Below.drew ?_) | (with_reducible refine Below.alloc ?_ (by (first | omega | (show _ < _; omega) | (simp; omega) | (simp; done))) _) | (with_reducible refine Below.setCell ?_ (by (first | omega | (show _ < _; omega) | (simp; omega) | (simp; done))) _) | (with_reducible refine Below.trans ?_ (Below.mono (by with_reducible assumption) (by (first | omega | (show _ < _; omega) | (simp; omega) | (simp; done))))) | (with_reducible refine below_grown ?_ (by with_reducible assumption) (by (first | omega | (show _ < _; omega) | (simp; omega) | (simp; done))) (by (first | omega | (show _ < _; omega) | (simp; omega) | (simp; done))))))⟩
  have fin : ∀ (hn : 0 < n ∨ ¬ 0 < n) (hn2 : 0 < n2 ∨ ¬ 0 < n2), Calls Tryz.prog 12 #[.agg #[.slice A n c, .slice A2 n2 c2]] w fun e w' => e = .returned (.bool (true && true && decide (0 < n) && decide (0 < n2))) ∧ Below w.heap.size w w' := by
    intro hn hn2
    rcases hn with hn | hn
    · rcases hn2 with hn2 | hn2
      · have e1 : (0 : Int) < (n : Int) := by omega
        have e2 : (0 : Int) < (n2 : Int) := by omega
        have d1 : decide (0 < n) = true := by simp; omega
        have d2 : decide (0 < n2) = true := by simp; omega
        rw [d1, d2]
        go_enter Tryz.func12, Tryz.ntmps12
        go_wp2_with fail
        refine (K1.out _ (by (repeat (first | (with_reducible exact Below.refl _ _) | (with_reducible assumption) | (with_reducible refine below_drewN ?_ _) | (with_reducible refine Below.drew ?_) | (with_reducible refine Below.alloc ?_ (by (first | omega | (show _ < _; omega) | (simp; omega) | (simp; done))) _) | (with_reducible refine Below.setCell ?_ (by (first | omega | (show _ < _; omega) | (simp; omega) | (simp; done))) _) | (with_reducible refine Below.trans ?_ (Below.mono (by with_reducible assumption) (by (first | omega | (show _ < _; omega) | (simp; omega) | (simp; done))))) | (with_reducible refine below_grown ?_ (by with_reducible assumption) (by (first | omega | (show _ < _; omega) | (simp; omega) | (simp; done))) (by (first | omega | (show _ < _; omega) | (simp; omega) | (simp; done)))))))).mono ?_
        rintro e wq ⟨rfl, m, rfl⟩
        go_wp2_with fail
        refine (K2.out _ (by (repeat (first | (with_reducible exact Below.refl _ _) | (with_reducible assumption) | (with_reducible refine below_drewN ?_ _) | (with_reducible refine Below.drew ?_) | (with_reducible refine Below.alloc ?_ (by (first | omega | (show _ < _; omega) | (simp; omega) | (simp; done))) _) | (with_reducible refine Below.setCell ?_ (by (first | omega | (show _ < _; omega) | (simp; omega) | (simp; done))) _) | (with_reducible refine Below.trans ?_ (Below.mono (by with_reducible assumption) (by (first | omega | (show _ < _; omega) | (simp; omega) | (simp; done))))) | (with_reducible refine below_grown ?_ (by with_reducible assumption) (by (first | omega | (show _ < _; omega) | (simp; omega) | (simp; done))) (by (first | omega | (show _ < _; omega) | (simp; omega) | (simp; done)))))))).mono ?_
        rintro e wq ⟨rfl, m2, rfl⟩
        go_wp2
        go_ret
        exact ⟨rfl, by (repeat (first | (with_reducible exact Below.refl _ _) | (with_reducible assumption) | (with_reducible refine below_drewN ?_ _) | (with_reducible refine Below.drew ?_) | (with_reducible refine Below.alloc ?_ (by (first | omega | (show _ < _; omega) | (simp; omega) | (simp; done))) _) | (with_reducible refine Below.setCell ?_ (by (first | omega | (show _ < _; omega) | (simp; omega) | (simp; done))) _) | (with_reducible refine Below.trans ?_ (Below.mono (by with_reducible assumption) (by (first | omega | (show _ < _; omega) | (simp; omega) | (simp; done))))) | (with_reducible refine below_grown ?_ (by with_reducible assumption) (by (first | omega | (show _ < _; omega) | (simp; omega) | (simp; done))) (by (first | omega | (show _ < _; omega) | (simp; omega) | (simp; done))))))⟩
      · have e1 : (0 : Int) < (n : Int) := by omega
        have e2 : ¬ (0 : Int) < (n2 : Int) := by omega
        have d1 : decide (0 < n) = true := by simp; omega
        have d2 : decide (0 < n2) = false := by simp; omega
        rw [d1, d2]
        go_enter Tryz.func12, Tryz.ntmps12
        go_wp2_with fail
        refine (K1.out _ (by (repeat (first | (with_reducible exact Below.refl _ _) | (with_reducible assumption) | (with_reducible refine below_drewN ?_ _) | (with_reducible refine Below.drew ?_) | (with_reducible refine Below.alloc ?_ (by (first | omega | (show _ < _; omega) | (simp; omega) | (simp; done))) _) | (with_reducible refine Below.setCell ?_ (by (first | omega | (show _ < _; omega) | (simp; omega) | (simp; done))) _) | (with_reducible refine Below.trans ?_ (Below.mono (by with_reducible assumption) (by (first | omega | (show _ < _; omega) | (simp; omega) | (simp; done))))) | (with_reducible refine below_grown ?_ (by with_reducible assumption) (by (first | omega | (show _ < _; omega) | (simp; omega) | (simp; done))) (by (first | omega | (show _ < _; omega) | (simp; omega) | (simp; done)))))))).mono ?_
        rintro e wq ⟨rfl, m, rfl⟩
        go_wp2_with fail
        refine (K2.out _ (by (repeat (first | (with_reducible exact Below.refl _ _) | (with_reducible assumption) | (with_reducible refine below_drewN ?_ _) | (with_reducible refine Below.drew ?_) | (with_reducible refine Below.alloc ?_ (by (first | omega | (show _ < _; omega) | (simp; omega) | (simp; done))) _) | (with_reducible refine Below.setCell ?_ (by (first | omega | (show _ < _; omega) | (simp; omega) | (simp; done))) _) | (with_reducible refine Below.trans ?_ (Below.mono (by with_reducible assumption) (by (first | omega | (show _ < _; omega) | (simp; omega) | (simp; done))))) | (with_reducible refine below_grown ?_ (by with_reducible assumption) (by (first | omega | (show _ < _; omega) | (simp; omega) | (simp; done))) (by (first | omega | (show _ < _; omega) | (simp; omega) | (simp; done)))))))).mono ?_
        rintro e wq ⟨rfl, m2, rfl⟩
        go_wp2
        go_ret
        exact ⟨rfl, by (repeat (first | (with_reducible exact Below.refl _ _) | (with_reducible assumption) | (with_reducible refine below_drewN ?_ _) | (with_reducible refine Below.drew ?_) | (with_reducible refine Below.alloc ?_ (by (first | omega | (show _ < _; omega) | (simp; omega) | (simp; done))) _) | (with_reducible refine Below.setCell ?_ (by (first | omega | (show _ < _; omega) | (simp; omega) | (simp; done))) _) | (with_reducible refine Below.trans ?_ (Below.mono (by with_reducible assumption) (by (first | omega | (show _ < _; omega) | (simp; omega) | (simp; done))))) | (with_reducible refine below_grown ?_ (by with_reducible assumption) (by (first | omega | (show _ < _; omega) | (simp; omega) | (simp; done))) (by (first | omega | (show _ < _; omega) | (simp; omega) | (simp; done))))))⟩
    · have e1 : ¬ (0 : Int) < (n : Int) := by omega
      have d1 : decide (0 < n) = false := by simp; omega
      rw [d1]
      go_enter Tryz.func12, Tryz.ntmps12
      go_wp2_with fail
      refine (K1.out _ (by (repeat (first | (with_reducible exact Below.refl _ _) | (with_reducible assumption) | (with_reducible refine below_drewN ?_ _) | (with_reducible refine Below.drew ?_) | (with_reducible refine Below.alloc ?_ (by (first | omega | (show _ < _; omega) | (simp; omega) | (simp; done))) _) | (with_reducible refine Below.setCell ?_ (by (first | omega | (show _ < _; omega) | (simp; omega) | (simp; done))) _) | (with_reducible refine Below.trans ?_ (Below.mono (by with_reducible assumption) (by (first | omega | (show _ < _; omega) | (simp; omega) | (simp; done))))) | (with_reducible refine below_grown ?_ (by with_reducible assumption) (by (first | omega | (show _ < _; omega) | (simp; omega) | (simp; done))) (by (first | omega | (show _ < _; omega) | (simp; omega) | (simp; done)))))))).mono ?_
      rintro e wq ⟨rfl, m, rfl⟩
      go_wp2_with fail
      refine (K2.out _ (by (repeat (first | (with_reducible exact Below.refl _ _) | (with_reducible assumption) | (with_reducible refine below_drewN ?_ _) | (with_reducible refine Below.drew ?_) | (with_reducible refine Below.alloc ?_ (by (first | omega | (show _ < _; omega) | (simp; omega) | (simp; done))) _) | (with_reducible refine Below.setCell ?_ (by (first | omega | (show _ < _; omega) | (simp; omega) | (simp; done))) _) | (with_reducible refine Below.trans ?_ (Below.mono (by with_reducible assumption) (by (first | omega | (show _ < _; omega) | (simp; omega) | (simp; done))))) | (with_reducible refine below_grown ?_ (by with_reducible assumption) (by (first | omega | (show _ < _; omega) | (simp; omega) | (simp; done))) (by (first | omega | (show _ < _; omega) | (simp; omega) | (simp; done)))))))).mono ?_
      rintro e wq ⟨rfl, m2, rfl⟩
      go_wp2
      go_ret
      exact ⟨rfl, by (repeat (first | (with_reducible exact Below.refl _ _) | (with_reducible assumption) | (with_reducible refine below_drewN ?_ _) | (with_reducible refine Below.drew ?_) | (with_reducible refine Below.alloc ?_ (by (first | omega | (show _ < _; omega) | (simp; omega) | (simp; done))) _) | (with_reducible refine Below.setCell ?_ (by (first | omega | (show _ < _; omega) | (simp; omega) | (simp; done))) _) | (with_reducible refine Below.trans ?_ (Below.mono (by with_reducible assumption) (by (first | omega | (show _ < _; omega) | (simp; omega) | (simp; done))))) | (with_reducible refine below_grown ?_ (by with_reducible assumption) (by (first | omega | (show _ < _; omega) | (simp; omega) | (simp; done))) (by (first | omega | (show _ < _; omega) | (simp; omega) | (simp; done))))))⟩
  exact fin (Decidable.em _) (Decidable.em _)
/-- What ConfigSafe answers. -/
def safeB (fss gss : List (List Int)) (nf ng : Nat) : Bool := famB fss && famB gss && decide (0 < nf) && decide (0 < ng) && metTo fss gss ng nf
theorem specSafe_any (w : World) (hM : Mat w w.heap.size A n zss) (hN : Mat w w.heap.size A2 n2 yss) (hz : SzOk zss n) (hz2 : SzOk yss n2) :
    Calls Tryz.prog 6 #[.agg #[.slice A n c, .slice A2 n2 c2]] w fun e w' => e = .returned (.bool (safeB zss yss n n2)) ∧ Below w.heap.size w w' := by
  have H1 := fun (W : World) (hb : Below w.heap.size w W) => specValid13_any A n c zss A2 n2 c2 yss W ((hM.below hb).more hb.size) ((hN.below hb).more hb.size) hz hz2
  have H2 := fun (W : World) (hb : Below w.heap.size w W) => l11_any A n c zss A2 n2 c2 yss W ((hM.below hb).more hb.size) hz ((hN.below hb).more hb.size) hz2
  clear hM hN
  unfold safeB
  obtain ⟨p, hp⟩ : ∃ p, (famB zss && famB yss && decide (0 < n) && decide (0 < n2)) = p := ⟨_, rfl⟩
  obtain ⟨q, hq⟩ : ∃ q, metTo zss yss n2 n = q := ⟨_, rfl⟩
  rw [hp] at H1
  rw [hq] at H2
  rw [hp, hq]
  have K1 := Lib.hid H1
  have K2 := Lib.hid H2
  clear H1 H2 hp hq hz hz2
  cases p
  · go_enter Tryz.func6, Tryz.ntmps6
    go_wp2_with fail
    refine (K1.out _ (by (repeat (first | (with_reducible exact Below.refl _ _) | (with_reducible assumption) | (with_reducible refine below_drewN ?_ _) | (with_reducible refine Below.drew ?_) | (with_reducible refine Below.alloc ?_ (by (first | omega | (show _ < _; omega) | (simp; omega) | (simp; done))) _) | (with_reducible refine Below.setCell ?_ (by (first | omega | (show _ < _; omega) | (simp; omega) | (simp; done))) _) | (with_reducible refine Below.trans ?_ (Below.mono (by with_reducible assumption) (by (first | omega | (show _ < _; omega) | (simp; omega) | (simp; done))))) | (with_reducible refine below_grown ?_ (by with_reducible assumption) (by (first | omega | (show _ < _; omega) | (simp; omega) | (simp; done))) (by (first | omega | (show _ < _; omega) | (simp; omega) | (simp; done)))))))).mono ?_
    (rintro e w1 ⟨rfl, hb_w1⟩; have hsz_w1 := hb_w1.size; (try simp at hsz_w1); obtain ⟨hc_w1, hf_w1⟩ := bcell hb_w1; obtain ⟨_, _, _, _, _, _, _⟩ := ups (a := w.heap.size) (b := w1.heap.size) (by omega); have hk_w1 := fun o => hc_w1 (w.heap.size) o (by first | omega | (simp; done) | (simp; omega)))
    go_wp2
    go_ret
    exact ⟨rfl, by (repeat (first | (with_reducible exact Below.refl _ _) | (with_reducible assumption) | (with_reducible refine below_drewN ?_ _) | (with_reducible refine Below.drew ?_) | (with_reducible refine Below.alloc ?_ (by (first | omega | (show _ < _; omega) | (simp; omega) | (simp; done))) _) | (with_reducible refine Below.setCell ?_ (by (first | omega | (show _ < _; omega) | (simp; omega) | (simp; done))) _) | (with_reducible refine Below.trans ?_ (Below.mono (by with_reducible assumption) (by (first | omega | (show _ < _; omega) | (simp; omega) | (simp; done))))) | (with_reducible refine below_grown ?_ (by with_reducible assumption) (by (first | omega | (show _ < _; omega) | (simp; omega) | (simp; done))) (by (first | omega | (show _ < _; omega) | (simp; omega) | (simp; done))))))⟩
  · go_enter Tryz.func6, Tryz.ntmps6
    go_wp2_with fail
    refine (K1.out _ (by (repeat (first | (with_reducible exact Below.refl _ _) | (with_reducible assumption) | (with_reducible refine below_drewN ?_ _) | (with_reducible refine Below.drew ?_) | (with_reducible refine Below.alloc ?_ (by (first | omega | (show _ < _; omega) | (simp; omega) | (simp; done))) _) | (with_reducible refine Below.setCell ?_ (by (first | omega | (show _ < _; omega) | (simp; omega) | (simp; done))) _) | (with_reducible refine Below.trans ?_ (Below.mono (by with_reducible assumption) (by (first | omega | (show _ < _; omega) | (simp; omega) | (simp; done))))) | (with_reducible refine below_grown ?_ (by with_reducible assumption) (by (first | omega | (show _ < _; omega) | (simp; omega) | (simp; done))) (by (first | omega | (show _ < _; omega) | (simp; omega) | (simp; done)))))))).mono ?_
    (rintro e w1 ⟨rfl, hb_w1⟩; have hsz_w1 := hb_w1.size; (try simp at hsz_w1); obtain ⟨hc_w1, hf_w1⟩ := bcell hb_w1; obtain ⟨_, _, _, _, _, _, _⟩ := ups (a := w.heap.size) (b := w1.heap.size) (by omega); have hk_w1 := fun o => hc_w1 (w.heap.size) o (by first | omega | (simp; done) | (simp; omega)))
    go_wp2_with fail
    refine (K2.out _ (by (repeat (first | (with_reducible exact Below.refl _ _) | (with_reducible assumption) | (with_reducible refine below_drewN ?_ _) | (with_reducible refine Below.drew ?_) | (with_reducible refine Below.alloc ?_ (by (first | omega | (show _ < _; omega) | (simp; omega) | (simp; done))) _) | (with_reducible refine Below.setCell ?_ (by (first | omega | (show _ < _; omega) | (simp; omega) | (simp; done))) _) | (with_reducible refine Below.trans ?_ (Below.mono (by with_reducible assumption) (by (first | omega | (show _ < _; omega) | (simp; omega) | (simp; done))))) | (with_reducible refine below_grown ?_ (by with_reducible assumption) (by (first | omega | (show _ < _; omega) | (simp; omega) | (simp; done))) (by (first | omega | (show _ < _; omega) | (simp; omega) | (simp; done)))))))).mono ?_
    rintro e w2 ⟨rfl, hb_w2⟩
    go_wp2
    go_ret
    exact ⟨rfl, by (repeat (first | (with_reducible exact Below.refl _ _) | (with_reducible assumption) | (with_reducible refine below_drewN ?_ _) | (with_reducible refine Below.drew ?_) | (with_reducible refine Below.alloc ?_ (by (first | omega | (show _ < _; omega) | (simp; omega) | (simp; done))) _) | (with_reducible refine Below.setCell ?_ (by (first | omega | (show _ < _; omega) | (simp; omega) | (simp; done))) _) | (with_reducible refine Below.trans ?_ (Below.mono (by with_reducible assumption) (by (first | omega | (show _ < _; omega) | (simp; omega) | (simp; done))))) | (with_reducible refine below_grown ?_ (by with_reducible assumption) (by (first | omega | (show _ < _; omega) | (simp; omega) | (simp; done))) (by (first | omega | (show _ < _; omega) | (simp; omega) | (simp; done))))))⟩
end
end Go.Proofs.YtafhpbghogdipaaGreatDoor

/- errors.Is by its contracts; impl.safe. -/
namespace Go.Proofs.YtafhpbghogdipaaGreatDoor
open Go.RowKit Go.Extern.Stop Go.Stop Go.Extern
set_option maxHeartbeats 4000000
set_option maxRecDepth 100000
set_option linter.unusedVariables false

theorem isTypeOf (v : Value) (w : World) : (Extern.ReflectliteType.typeOf #[.iface 143 v]).run Tryz.prog w = .ok (.iface 122 (.agg #[.pointer (some ⟨2, 143, none⟩)])) w := by kernel_rfl
theorem isComparable (w : World) : ((Extern.ReflectliteType.method fun t => do Extern.Rtype.noPackHeld "Comparable" t; Functor.map (fun a => Value.bool a.comparable) (typeInfo t)) #[.agg #[.pointer (some ⟨2, 143, none⟩)]]).run Tryz.prog w = .ok (.bool true) w := by kernel_rfl
theorem isMethodComparable (v : Value) (w : World) : (Go.method 280 122 v "Comparable").run Tryz.prog w = .ok (109, v) w := by kernel_rfl
theorem isComp : (Tryz.prog.info? 143).map (·.comparable) = some true := by kernel_rfl
theorem isSize : (Tryz.prog.info? 169).map (·.size) = some 1 := by kernel_rfl
theorem noIsE (v : Value) (xT : TypeId) (w : World) : (Instr.typeAssert (.iface 143 v) xT 124 true).run Tryz.prog w = .ok (.tuple #[.nilIface, .bool false]) w := run_typeAssert_lacksB Tryz.underlying124 (by kernel_rfl) (by kernel_rfl) v xT w
theorem noUnwrapE (v : Value) (xT : TypeId) (w : World) : (Instr.typeAssert (.iface 143 v) xT 126 true).run Tryz.prog w = .ok (.tuple #[.nilIface, .bool false]) w := run_typeAssert_lacksB Tryz.underlying126 (by kernel_rfl) (by kernel_rfl) v xT w
theorem noUnwrapsE (v : Value) (xT : TypeId) (w : World) : (Instr.typeAssert (.iface 143 v) xT 128 true).run Tryz.prog w = .ok (.tuple #[.nilIface, .bool false]) w := run_typeAssert_lacksB Tryz.underlying128 (by kernel_rfl) (by kernel_rfl) v xT w

/-- errors.Is(x, x), x a pointer to an errors.errorString. -/
theorem is_same (a : Addr) (w : World) :
    Calls Tryz.prog 23 #[.iface 143 (.pointer (some a)), .iface 143 (.pointer (some a))] w fun e w' => e = .returned (.bool true) ∧ w' = w := by
  obtain ⟨i, hi, hcmp⟩ := Option.map_eq_some_iff.1 isComp
  obtain ⟨j, hj, hjs⟩ := Option.map_eq_some_iff.1 isSize
  have h8 := @run_callFunc_extern Tryz.prog 39 _ Extern.ReflectliteType.typeOf Tryz.func39 (by kernel_rfl) (by kernel_rfl) (by kernel_rfl) (by kernel_rfl)
  have h32 := @run_callFunc_extern Tryz.prog 109 _ (Extern.ReflectliteType.method fun t => do Extern.Rtype.noPackHeld "Comparable" t; pure (.bool (← typeInfo t).comparable)) Tryz.func109 (by kernel_rfl) (by kernel_rfl) (by kernel_rfl) (by kernel_rfl)
  have tT := isTypeOf
  have cT := isComparable
  have mR := isMethodComparable
  have heq := run_eql_iface_ptr_same (P := Tryz.prog) w a Tryz.underlying38 Tryz.underlying143 hi hcmp hj
  go_enter Tryz.func23, Tryz.ntmps23
  go_wp2
  refine wp_loop_rounds 1 ?_
  rw [rounds_succ]
  go_wp2
  go_ret
  exact ⟨rfl, rfl⟩

/-- errors.Is(nil, x). -/
theorem is_nil (b : Addr) (w : World) :
    Calls Tryz.prog 23 #[.nilIface, .iface 143 (.pointer (some b))] w fun e w' => e = .returned (.bool false) ∧ w' = w := by
  have hn := run_eql_iface_nil_left (P := Tryz.prog) w 143 (.pointer (some b)) Tryz.underlying38
  go_enter Tryz.func23, Tryz.ntmps23
  go_wp2
  go_ret
  exact ⟨rfl, rfl⟩

/-- errors.Is(x, y), two different pointers to errors.errorString: neither has Is nor Unwrap: false. -/
theorem is_other (a b : Addr) (ca cb : Array Value) (ta tb : TypeId) (w : World) (hne : a ≠ b) (ha : w.heap[a.block]? = some (Obj.cells ca ta (0, 0))) (hb : w.heap[b.block]? = some (Obj.cells cb tb (0, 0))) :
    Calls Tryz.prog 23 #[.iface 143 (.pointer (some a)), .iface 143 (.pointer (some b))] w fun e w' => e = .returned (.bool false) ∧ w' = w := by
  obtain ⟨i, hi, hcmp⟩ := Option.map_eq_some_iff.1 isComp
  obtain ⟨j, hj, hjs⟩ := Option.map_eq_some_iff.1 isSize
  have h8 := @run_callFunc_extern Tryz.prog 39 _ Extern.ReflectliteType.typeOf Tryz.func39 (by kernel_rfl) (by kernel_rfl) (by kernel_rfl) (by kernel_rfl)
  have h32 := @run_callFunc_extern Tryz.prog 109 _ (Extern.ReflectliteType.method fun t => do Extern.Rtype.noPackHeld "Comparable" t; pure (.bool (← typeInfo t).comparable)) Tryz.func109 (by kernel_rfl) (by kernel_rfl) (by kernel_rfl) (by kernel_rfl)
  have tT := isTypeOf
  have cT := isComparable
  have mR := isMethodComparable
  have nE := noIsE
  have uE := noUnwrapE
  have vE := noUnwrapsE
  have heq := run_eql_iface_ptr_other (P := Tryz.prog) w Tryz.underlying38 Tryz.underlying143 hi hcmp hj (by rw [hjs]; decide) hne ha hb
  go_enter Tryz.func23, Tryz.ntmps23
  go_wp2
  refine wp_loop_rounds 1 ?_
  rw [rounds_succ]
  go_wp2
  go_ret
  exact ⟨rfl, rfl⟩

end Go.Proofs.YtafhpbghogdipaaGreatDoor

/- impl.safe of nil and of the two sentinels. -/
namespace Go.Proofs.YtafhpbghogdipaaGreatDoor
open Go.RowKit
set_option maxHeartbeats 4000000
set_option maxRecDepth 100000
set_option linter.unusedVariables false

/-- The two sentinels. -/
structure EV (w : World) (a0 a1 : Addr) : Prop where
  c0 : w.cell? ⟨0, 0, none⟩ = some (.iface 143 (.pointer (some a0)))
  c1 : w.cell? ⟨1, 0, none⟩ = some (.iface 143 (.pointer (some a1)))
  ne : a0 ≠ a1
  h0 : ∃ ca ta, w.heap[a0.block]? = some (Obj.cells ca ta (0, 0))
  h1 : ∃ ca ta, w.heap[a1.block]? = some (Obj.cells ca ta (0, 0))
theorem EV.keep {w w' : World} {a0 a1 : Addr} (h : EV w a0 a1) (hk : ∀ b : Nat, (∃ c t f, w.heap[b]? = some (Obj.cells c t f)) → w'.heap[b]? = w.heap[b]?) : EV w' a0 a1 := by
  have cells : ∀ {a : Addr} {v : Value}, w.cell? a = some v → w'.cell? a = some v := fun {a v} hc => by
    have : ∃ c t f, w.heap[a.block]? = some (Obj.cells c t f) := by
      unfold World.cell? at hc
      split at hc
      · rename_i hh; exact ⟨_, _, _, hh⟩
      · cases hc
    unfold World.cell? at hc ⊢
    rw [hk _ this]
    exact hc
  obtain ⟨ca, ta, h0⟩ := h.h0
  obtain ⟨cb, tb, h1⟩ := h.h1
  exact ⟨cells h.c0, cells h.c1, h.ne, ⟨ca, ta, (hk _ ⟨_, _, _, h0⟩).trans h0⟩, ⟨cb, tb, (hk _ ⟨_, _, _, h1⟩).trans h1⟩⟩
theorem EV.below {w w' : World} {a0 a1 : Addr} (h : EV w a0 a1) (hb : Below w.heap.size w w') : EV w' a0 a1 :=
  h.keep fun b ⟨c, t, f, hc⟩ => hb.block b (Array.getElem?_eq_some_iff.1 hc).1
/-- impl.safe of the two sentinels and of nil. -/
theorem safe_nil {a0 a1 : Addr} (w : World) (h : EV w a0 a1) : Calls Tryz.prog 11 #[.nilIface] w fun e w' => e = .returned (.bool true) ∧ w' = w := by
  have c0 := h.c0
  have c1 := h.c1
  go_enter Tryz.func11, Tryz.ntmps11
  go_wp2_with fail
  refine (is_nil _ _).mono ?_
  rintro e w' ⟨rfl, rfl⟩
  go_wp2_with fail
  refine (is_nil _ _).mono ?_
  rintro e w' ⟨rfl, rfl⟩
  go_wp2
  go_ret
  exact ⟨rfl, rfl⟩
theorem safe_unsafe {a0 a1 : Addr} (w : World) (h : EV w a0 a1) : Calls Tryz.prog 11 #[.iface 143 (.pointer (some a1))] w fun e w' => e = .returned (.bool false) ∧ w' = w := by
  have c0 := h.c0
  have c1 := h.c1
  go_enter Tryz.func11, Tryz.ntmps11
  go_wp2_with fail
  refine (is_same _ _).mono ?_
  rintro e w' ⟨rfl, rfl⟩
  go_wp2
  go_ret
  exact ⟨rfl, rfl⟩
theorem safe_incomplete {a0 a1 : Addr} (w : World) (h : EV w a0 a1) : Calls Tryz.prog 11 #[.iface 143 (.pointer (some a0))] w fun e w' => e = .returned (.bool false) ∧ w' = w := by
  have c0 := h.c0
  have c1 := h.c1
  obtain ⟨ca, ta, h0⟩ := h.h0
  obtain ⟨cb, tb, h1⟩ := h.h1
  go_enter Tryz.func11, Tryz.ntmps11
  go_wp2_with fail
  refine (is_other _ _ _ _ _ _ _ h.ne h0 h1).mono ?_
  rintro e w' ⟨rfl, rfl⟩
  go_wp2_with fail
  refine (is_same _ _).mono ?_
  rintro e w' ⟨rfl, rfl⟩
  go_wp2
  go_ret
  exact ⟨rfl, rfl⟩
end Go.Proofs.YtafhpbghogdipaaGreatDoor

/- What the row's list of variables gives: the two sentinels. -/
namespace Go.Proofs.YtafhpbghogdipaaGreatDoor
open Go.RowKit Go.ChangeShapes
set_option maxHeartbeats 4000000
set_option maxRecDepth 100000

theorem gE0 : Tryz.prog.globalNamed "loop.example/flexquorum/impl.errIncomplete" = some 0 := by kernel_rfl
theorem gE1 : Tryz.prog.globalNamed "loop.example/flexquorum/impl.errUnsafe" = some 1 := by kernel_rfl
theorem gE0T : (Tryz.prog.globals[0]?).map (·.type) = some 38 := by kernel_rfl
theorem gE1T : (Tryz.prog.globals[1]?).map (·.type) = some 38 := by kernel_rfl
theorem cells_es : Tryz.prog.cellsOf 169 = 1 := by kernel_rfl
theorem cells_str : Tryz.prog.cellsOf 9 = 1 := by kernel_rfl
theorem star_es : "*" ++ "errors.errorString" = "*errors.errorString" := by decide
theorem row_es (u : TypeId) (h : Tryz.prog.typeName? 3 u = some "*errors.errorString") : u = 143 :=
  typeName_ptr_named (nm := "errors.errorString") (by rw [star_es]; kernel_rfl) (by kernel_rfl) (by decide) u (by rw [star_es]; exact h)
theorem ev_of {W : World} (h : laidMetH Tryz.prog Rows.fnConfigSafeRow.laid W) : ∃ a0 a1, EV W a0 a1 := by
  rw [MakeChecks.laidMetH_plain _ _ _ (by kernel_rfl)] at h
  obtain ⟨a0, a1, s0, s1, c0, c1, t0, t1, hv0, hv1, _, _, _, _, _, _, hne, hh0, hh1⟩ := laid_sentinels2 h gE0 gE0T gE1 gE1T Tryz.underlying38 row_es Tryz.underlying143 Tryz.underlying169 rfl rfl Tryz.underlying9 cells_es cells_str
  exact ⟨a0, a1, by simpa using World.var?_cell gE0 hv0 0, by simpa using World.var?_cell gE1 hv1 0, hne, ⟨_, _, hh0⟩, ⟨_, _, hh1⟩⟩
end Go.Proofs.YtafhpbghogdipaaGreatDoor

/- impl.ConfigSafe and impl.readConfig around common: the lone parts. -/
namespace Go.Proofs.YtafhpbghogdipaaGreatDoor
open Go.RowKit
set_option maxHeartbeats 4000000
set_option maxRecDepth 100000
set_option linter.unusedVariables false
set_option linter.unusedSimpArgs false

/-- Two lists of lists that can be read. -/
structure AM (w : World) (A : Option Addr) (n c : Nat) (zss : List (List Int)) : Prop where
  arg : ArgM w A n c zss
  ok : SzOk zss n
theorem AM.mat {w : World} {A : Option Addr} {n c : Nat} {zss : List (List Int)} (h : AM w A n c zss) : Mat w w.heap.size A n zss := h.arg.1
theorem AM.len {w : World} {A : Option Addr} {n c : Nat} {zss : List (List Int)} (h : AM w A n c zss) : zss.length = n := h.arg.1.len
theorem AM.below {w w' : World} {A : Option Addr} {n c : Nat} {zss : List (List Int)} (h : AM w A n c zss) (hb : Below w.heap.size w w') : AM w' A n c zss := ⟨⟨(h.arg.1.below hb).more hb.size, h.arg.2⟩, h.ok⟩
theorem AM.bel {w w' : World} {A : Option Addr} {n c : Nat} {zss : List (List Int)} (h : AM w A n c zss) (hb : Bel w.heap.size w w') : AM w' A n c zss := ⟨h.arg.bel hb, h.ok⟩
theorem am_tp {w : World} {A : Option Addr} {n c : Nat} {zss : List (List Int)} (h : AM w A n c zss) {T : Nat → Question → Nat} {d : Nat} : AM (tp w T d) A n c zss := ⟨argM_tp h.arg, h.ok⟩
theorem cell_bel {w w' : World} (h : Bel w.heap.size w w') {b o : Nat} {v : Value} (hc : w.cell? ⟨b, o, none⟩ = some v) : w'.cell? ⟨b, o, none⟩ = some v :=
  (World.cell?_of_block (h.block b (by have := World.block_lt_of_cell? _ _ hc; simpa using this))).trans hc
theorem cell_set_off (w : World) {b o o' : Nat} (u : Value) (h : o ≠ o') : (w.setCell ⟨b, o, none⟩ u).cell? ⟨b, o', none⟩ = w.cell? ⟨b, o', none⟩ := by
  unfold World.setCell World.cell?
  simp only [Array.getElem?_modify]
  cases hw : w.heap[b]? with
  | none => simp
  | some x => cases x <;> simp [Array.getElem?_setIfInBounds_ne h]
theorem two_set {w : World} {b : Nat} {u v u0 v0 : Value} (h0 : w.cell? ⟨b, 0, none⟩ = some u0) (h1 : w.cell? ⟨b, 1, none⟩ = some v0) :
    ((w.setCell ⟨b, 0, none⟩ u).setCell ⟨b, 1, none⟩ v).drew.cell? ⟨b, 0, none⟩ = some u ∧ ((w.setCell ⟨b, 0, none⟩ u).setCell ⟨b, 1, none⟩ v).drew.cell? ⟨b, 1, none⟩ = some v := by
  constructor
  · show ((w.setCell ⟨b, 0, none⟩ u).setCell ⟨b, 1, none⟩ v).cell? ⟨b, 0, none⟩ = some u
    rw [cell_set_off _ _ (by decide), cell_set_map, h0]
    rfl
  · show ((w.setCell ⟨b, 0, none⟩ u).setCell ⟨b, 1, none⟩ v).cell? ⟨b, 1, none⟩ = some v
    rw [cell_set_map, cell_set_off _ _ (by decide), h1]
    rfl
section
variable (A : Option Addr) (n c : Nat) (zss : List (List Int)) (A2 : Option Addr) (n2 c2 : Nat) (yss : List (List Int))
/-- readConfig stands ahead of common. -/
def QD (w0 : World) (a : Act) (w : World) : Prop :=
  ∃ (d1 d8 d9 d10 d11 d12 d13 d14 d15 d16 d17 d18 d19 d20 d21 d22 d23 d24 d25 d26 d27 d28 d29 d30 d31 d32 d33 v1 v2 : Value) (b2 b7 : Nat), a = ⟨#[.agg #[.slice A n c, .slice A2 n2 c2], d1, .pointer (some ⟨b2, 0, none⟩), .nilIface, v1, v2, .bool true, .pointer (some ⟨b7, 0, none⟩), d8, d9, d10, d11, d12, d13, d14, d15, d16, d17, d18, d19, d20, d21, d22, d23, d24, d25, d26, d27, d28, d29, d30, d31, d32, d33, undef, undef, undef, undef, undef, undef, undef, undef], []⟩ ∧
    (∃ A1 c1 A2 c2, v1 = .slice A1 n c1 ∧ v2 = .slice A2 n2 c2 ∧ n ≤ c1 ∧ n2 ≤ c2 ∧ Row w w.heap.size A1 (mV (mAt zss) n) ∧ Row w w.heap.size A2 (mV (mAt yss) n2)) ∧
    (w.cell? ⟨b2, 0, none⟩ = some (.slice none 0 0) ∧ w.cell? ⟨b2, 1, none⟩ = some (.slice none 0 0) ∧ w.cell? ⟨b7, 0, none⟩ = some v1 ∧ w.cell? ⟨b7, 1, none⟩ = some v2 ∧ b2 ≠ b7 ∧ w.frozen? ⟨b2, 0, none⟩ = false ∧ w.frozen? ⟨b2, 1, none⟩ = false ∧ w0.heap.size ≤ b2) ∧
    (famB zss && famB yss && decide (0 < n) && decide (0 < n2)) = true ∧ Bel w0.heap.size w0 w
/-- readConfig gives its results: the error is ev. -/
def QE29 (ev : Value) (B : Nat) (w0 : World) (a : Act) (w : World) : Prop :=
  ∃ (b2 : Nat) (X : Option Addr) (nx cx : Nat) (Y : Option Addr) (ny cy : Nat), a.defers = [] ∧ a.tmps.getD 2 undef = .pointer (some ⟨b2, 0, none⟩) ∧ a.tmps.getD 3 undef = ev ∧ w.cell? ⟨b2, 0, none⟩ = some (.slice X nx cx) ∧ w.cell? ⟨b2, 1, none⟩ = some (.slice Y ny cy) ∧ Bel B w0 w
def QEi (a0 : Addr) (w0 : World) (a : Act) (w : World) : Prop := QE29 (.iface 143 (.pointer (some a0))) w0.heap.size w0 a w ∧ (famB zss && famB yss && decide (0 < n) && decide (0 < n2)) = false
theorem QD.tp {w0 : World} (a : Act) (w : World) (T : Nat → Question → Nat) (d : Nat) (h : QD A n c zss A2 n2 c2 yss w0 a w) : QD A n c zss A2 n2 c2 yss w0 a (tp w T d) := by
  obtain ⟨d1, d8, d9, d10, d11, d12, d13, d14, d15, d16, d17, d18, d19, d20, d21, d22, d23, d24, d25, d26, d27, d28, d29, d30, d31, d32, d33, v1, v2, b2, b7, e, h1, h2, h3, h4⟩ := h
  exact ⟨d1, d8, d9, d10, d11, d12, d13, d14, d15, d16, d17, d18, d19, d20, d21, d22, d23, d24, d25, d26, d27, d28, d29, d30, d31, d32, d33, v1, v2, b2, b7, e, h1, h2, h3, h4.tp T d⟩
theorem QE29.tp {ev : Value} {B : Nat} {w0 : World} (a : Act) (w : World) (T : Nat → Question → Nat) (d : Nat) (h : QE29 ev B w0 a w) : QE29 ev B w0 a (tp w T d) := by
  obtain ⟨b2, X, nx, cx, Y, ny, cy, h1, h2, h3, h4, h5, h6⟩ := h
  exact ⟨b2, X, nx, cx, Y, ny, cy, h1, h2, h3, h4, h5, h6.tp T d⟩
end
theorem plain29 : plainCode SP (headN 3 (bodyOf 10)) = true := by kernel_rfl
theorem graft29 : graft (headN 3 (bodyOf 10)) (tailN 3 (bodyOf 10)) = bodyOf 10 := by kernel_rfl
noncomputable def Z29 : Code := tailN 3 (bodyOf 10)
noncomputable def K29 : Code := match Z29 with | .seq (.seq _ k) _ => k | _ => .skip
noncomputable def R29 : Code := restOf Z29
noncomputable def ops29 : Array Oper := match Z29 with | .seq (.seq (.region _ ops _) _) _ => ops | _ => #[]
theorem plainK29 : plainCode SP K29 = true := by kernel_rfl
theorem plainR29 : plainCode SP R29 = true := by kernel_rfl
set_option maxHeartbeats 16000000 in
theorem readA (A : Option Addr) (n c : Nat) (zss : List (List Int)) (A2 : Option Addr) (n2 c2 : Nat) (yss : List (List Int)) (w : World) (h1 : AM w A n c zss) (h2 : AM w A2 n2 c2 yss) (a0 a1 : Addr) (hE : EV w a0 a1) :
    (headN 3 (bodyOf 10)).wp Tryz.prog (QQ (QD A n c zss A2 n2 c2 yss w) (QEi n zss n2 yss a0 w)) ⟨#[.agg #[.slice A n c, .slice A2 n2 c2]] ++ Array.replicate (42 - 1) undef, []⟩ w := by
  obtain ⟨Q, hQ⟩ : ∃ Q, Q = QQ (QD A n c zss A2 n2 c2 yss w) (QEi n zss n2 yss a0 w) := ⟨_, rfl⟩
  rw [← hQ]
  have HQ := Lib.hid hQ
  clear hQ
  have HE := Lib.hid hE
  have HC1 := Lib.hid h1
  have HC2 := Lib.hid h2
  clear h1 h2 hE
  have HK := Lib.hid (fun (W : World) (hb : Below w.heap.size w W) => readFamilies_any A n c zss A2 n2 c2 yss W (HC1.out.below hb).mat HC1.out.ok (HC2.out.below hb).mat HC2.out.ok)
  simp only [bodyOf, Tryz.func10, Tryz.f10, headN, Option.bind_some, Option.getD_some, Array.replicate, List.replicate, List.append_toArray, List.cons_append, List.nil_append, Nat.reduceSub]
  go_wp2_with fail
  refine (HK.out _ (by (repeat (first | (with_reducible exact Below.refl _ _) | (with_reducible assumption) | (with_reducible refine below_drewN ?_ _) | (with_reducible refine Below.drew ?_) | (with_reducible refine Below.alloc ?_ (by (first | omega | (show _ < _; omega) | (simp; omega) | (simp; done))) _) | (with_reducible refine Below.setCell ?_ (by (first | omega | (show _ < _; omega) | (simp; omega) | (simp; done))) _) | (with_reducible refine Below.trans ?_ (Below.mono (by with_reducible assumption) (by (first | omega | (show _ < _; omega) | (simp; omega) | (simp; done))))) | (with_reducible refine below_grown ?_ (by with_reducible assumption) (by (first | omega | (show _ < _; omega) | (simp; omega) | (simp; done))) (by (first | omega | (show _ < _; omega) | (simp; omega) | (simp; done)))))))).mono ?_
  rintro e w1 ⟨hb, v1, v2, rfl, hr⟩
  have hsz1 := hb.size
  simp at hsz1
  obtain ⟨hc_w1, hf_w1⟩ := bcell hb
  have k1 := fun o => hc_w1 (w.heap.size + 1) o (by first | omega | (simp; done) | (simp; omega))
  have j1 := fun o => hf_w1 (w.heap.size + 1) o (by first | omega | (simp; done) | (simp; omega))
  clear hc_w1 hf_w1
  have hb1 : Below w.heap.size w w1 := by (repeat (first | (with_reducible exact Below.refl _ _) | (with_reducible assumption) | (with_reducible refine below_drewN ?_ _) | (with_reducible refine Below.drew ?_) | (with_reducible refine Below.alloc ?_ (by (first | omega | (show _ < _; omega) | (simp; omega) | (simp; done))) _) | (with_reducible refine Below.setCell ?_ (by (first | omega | (show _ < _; omega) | (simp; omega) | (simp; done))) _) | (with_reducible refine Below.trans ?_ (Below.mono (by with_reducible assumption) (by (first | omega | (show _ < _; omega) | (simp; omega) | (simp; done))))) | (with_reducible refine below_grown ?_ (by with_reducible assumption) (by (first | omega | (show _ < _; omega) | (simp; omega) | (simp; done))) (by (first | omega | (show _ < _; omega) | (simp; omega) | (simp; done))))))
  have HB := Lib.hid hb1
  have HR := Lib.hid hr
  have g0c := (HE.out.below hb1).c0
  clear hb hr hb1
  have HI := Lib.hid (fun (y : World) (hb : Below w.heap.size w y) => (⟨hb, (HE.out.below hb).c0⟩ : Below w.heap.size w y ∧ y.cell? ⟨0, 0, none⟩ = some (.iface 143 (.pointer (some a0)))))
  obtain ⟨p, hp⟩ : ∃ p, p = (famB zss && famB yss) := ⟨_, rfl⟩
  rw [← hp]
  have HP := Lib.hid hp
  clear hp
  cases p
  · go_wp2_with fail
    go_region_held3 (fun y => Below w.heap.size w y ∧ y.cell? ⟨0, 0, none⟩ = some (.iface 143 (.pointer (some a0)))) ((first | assumption | exact HI.out _ (by (first | assumption | exact HB.out | (have HBo := HB.out; (repeat (first | (with_reducible exact Below.refl _ _) | (with_reducible assumption) | (with_reducible refine below_drewN ?_ _) | (with_reducible refine Below.drew ?_) | (with_reducible refine Below.alloc ?_ (by (first | omega | (show _ < _; omega) | (simp; omega) | (simp; done))) _) | (with_reducible refine Below.setCell ?_ (by (first | omega | (show _ < _; omega) | (simp; omega) | (simp; done))) _) | (with_reducible refine Below.trans ?_ (Below.mono (by with_reducible assumption) (by (first | omega | (show _ < _; omega) | (simp; omega) | (simp; done))))) | (with_reducible refine below_grown ?_ (by with_reducible assumption) (by (first | omega | (show _ < _; omega) | (simp; omega) | (simp; done))) (by (first | omega | (show _ < _; omega) | (simp; omega) | (simp; done)))))); done) | (have hh := (by assumption : Below w.heap.size w _ ∧ _); have hho := hh.1; (repeat (first | (with_reducible exact Below.refl _ _) | (with_reducible assumption) | (with_reducible refine below_drewN ?_ _) | (with_reducible refine Below.drew ?_) | (with_reducible refine Below.alloc ?_ (by (first | omega | (show _ < _; omega) | (simp; omega) | (simp; done))) _) | (with_reducible refine Below.setCell ?_ (by (first | omega | (show _ < _; omega) | (simp; omega) | (simp; done))) _) | (with_reducible refine Below.trans ?_ (Below.mono (by with_reducible assumption) (by (first | omega | (show _ < _; omega) | (simp; omega) | (simp; done))))) | (with_reducible refine below_grown ?_ (by with_reducible assumption) (by (first | omega | (show _ < _; omega) | (simp; omega) | (simp; done))) (by (first | omega | (show _ < _; omega) | (simp; omega) | (simp; done)))))); done))))) (fail)
    all_goals go_wp2
    all_goals rw [HQ.out]
    all_goals (have HBo := HB.out; exact .inr ⟨rfl, ⟨w.heap.size + 1, none, 0, 0, none, 0, 0, rfl, rfl, rfl, (two_set (u0 := .slice none 0 0) (v0 := .slice none 0 0) (by simp [k1]) (by simp [k1])).1, (two_set (u0 := .slice none 0 0) (v0 := .slice none 0 0) (by simp [k1]) (by simp [k1])).2, Bel.of' (by (repeat (first | (with_reducible exact Below.refl _ _) | (with_reducible assumption) | (with_reducible refine below_drewN ?_ _) | (with_reducible refine Below.drew ?_) | (with_reducible refine Below.alloc ?_ (by (first | omega | (show _ < _; omega) | (simp; omega) | (simp; done))) _) | (with_reducible refine Below.setCell ?_ (by (first | omega | (show _ < _; omega) | (simp; omega) | (simp; done))) _) | (with_reducible refine Below.trans ?_ (Below.mono (by with_reducible assumption) (by (first | omega | (show _ < _; omega) | (simp; omega) | (simp; done))))) | (with_reducible refine below_grown ?_ (by with_reducible assumption) (by (first | omega | (show _ < _; omega) | (simp; omega) | (simp; done))) (by (first | omega | (show _ < _; omega) | (simp; omega) | (simp; done)))))))⟩, by rw [← HP.out]; rfl⟩)
  · obtain ⟨A1, c1, A2, c2, rfl, rfl, hc1, hc2, r1, r2⟩ := HR.out HP.out.symm
    have HR1 := Lib.hid r1
    have HR2 := Lib.hid r2
    clear r1 r2
    by_cases hn : n = 0
    · have e1 : ((n : Nat) : Int) = 0 := by omega
      go_wp2_with fail
      go_region_held3 (fun y => Below w.heap.size w y ∧ y.cell? ⟨0, 0, none⟩ = some (.iface 143 (.pointer (some a0)))) ((first | assumption | exact HI.out _ (by (first | assumption | exact HB.out | (have HBo := HB.out; (repeat (first | (with_reducible exact Below.refl _ _) | (with_reducible assumption) | (with_reducible refine below_drewN ?_ _) | (with_reducible refine Below.drew ?_) | (with_reducible refine Below.alloc ?_ (by (first | omega | (show _ < _; omega) | (simp; omega) | (simp; done))) _) | (with_reducible refine Below.setCell ?_ (by (first | omega | (show _ < _; omega) | (simp; omega) | (simp; done))) _) | (with_reducible refine Below.trans ?_ (Below.mono (by with_reducible assumption) (by (first | omega | (show _ < _; omega) | (simp; omega) | (simp; done))))) | (with_reducible refine below_grown ?_ (by with_reducible assumption) (by (first | omega | (show _ < _; omega) | (simp; omega) | (simp; done))) (by (first | omega | (show _ < _; omega) | (simp; omega) | (simp; done)))))); done) | (have hh := (by assumption : Below w.heap.size w _ ∧ _); have hho := hh.1; (repeat (first | (with_reducible exact Below.refl _ _) | (with_reducible assumption) | (with_reducible refine below_drewN ?_ _) | (with_reducible refine Below.drew ?_) | (with_reducible refine Below.alloc ?_ (by (first | omega | (show _ < _; omega) | (simp; omega) | (simp; done))) _) | (with_reducible refine Below.setCell ?_ (by (first | omega | (show _ < _; omega) | (simp; omega) | (simp; done))) _) | (with_reducible refine Below.trans ?_ (Below.mono (by with_reducible assumption) (by (first | omega | (show _ < _; omega) | (simp; omega) | (simp; done))))) | (with_reducible refine below_grown ?_ (by with_reducible assumption) (by (first | omega | (show _ < _; omega) | (simp; omega) | (simp; done))) (by (first | omega | (show _ < _; omega) | (simp; omega) | (simp; done)))))); done))))) (fail)
      all_goals go_wp2
      all_goals rw [HQ.out]
      all_goals (have HBo := HB.out; exact .inr ⟨rfl, ⟨w.heap.size + 1, none, 0, 0, none, 0, 0, rfl, rfl, rfl, (two_set (u0 := .slice none 0 0) (v0 := .slice none 0 0) (by simp [k1]) (by simp [k1])).1, (two_set (u0 := .slice none 0 0) (v0 := .slice none 0 0) (by simp [k1]) (by simp [k1])).2, Bel.of' (by (repeat (first | (with_reducible exact Below.refl _ _) | (with_reducible assumption) | (with_reducible refine below_drewN ?_ _) | (with_reducible refine Below.drew ?_) | (with_reducible refine Below.alloc ?_ (by (first | omega | (show _ < _; omega) | (simp; omega) | (simp; done))) _) | (with_reducible refine Below.setCell ?_ (by (first | omega | (show _ < _; omega) | (simp; omega) | (simp; done))) _) | (with_reducible refine Below.trans ?_ (Below.mono (by with_reducible assumption) (by (first | omega | (show _ < _; omega) | (simp; omega) | (simp; done))))) | (with_reducible refine below_grown ?_ (by with_reducible assumption) (by (first | omega | (show _ < _; omega) | (simp; omega) | (simp; done))) (by (first | omega | (show _ < _; omega) | (simp; omega) | (simp; done)))))))⟩, by simp [hn]⟩)
    · have e1 : (((n : Nat) : Int) == 0) = false := by simp; omega
      by_cases hn2 : n2 = 0
      · have e2 : ((n2 : Nat) : Int) = 0 := by omega
        go_wp2_with fail
        go_region_held3 (fun y => Below w.heap.size w y ∧ y.cell? ⟨0, 0, none⟩ = some (.iface 143 (.pointer (some a0)))) ((first | assumption | exact HI.out _ (by (first | assumption | exact HB.out | (have HBo := HB.out; (repeat (first | (with_reducible exact Below.refl _ _) | (with_reducible assumption) | (with_reducible refine below_drewN ?_ _) | (with_reducible refine Below.drew ?_) | (with_reducible refine Below.alloc ?_ (by (first | omega | (show _ < _; omega) | (simp; omega) | (simp; done))) _) | (with_reducible refine Below.setCell ?_ (by (first | omega | (show _ < _; omega) | (simp; omega) | (simp; done))) _) | (with_reducible refine Below.trans ?_ (Below.mono (by with_reducible assumption) (by (first | omega | (show _ < _; omega) | (simp; omega) | (simp; done))))) | (with_reducible refine below_grown ?_ (by with_reducible assumption) (by (first | omega | (show _ < _; omega) | (simp; omega) | (simp; done))) (by (first | omega | (show _ < _; omega) | (simp; omega) | (simp; done)))))); done) | (have hh := (by assumption : Below w.heap.size w _ ∧ _); have hho := hh.1; (repeat (first | (with_reducible exact Below.refl _ _) | (with_reducible assumption) | (with_reducible refine below_drewN ?_ _) | (with_reducible refine Below.drew ?_) | (with_reducible refine Below.alloc ?_ (by (first | omega | (show _ < _; omega) | (simp; omega) | (simp; done))) _) | (with_reducible refine Below.setCell ?_ (by (first | omega | (show _ < _; omega) | (simp; omega) | (simp; done))) _) | (with_reducible refine Below.trans ?_ (Below.mono (by with_reducible assumption) (by (first | omega | (show _ < _; omega) | (simp; omega) | (simp; done))))) | (with_reducible refine below_grown ?_ (by with_reducible assumption) (by (first | omega | (show _ < _; omega) | (simp; omega) | (simp; done))) (by (first | omega | (show _ < _; omega) | (simp; omega) | (simp; done)))))); done))))) (fail)
        all_goals go_wp2
        all_goals rw [HQ.out]
        all_goals (have HBo := HB.out; exact .inr ⟨rfl, ⟨w.heap.size + 1, none, 0, 0, none, 0, 0, rfl, rfl, rfl, (two_set (u0 := .slice none 0 0) (v0 := .slice none 0 0) (by simp [k1]) (by simp [k1])).1, (two_set (u0 := .slice none 0 0) (v0 := .slice none 0 0) (by simp [k1]) (by simp [k1])).2, Bel.of' (by (repeat (first | (with_reducible exact Below.refl _ _) | (with_reducible assumption) | (with_reducible refine below_drewN ?_ _) | (with_reducible refine Below.drew ?_) | (with_reducible refine Below.alloc ?_ (by (first | omega | (show _ < _; omega) | (simp; omega) | (simp; done))) _) | (with_reducible refine Below.setCell ?_ (by (first | omega | (show _ < _; omega) | (simp; omega) | (simp; done))) _) | (with_reducible refine Below.trans ?_ (Below.mono (by with_reducible assumption) (by (first | omega | (show _ < _; omega) | (simp; omega) | (simp; done))))) | (with_reducible refine below_grown ?_ (by with_reducible assumption) (by (first | omega | (show _ < _; omega) | (simp; omega) | (simp; done))) (by (first | omega | (show _ < _; omega) | (simp; omega) | (simp; done)))))))⟩, by simp [hn2]⟩)
      · have e2 : (((n2 : Nat) : Int) == 0) = false := by simp; omega
        go_wp2_with fail
        rw [HQ.out]
        have HBo := HB.out
        refine .inl ⟨rfl, _, _, _, _, _, _, _, _, _, _, _, _, _, _, _, _, _, _, _, _, _, _, _, _, _, _, _, _, _, _, _, rfl, ⟨_, _, _, _, rfl, rfl, hc1, hc2, ?_, ?_⟩, ⟨?_, ?_, ?_, ?_, ?_, ?_, ?_, ?_⟩, ?_, Bel.of' (by (repeat (first | (with_reducible exact Below.refl _ _) | (with_reducible assumption) | (with_reducible refine below_drewN ?_ _) | (with_reducible refine Below.drew ?_) | (with_reducible refine Below.alloc ?_ (by (first | omega | (show _ < _; omega) | (simp; omega) | (simp; done))) _) | (with_reducible refine Below.setCell ?_ (by (first | omega | (show _ < _; omega) | (simp; omega) | (simp; done))) _) | (with_reducible refine Below.trans ?_ (Below.mono (by with_reducible assumption) (by (first | omega | (show _ < _; omega) | (simp; omega) | (simp; done))))) | (with_reducible refine below_grown ?_ (by with_reducible assumption) (by (first | omega | (show _ < _; omega) | (simp; omega) | (simp; done))) (by (first | omega | (show _ < _; omega) | (simp; omega) | (simp; done)))))))⟩
        · exact (HR1.out.alloc (Nat.le_refl _) _).more (by simp)
        · exact (HR2.out.alloc (Nat.le_refl _) _).more (by simp)
        · rw [World.cell?_alloc_lt _ _ _ (by simp; omega), k1]; simp
        · rw [World.cell?_alloc_lt _ _ _ (by simp; omega), k1]; simp
        · simp
        · simp
        · omega
        · exact (World.frozen?_of_block (Below.heap_alloc _ _ _ (by simp; omega))).trans ((j1 _).trans (by simp))
        · exact (World.frozen?_of_block (Below.heap_alloc _ _ _ (by simp; omega))).trans ((j1 _).trans (by simp))
        · omega
        · rw [← HP.out]; simp; omega
/-- What stands of readConfig's own memory. -/
structure RdSt (b2 b7 : Nat) (v1 v2 : Value) (w : World) : Prop where
  z0 : w.cell? ⟨b2, 0, none⟩ = some (.slice none 0 0)
  z1 : w.cell? ⟨b2, 1, none⟩ = some (.slice none 0 0)
  s0 : w.cell? ⟨b7, 0, none⟩ = some v1
  s1 : w.cell? ⟨b7, 1, none⟩ = some v2
  ne : b2 ≠ b7
  f0 : w.frozen? ⟨b2, 0, none⟩ = false
  f1 : w.frozen? ⟨b2, 1, none⟩ = false
theorem RdSt.bel {b2 b7 : Nat} {v1 v2 : Value} {w w' : World} (h : RdSt b2 b7 v1 v2 w) (hb : Bel w.heap.size w w') : RdSt b2 b7 v1 v2 w' := by
  have hlt := World.block_lt_of_cell? _ _ h.z0
  have e := hb.block b2 (by simpa using hlt)
  exact ⟨cell_bel hb h.z0, cell_bel hb h.z1, cell_bel hb h.s0, cell_bel hb h.s1, h.ne, (World.frozen?_of_block e).trans h.f0, (World.frozen?_of_block e).trans h.f1⟩
theorem set_other {w : World} {b b' o o' : Nat} {u v : Value} (h : w.cell? ⟨b', o', none⟩ = some v) (hne : b ≠ b') : (w.setCell ⟨b, o, none⟩ u).cell? ⟨b', o', none⟩ = some v :=
  (World.cell?_of_block (Below.heap_setCell w _ _ b' (fun e => hne (by simpa using e.symm)))).trans h
set_option maxHeartbeats 16000000 in
/-- The error is to be 'unsafe'. -/
theorem readT (A : Option Addr) (n c : Nat) (A2 : Option Addr) (n2 c2 : Nat) (d1 d8 d9 d10 d11 d12 d13 d14 d15 d16 d17 d18 d19 d20 d21 d22 d23 d24 d25 d26 d27 d28 d29 d30 d31 d32 d33 t36 t37 : Value) (A1 : Option Addr) (c1 : Nat) (A3 : Option Addr) (c3 : Nat) (b2 b7 B : Nat) (w : World) (a0 a1 : Addr) (hE : EV w a0 a1) (hR : RdSt b2 b7 (.slice A1 n c1) (.slice A3 n2 c3) w) (h2 : 2 ≤ b2) (hB : B ≤ b2) :
    K29.wp Tryz.prog (QQ (fun _ _ => False) (QE29 (.iface 143 (.pointer (some a1))) B w)) ⟨#[.agg #[.slice A n c, .slice A2 n2 c2], d1, .pointer (some ⟨b2, 0, none⟩), .nilIface, .slice A1 n c1, .slice A3 n2 c3, .bool true, .pointer (some ⟨b7, 0, none⟩), d8, d9, d10, d11, d12, d13, d14, d15, d16, d17, d18, d19, d20, d21, d22, d23, d24, d25, d26, d27, d28, d29, d30, d31, d32, d33, .slice A1 n c1, .slice A3 n2 c3, t36, t37, .bool true, undef, undef, undef], []⟩ w := by
  obtain ⟨Q, hQ⟩ : ∃ Q, Q = QQ (fun _ _ => False) (QE29 (.iface 143 (.pointer (some a1))) B w) := ⟨_, rfl⟩
  rw [← hQ]
  have HQ := Lib.hid hQ
  clear hQ
  have z0 := hR.z0
  have z1 := hR.z1
  have s0 := hR.s0
  have s1 := hR.s1
  have f0 := hR.f0
  have f1 := hR.f1
  have hne := hR.ne
  have ce1 := hE.c1
  have n1 : ¬ b2 = 1 := by omega
  have lt2 := World.block_lt_of_cell? _ _ z0
  simp only at lt2
  clear hR hE
  simp only [K29, Z29, bodyOf, tailN, Tryz.func10, Tryz.f10, Option.bind_some, Option.getD_some, Array.replicate, List.replicate, List.append_toArray, List.cons_append, List.nil_append, Nat.reduceSub]
  go_wp2_with fail
  go_region_held3 (fun y => y.cell? ⟨1, 0, none⟩ = some (.iface 143 (.pointer (some a1))) ∧ y.cell? ⟨b7, 0, none⟩ = some (.slice A1 n c1) ∧ y.cell? ⟨b7, 1, none⟩ = some (.slice A3 n2 c3)) ((first | assumption | exact ⟨ce1, s0, s1⟩ | exact ⟨set_other (set_other ce1 n1) n1, set_other (set_other s0 hne) hne, set_other (set_other s1 hne) hne⟩ | (trace_state; fail))) (fail)
  all_goals go_wp2
  all_goals rw [HQ.out]
  all_goals exact .inr ⟨rfl, b2, _, _, _, _, _, _, rfl, rfl, rfl, (two_set z0 z1).1, (two_set z0 z1).2, Bel.of' (by (repeat (first | (with_reducible exact Below.refl _ _) | (with_reducible assumption) | (with_reducible refine below_drewN ?_ _) | (with_reducible refine Below.drew ?_) | (with_reducible refine Below.alloc ?_ (by (first | omega | (show _ < _; omega) | (simp; omega) | (simp; done))) _) | (with_reducible refine Below.setCell ?_ (by (first | omega | (show _ < _; omega) | (simp; omega) | (simp; done))) _) | (with_reducible refine Below.trans ?_ (Below.mono (by with_reducible assumption) (by (first | omega | (show _ < _; omega) | (simp; omega) | (simp; done))))) | (with_reducible refine below_grown ?_ (by with_reducible assumption) (by (first | omega | (show _ < _; omega) | (simp; omega) | (simp; done))) (by (first | omega | (show _ < _; omega) | (simp; omega) | (simp; done)))))))⟩
/-- No error. -/
theorem readF (A : Option Addr) (n c : Nat) (A2 : Option Addr) (n2 c2 : Nat) (d1 d8 d9 d10 d11 d12 d13 d14 d15 d16 d17 d18 d19 d20 d21 d22 d23 d24 d25 d26 d27 d28 d29 d30 d31 d32 d33 t36 t37 : Value) (A1 : Option Addr) (c1 : Nat) (A3 : Option Addr) (c3 : Nat) (b2 b7 B : Nat) (w : World) (hR : RdSt b2 b7 (.slice A1 n c1) (.slice A3 n2 c3) w) (hB : B ≤ b2) :
    R29.wp Tryz.prog (QQ (fun _ _ => False) (QE29 .nilIface B w)) ⟨#[.agg #[.slice A n c, .slice A2 n2 c2], d1, .pointer (some ⟨b2, 0, none⟩), .nilIface, .slice A1 n c1, .slice A3 n2 c3, .bool true, .pointer (some ⟨b7, 0, none⟩), d8, d9, d10, d11, d12, d13, d14, d15, d16, d17, d18, d19, d20, d21, d22, d23, d24, d25, d26, d27, d28, d29, d30, d31, d32, d33, .slice A1 n c1, .slice A3 n2 c3, t36, t37, .bool false, undef, undef, undef], []⟩ w := by
  obtain ⟨Q, hQ⟩ : ∃ Q, Q = QQ (fun _ _ => False) (QE29 .nilIface B w) := ⟨_, rfl⟩
  rw [← hQ]
  have HQ := Lib.hid hQ
  clear hQ
  have z0 := hR.z0
  have z1 := hR.z1
  have s0 := hR.s0
  have s1 := hR.s1
  have f0 := hR.f0
  have f1 := hR.f1
  have hne := hR.ne
  have lt2 := World.block_lt_of_cell? _ _ z0
  simp only at lt2
  clear hR
  simp only [R29, restOf, Z29, bodyOf, tailN, Tryz.func10, Tryz.f10, Option.bind_some, Option.getD_some, Array.replicate, List.replicate, List.append_toArray, List.cons_append, List.nil_append, Nat.reduceSub]
  go_wp2
  rw [HQ.out]
  exact .inr ⟨rfl, b2, _, _, _, _, _, _, rfl, rfl, rfl, (two_set z0 z1).1, (two_set z0 z1).2, Bel.of' (by (repeat (first | (with_reducible exact Below.refl _ _) | (with_reducible assumption) | (with_reducible refine below_drewN ?_ _) | (with_reducible refine Below.drew ?_) | (with_reducible refine Below.alloc ?_ (by (first | omega | (show _ < _; omega) | (simp; omega) | (simp; done))) _) | (with_reducible refine Below.setCell ?_ (by (first | omega | (show _ < _; omega) | (simp; omega) | (simp; done))) _) | (with_reducible refine Below.trans ?_ (Below.mono (by with_reducible assumption) (by (first | omega | (show _ < _; omega) | (simp; omega) | (simp; done))))) | (with_reducible refine below_grown ?_ (by with_reducible assumption) (by (first | omega | (show _ < _; omega) | (simp; omega) | (simp; done))) (by (first | omega | (show _ < _; omega) | (simp; omega) | (simp; done)))))))⟩
/-- readConfig's results. -/
theorem res29 {ev : Value} {B : Nat} {w0 : World} {a : Act} {w : World} (h : QE29 ev B w0 a w) : ∃ (X : Option Addr) (nx cx : Nat) (Y : Option Addr) (ny cy : Nat), ∀ T d, (results Tryz.f10 a.tmps).run Tryz.prog (tp w T d) = .ok (.tuple #[.agg #[.slice X nx cx, .slice Y ny cy], ev]) (tp w T d) := by
  obtain ⟨b2, X, nx, cx, Y, ny, cy, h1, h2, h3, h4, h5, h6⟩ := h
  refine ⟨X, nx, cx, Y, ny, cy, fun T d => ?_⟩
  have h4' : (tp w T d).cell? ⟨b2, 0, none⟩ = some (.slice X nx cx) := h4
  have h5' : (tp w T d).cell? ⟨b2, 1, none⟩ = some (.slice Y ny cy) := h5
  generalize tp w T d = y at h4' h5'
  have h2' : a.tmps[2]?.getD undef = .pointer (some ⟨b2, 0, none⟩) := by simpa using h2
  have h3' : a.tmps[3]?.getD undef = ev := by simpa using h3
  simp only [results, Tryz.results10]
  go_simp

/-! ### impl.ConfigSafe -/
theorem plain17 : plainCode SP (headN 0 (bodyOf 5)) = true := by kernel_rfl
theorem graft17 : graft (headN 0 (bodyOf 5)) (tailN 0 (bodyOf 5)) = bodyOf 5 := by kernel_rfl
noncomputable def Z17 : Code := tailN 0 (bodyOf 5)
noncomputable def ops17 : Array Oper := opsOf Z17
noncomputable def R17 : Code := restOf Z17
theorem plainR17 : plainCode SP R17 = true := by kernel_rfl
theorem plainO17 : ([2, 3, 4, 5, 6, 7].all fun i => ((ops17[i]?).map fun o => plainOp SP o.op).getD true) = true := by kernel_rfl
/-- ConfigSafe stands ahead of its call. -/
def QC17 (v0 v1 : Value) (w0 : World) (a : Act) (w : World) : Prop :=
  a = ⟨#[.agg #[v0, v1], .pointer (some ⟨w0.heap.size, 0, none⟩), .bool false, undef, undef, undef, undef, undef, undef, undef, undef, undef], []⟩ ∧ w.cell? ⟨w0.heap.size, 0, none⟩ = some v0 ∧ w.cell? ⟨w0.heap.size, 1, none⟩ = some v1 ∧ Bel w0.heap.size w0 w
theorem QC17.tp {v0 v1 : Value} {w0 : World} (a : Act) (w : World) (T : Nat → Question → Nat) (d : Nat) (h : QC17 v0 v1 w0 a w) : QC17 v0 v1 w0 a (tp w T d) := ⟨h.1, h.2.1, h.2.2.1, h.2.2.2.tp T d⟩
theorem safeA (A : Option Addr) (n c : Nat) (A2 : Option Addr) (n2 c2 : Nat) (w : World) : (headN 0 (bodyOf 5)).wp Tryz.prog (QQ (QC17 (.slice A n c) (.slice A2 n2 c2) w) (fun _ _ => False)) ⟨#[.agg #[.slice A n c, .slice A2 n2 c2]] ++ Array.replicate (12 - 1) undef, []⟩ w := by
  obtain ⟨Q, hQ⟩ : ∃ Q, Q = QQ (QC17 (.slice A n c) (.slice A2 n2 c2) w) (fun _ _ => False) := ⟨_, rfl⟩
  rw [← hQ]
  have HQ := Lib.hid hQ
  clear hQ
  simp only [bodyOf, Tryz.func5, Tryz.f5, headN, Option.bind_some, Option.getD_some, Array.replicate, List.replicate, List.append_toArray, List.cons_append, List.nil_append, Nat.reduceSub]
  go_wp2
  rw [HQ.out]
  exact .inl ⟨rfl, rfl, by simp, by simp, Bel.of' (by (repeat (first | (with_reducible exact Below.refl _ _) | (with_reducible assumption) | (with_reducible refine below_drewN ?_ _) | (with_reducible refine Below.drew ?_) | (with_reducible refine Below.alloc ?_ (by (first | omega | (show _ < _; omega) | (simp; omega) | (simp; done))) _) | (with_reducible refine Below.setCell ?_ (by (first | omega | (show _ < _; omega) | (simp; omega) | (simp; done))) _) | (with_reducible refine Below.trans ?_ (Below.mono (by with_reducible assumption) (by (first | omega | (show _ < _; omega) | (simp; omega) | (simp; done))))) | (with_reducible refine below_grown ?_ (by with_reducible assumption) (by (first | omega | (show _ < _; omega) | (simp; omega) | (simp; done))) (by (first | omega | (show _ < _; omega) | (simp; omega) | (simp; done)))))))⟩
/-- Behind readConfig: the error is in its place. -/
def QF17 (ev : Value) (w0 : World) (a : Act) (w : World) : Prop := a.defers = [] ∧ (∃ (t0 t1 t3 t5 t6 t7 t8 t9 : Value), a.tmps = #[t0, t1, .bool false, t3, ev, t5, t6, t7, t8, t9, undef, undef]) ∧ Bel w0.heap.size w0 w
theorem QF17.tp {ev : Value} {w0 : World} (a : Act) (w : World) (T : Nat → Question → Nat) (d : Nat) (h : QF17 ev w0 a w) : QF17 ev w0 a (tp w T d) := ⟨h.1, h.2.1, h.2.2.tp T d⟩
theorem wpOps_drop {P : Program} {ops : Array Oper} {Q : Exit → Act → World → Prop} (k m : Nat) (h : ops.size = k + m) : wpOps P ops Q (List.range' k m) = wpList P ops Q (ops.toList.drop k) := by
  have := wpOps_eq_wpList (P := P) (ops := ops) (Q := Q) (ops.toList.drop k) k (fun j => by simp [List.getElem?_drop])
  rw [← this]
  congr 1
  simp
  omega
theorem safeB_ops (t0 t1 t6 ev : Value) (A : Option Addr) (n c : Nat) (A2 : Option Addr) (n2 c2 : Nat) (w : World) (T : Nat → Question → Nat) :
    wpOps Tryz.prog ops17 (QQ (QF17 ev w) (fun _ _ => False)) [2, 3, 4, 5, 6, 7] ⟨#[t0, t1, .bool false, undef, undef, undef, t6, .tuple #[.agg #[.slice A n c, .slice A2 n2 c2], ev], undef, undef, undef, undef], []⟩ (tp w T 0) := by
  have hbb : ∀ y', Below (tp w T 0).heap.size (tp w T 0) y' → Bel w.heap.size w y' := fun y' h => bel_base (Bel.of' h)
  generalize tp w T 0 = y at hbb ⊢
  obtain ⟨Q, hQ⟩ : ∃ Q, Q = QQ (QF17 ev w) (fun _ _ => False) := ⟨_, rfl⟩
  rw [← hQ]
  have HQ := Lib.hid hQ
  clear hQ
  have e := wpOps_drop (P := Tryz.prog) (ops := ops17) (Q := Q) 2 6 (by kernel_rfl)
  have e2 : List.range' 2 6 = [2, 3, 4, 5, 6, 7] := by decide
  rw [e2] at e
  rw [e]
  clear e e2
  simp only [ops17, Z17, opsOf, tailN, bodyOf, Tryz.func5, Tryz.f5, Option.bind_some, Option.getD_some, Array.replicate, List.replicate, List.append_toArray, List.cons_append, List.nil_append, Nat.reduceSub, List.drop_succ_cons, List.drop_zero]
  go_wp2
  rw [HQ.out]
  exact .inl ⟨rfl, rfl, ⟨_, _, _, _, _, _, _, _, rfl⟩, hbb _ (by (repeat (first | (with_reducible exact Below.refl _ _) | (with_reducible assumption) | (with_reducible refine below_drewN ?_ _) | (with_reducible refine Below.drew ?_) | (with_reducible refine Below.alloc ?_ (by (first | omega | (show _ < _; omega) | (simp; omega) | (simp; done))) _) | (with_reducible refine Below.setCell ?_ (by (first | omega | (show _ < _; omega) | (simp; omega) | (simp; done))) _) | (with_reducible refine Below.trans ?_ (Below.mono (by with_reducible assumption) (by (first | omega | (show _ < _; omega) | (simp; omega) | (simp; done))))) | (with_reducible refine below_grown ?_ (by with_reducible assumption) (by (first | omega | (show _ < _; omega) | (simp; omega) | (simp; done))) (by (first | omega | (show _ < _; omega) | (simp; omega) | (simp; done)))))))⟩
def QR17 (r : Bool) (w0 : World) (a : Act) (w : World) : Prop := a.defers = [] ∧ a.tmps.getD 2 undef = .bool r ∧ Bel w0.heap.size w0 w
theorem QR17.tp {r : Bool} {w0 : World} (a : Act) (w : World) (T : Nat → Question → Nat) (d : Nat) (h : QR17 r w0 a w) : QR17 r w0 a (tp w T d) := ⟨h.1, h.2.1, h.2.2.tp T d⟩
theorem safeC (t0 t1 t3 ev t5 t6 t7 t8 t9 : Value) (r : Bool) (w : World) (hS : Calls Tryz.prog 11 #[ev] w fun e w' => e = .returned (.bool r) ∧ w' = w) :
    R17.wp Tryz.prog (QQ (fun _ _ => False) (QR17 r w)) ⟨#[t0, t1, .bool false, t3, ev, t5, t6, t7, t8, t9, undef, undef], []⟩ w := by
  obtain ⟨Q, hQ⟩ : ∃ Q, Q = QQ (fun _ _ => False) (QR17 r w) := ⟨_, rfl⟩
  rw [← hQ]
  have HQ := Lib.hid hQ
  clear hQ
  simp only [R17, Z17, restOf, tailN, bodyOf, Tryz.func5, Tryz.f5, Option.bind_some, Option.getD_some, Array.replicate, List.replicate, List.append_toArray, List.cons_append, List.nil_append, Nat.reduceSub]
  go_wp2_with fail
  refine hS.mono ?_
  rintro e w' ⟨rfl, rfl⟩
  go_wp2
  rw [HQ.out]
  exact .inr ⟨rfl, rfl, rfl, Bel.refl _ _⟩
end Go.Proofs.YtafhpbghogdipaaGreatDoor

/- FnExactConfigSafe: the quiet walks. -/
namespace Go.Proofs.YtafhpbghogdipaaGreatDoor
open Go.Conc Go.ConcN Go.RowKit Go.Conc.Lib Go.ConcR.Gen Go.ConcN.Gen
open Go.ConcR (DC0)
set_option maxHeartbeats 8000000
set_option linter.unusedVariables false
set_option linter.unusedSimpArgs false

/-- The law waits; ConfigSafe waits; readConfig waits. -/
noncomputable def W17 (x p t6 : Value) (l : List Nat) : Frame := (base 5).at ⟨#[x, p, .bool false, undef, undef, undef, t6, undef, undef, undef, undef, undef], []⟩ (.inRegion ops17 l :: .code R17 :: [])
noncomputable def W29 (x d1 p2 v1 v2 p7 d8 d9 d10 d11 d12 d13 d14 d15 d16 d17 d18 d19 d20 d21 d22 d23 d24 d25 d26 d27 d28 d29 d30 d31 d32 d33 t36 t37 : Value) (l : List Nat) : Frame := (base 10).at ⟨#[x, d1, p2, .nilIface, v1, v2, .bool true, p7, d8, d9, d10, d11, d12, d13, d14, d15, d16, d17, d18, d19, d20, d21, d22, d23, d24, d25, d26, d27, d28, d29, d30, d31, d32, d33, v1, v2, t36, t37, undef, undef, undef, undef], []⟩ (.inRegion ops29 l :: .code K29 :: .code R29 :: [])
set_option maxRecDepth 100000 in
theorem quiet17a (x p : Value) (cs : List Frame) : ∀ w, True → Goes Tryz.prog true AtRel DC0 (fun g1 _ => g1 = G (W17 x p undef [0, 1, 2, 3, 4, 5, 6, 7]) cs) 3
    (G ((base 5).at ⟨#[x, p, .bool false, undef, undef, undef, undef, undef, undef, undef, undef, undef], []⟩ (.code Z17 :: [])) cs) w := by
  intro w hF
  unfold W17 ops17 R17 Z17
  simp only [bodyOf, tailN, opsOf, restOf, Tryz.func5, Tryz.f5, Option.bind_some, Option.getD_some, Array.replicate, List.replicate, List.append_toArray, List.cons_append, List.nil_append, Nat.reduceSub]
  u_c stepG_seq no_rely hF
  u_reg no_rely hF
  refine Goes.stop (fun w₁ h₁ => ?_)
  rfl
set_option maxRecDepth 100000 in
theorem quiet17b (x p t6 : Value) (cs : List Frame) : ∀ w, True → Goes Tryz.prog true AtRel DC0 (fun g1 _ => g1 = G ((base 10).at ⟨#[t6] ++ Array.replicate (42 - 1) undef, []⟩ [.code (bodyOf 10)]) (W17 x p t6 [1, 2, 3, 4, 5, 6, 7] :: cs)) 3
    (G ((W17 x p undef [0, 1, 2, 3, 4, 5, 6, 7]).finish t6) cs) w := by
  intro w hF
  unfold W17 ops17 R17 Z17
  simp only [bodyOf, tailN, opsOf, restOf, Tryz.func5, Tryz.f5, Option.bind_some, Option.getD_some, Array.replicate, List.replicate, List.append_toArray, List.cons_append, List.nil_append, Nat.reduceSub, Tryz.func10, Tryz.f10]
  show Goes _ _ _ _ _ _ (G ((base 5).at ⟨#[x, p, .bool false, undef, undef, undef, t6, undef, undef, undef, undef, undef], []⟩ (.inRegion _ [1, 2, 3, 4, 5, 6, 7] :: _)) cs) w
  u_call Tryz.func10 (by decide) Tryz.f10 no_rely hF
  refine Goes.stop (fun w₁ h₁ => ?_)
  rfl
set_option maxRecDepth 100000 in
theorem quiet29a (x d1 p2 v1 v2 p7 d8 d9 d10 d11 d12 d13 d14 d15 d16 d17 d18 d19 d20 d21 d22 d23 d24 d25 d26 d27 d28 d29 d30 d31 d32 d33 : Value) (cs : List Frame) : ∀ w, True → Goes Tryz.prog true AtRel DC0 (fun g1 _ => g1 = G ((base 17).at ⟨#[v1, v2] ++ Array.replicate (24 - 2) undef, []⟩ [.code (bodyOf 17)]) (W29 x d1 p2 v1 v2 p7 d8 d9 d10 d11 d12 d13 d14 d15 d16 d17 d18 d19 d20 d21 d22 d23 d24 d25 d26 d27 d28 d29 d30 d31 d32 d33 undef undef [2, 3, 4] :: cs)) 7
    (G ((base 10).at ⟨#[x, d1, p2, .nilIface, v1, v2, .bool true, p7, d8, d9, d10, d11, d12, d13, d14, d15, d16, d17, d18, d19, d20, d21, d22, d23, d24, d25, d26, d27, d28, d29, d30, d31, d32, d33, undef, undef, undef, undef, undef, undef, undef, undef], []⟩ (.code Z29 :: [])) cs) w := by
  intro w hF
  unfold W29 ops29 K29 R29 Z29
  simp only [bodyOf, tailN, opsOf, restOf, Tryz.func10, Tryz.f10, Option.bind_some, Option.getD_some, Array.replicate, List.replicate, List.append_toArray, List.cons_append, List.nil_append, Nat.reduceSub, Tryz.func17, Tryz.f17]
  u_c stepG_seq no_rely hF
  u_c stepG_seq no_rely hF
  u_reg no_rely hF
  u_op no_rely hF
  u_op no_rely hF
  u_call Tryz.func17 (by decide) Tryz.f17 no_rely hF
  refine Goes.stop (fun w₁ h₁ => ?_)
  rfl
set_option maxRecDepth 100000 in
theorem quiet29b (x d1 p2 v1 v2 p7 d8 d9 d10 d11 d12 d13 d14 d15 d16 d17 d18 d19 d20 d21 d22 d23 d24 d25 d26 d27 d28 d29 d30 d31 d32 d33 r : Value) (cs : List Frame) : ∀ w, True → Goes Tryz.prog true AtRel DC0 (fun g1 _ => g1 = G (Frame.enter Tryz.prog 16 #[r] .normal) (W29 x d1 p2 v1 v2 p7 d8 d9 d10 d11 d12 d13 d14 d15 d16 d17 d18 d19 d20 d21 d22 d23 d24 d25 d26 d27 d28 d29 d30 d31 d32 d33 r undef [3, 4] :: cs)) 3
    (G ((W29 x d1 p2 v1 v2 p7 d8 d9 d10 d11 d12 d13 d14 d15 d16 d17 d18 d19 d20 d21 d22 d23 d24 d25 d26 d27 d28 d29 d30 d31 d32 d33 undef undef [2, 3, 4]).finish r) cs) w := by
  intro w hF
  rw [enter_base (P := Tryz.prog) #[r] Tryz.func16 rfl]
  unfold W29 ops29 K29 R29 Z29
  simp only [bodyOf, tailN, opsOf, restOf, Tryz.func10, Tryz.f10, Option.bind_some, Option.getD_some, Array.replicate, List.replicate, List.append_toArray, List.cons_append, List.nil_append, Nat.reduceSub]
  show Goes _ _ _ _ _ _ (G ((base 10).at ⟨#[x, d1, p2, .nilIface, v1, v2, .bool true, p7, d8, d9, d10, d11, d12, d13, d14, d15, d16, d17, d18, d19, d20, d21, d22, d23, d24, d25, d26, d27, d28, d29, d30, d31, d32, d33, v1, v2, r, undef, undef, undef, undef, undef], []⟩ (.inRegion _ [3, 4] :: _)) cs) w
  u_call Tryz.func16 (by decide) Tryz.f16 no_rely hF
  refine Goes.stop (fun w₁ h₁ => ?_)
  rfl
set_option maxRecDepth 100000 in
theorem quiet29c (x d1 p2 v1 v2 p7 d8 d9 d10 d11 d12 d13 d14 d15 d16 d17 d18 d19 d20 d21 d22 d23 d24 d25 d26 d27 d28 d29 d30 d31 d32 d33 r r2 : Value) (cs : List Frame) : ∀ w, True → Goes Tryz.prog true AtRel DC0 (fun g1 _ => g1 = G (Frame.enter Tryz.prog 15 #[r2, .int .u64 0] .normal) (W29 x d1 p2 v1 v2 p7 d8 d9 d10 d11 d12 d13 d14 d15 d16 d17 d18 d19 d20 d21 d22 d23 d24 d25 d26 d27 d28 d29 d30 d31 d32 d33 r r2 [4] :: cs)) 3
    (G ((W29 x d1 p2 v1 v2 p7 d8 d9 d10 d11 d12 d13 d14 d15 d16 d17 d18 d19 d20 d21 d22 d23 d24 d25 d26 d27 d28 d29 d30 d31 d32 d33 r undef [3, 4]).finish r2) cs) w := by
  intro w hF
  rw [enter_base (P := Tryz.prog) #[r2, .int .u64 0] Tryz.func15 rfl]
  unfold W29 ops29 K29 R29 Z29
  simp only [bodyOf, tailN, opsOf, restOf, Tryz.func10, Tryz.f10, Option.bind_some, Option.getD_some, Array.replicate, List.replicate, List.append_toArray, List.cons_append, List.nil_append, Nat.reduceSub]
  show Goes _ _ _ _ _ _ (G ((base 10).at ⟨#[x, d1, p2, .nilIface, v1, v2, .bool true, p7, d8, d9, d10, d11, d12, d13, d14, d15, d16, d17, d18, d19, d20, d21, d22, d23, d24, d25, d26, d27, d28, d29, d30, d31, d32, d33, v1, v2, r, r2, undef, undef, undef, undef], []⟩ (.inRegion _ [4] :: _)) cs) w
  u_call Tryz.func15 (by decide) Tryz.f15 no_rely hF
  refine Goes.stop (fun w₁ h₁ => ?_)
  rfl
set_option maxRecDepth 100000 in
theorem quiet29d (x d1 p2 v1 v2 p7 d8 d9 d10 d11 d12 d13 d14 d15 d16 d17 d18 d19 d20 d21 d22 d23 d24 d25 d26 d27 d28 d29 d30 d31 d32 d33 r r2 z : Value) (cs : List Frame) : ∀ w, True → Goes Tryz.prog true AtRel DC0 (fun g1 _ => g1 = G ((base 10).at ⟨#[x, d1, p2, .nilIface, v1, v2, .bool true, p7, d8, d9, d10, d11, d12, d13, d14, d15, d16, d17, d18, d19, d20, d21, d22, d23, d24, d25, d26, d27, d28, d29, d30, d31, d32, d33, v1, v2, r, r2, z, undef, undef, undef], []⟩ (.code K29 :: .code R29 :: [])) cs) 2
    (G ((W29 x d1 p2 v1 v2 p7 d8 d9 d10 d11 d12 d13 d14 d15 d16 d17 d18 d19 d20 d21 d22 d23 d24 d25 d26 d27 d28 d29 d30 d31 d32 d33 r r2 [4]).finish z) cs) w := by
  intro w hF
  unfold W29
  show Goes _ _ _ _ _ _ (G ((base 10).at ⟨#[x, d1, p2, .nilIface, v1, v2, .bool true, p7, d8, d9, d10, d11, d12, d13, d14, d15, d16, d17, d18, d19, d20, d21, d22, d23, d24, d25, d26, d27, d28, d29, d30, d31, d32, d33, v1, v2, r, r2, z, undef, undef, undef], []⟩ (.inRegion _ [] :: _)) cs) w
  u_c stepG_region_end no_rely hF
  refine Goes.stop (fun w₁ h₁ => ?_)
  rfl
set_option maxRecDepth 100000 in
theorem quiet29e (x d1 p2 v1 v2 p7 d8 d9 d10 d11 d12 d13 d14 d15 d16 d17 d18 d19 d20 d21 d22 d23 d24 d25 d26 d27 d28 d29 d30 d31 d32 d33 r r2 : Value) (cs : List Frame) : ∀ w, True → Goes Tryz.prog true AtRel DC0 (fun g1 _ => g1 = G ((base 10).at ⟨#[x, d1, p2, .nilIface, v1, v2, .bool true, p7, d8, d9, d10, d11, d12, d13, d14, d15, d16, d17, d18, d19, d20, d21, d22, d23, d24, d25, d26, d27, d28, d29, d30, d31, d32, d33, v1, v2, r, r2, .bool false, undef, undef, undef], []⟩ (.code R29 :: [])) cs) 3
    (G ((base 10).at ⟨#[x, d1, p2, .nilIface, v1, v2, .bool true, p7, d8, d9, d10, d11, d12, d13, d14, d15, d16, d17, d18, d19, d20, d21, d22, d23, d24, d25, d26, d27, d28, d29, d30, d31, d32, d33, v1, v2, r, r2, .bool false, undef, undef, undef], []⟩ (.code K29 :: .code R29 :: [])) cs) w := by
  intro w hF
  unfold K29 Z29
  simp only [bodyOf, tailN, opsOf, restOf, Tryz.func10, Tryz.f10, Option.bind_some, Option.getD_some, Array.replicate, List.replicate, List.append_toArray, List.cons_append, List.nil_append, Nat.reduceSub]
  u_cond false no_rely hF
  u_c stepG_skip no_rely hF
  refine Goes.stop (fun w₁ h₁ => ?_)
  rfl
end Go.Proofs.YtafhpbghogdipaaGreatDoor

/- FnExactConfigSafe: ConfigSafe from its call to its return; the law's run. -/
namespace Go.Proofs.YtafhpbghogdipaaGreatDoor
open Go.Conc Go.RowKit
open Go.ConcR (DC0)
open Go.ConcN (sumTo upd sumTo_upd upd_ne upd_same)
set_option maxHeartbeats 8000000
set_option maxRecDepth 100000
set_option linter.unusedVariables false
set_option linter.unusedSimpArgs false

theorem EV.bel {w w' : World} {a0 a1 : Addr} (h : EV w a0 a1) (hb : Bel w.heap.size w w') : EV w' a0 a1 :=
  h.keep fun b ⟨c, t, f, hc⟩ => hb.block b (Array.getElem?_eq_some_iff.1 hc).1
theorem EV.tp {w : World} {a0 a1 : Addr} (h : EV w a0 a1) (T : Nat → Question → Nat) (d : Nat) : EV (tp w T d) a0 a1 := ⟨h.c0, h.c1, h.ne, h.h0, h.h1⟩
theorem RdSt.tp {b2 b7 : Nat} {v1 v2 : Value} {w : World} (h : RdSt b2 b7 v1 v2 w) (T : Nat → Question → Nat) (d : Nat) : RdSt b2 b7 v1 v2 (tp w T d) := ⟨h.z0, h.z1, h.s0, h.s1, h.ne, h.f0, h.f1⟩
theorem loadCfg {w : World} {b : Nat} {X : Option Addr} {nx cx : Nat} {Y : Option Addr} {ny cy : Nat} (h0 : w.cell? ⟨b, 0, none⟩ = some (.slice X nx cx)) (h1 : w.cell? ⟨b, 1, none⟩ = some (.slice Y ny cy)) :
    (Instr.loadAt 25 (.pointer (some ⟨b, 0, none⟩))).run Tryz.prog w = .ok (.agg #[.slice X nx cx, .slice Y ny cy]) w := by
  go_simp
theorem op_shape {ops : Array Oper} {i : Nat} {dst : Option Tmp} {op : Op} {ty : TypeId} {after : Array Edge} {guard : Option (Nat × Bool)} (h : (ops[i]?).map (fun o => (o.dst, o.op, o.type, o.after, o.guard)) = some (dst, op, ty, after, guard)) :
    ∃ pos, ops[i]? = some { dst := dst, op := op, type := ty, pos := pos, after := after, guard := guard } := by
  obtain ⟨o, ho, he⟩ := Option.map_eq_some_iff.1 h
  cases he
  exact ⟨o.pos, ho⟩
theorem load17 : ∃ pos, ops17[0]? = some { dst := some 6, op := .load 25 (.tmp 1), type := 25, pos := pos, after := #[], guard := none } := op_shape (by kernel_rfl)
theorem fin17 (x p t6 v : Value) : (W17 x p t6 [1, 2, 3, 4, 5, 6, 7]).finish v = (base 5).at ⟨#[x, p, .bool false, undef, undef, undef, t6, v, undef, undef, undef, undef], []⟩ (.inRegion ops17 [2, 3, 4, 5, 6, 7] :: .code R17 :: []) := by kernel_rfl
theorem res17 {r : Bool} {a : Act} (h : a.tmps.getD 2 undef = .bool r) (w : World) : (results Tryz.f5 a.tmps).run Tryz.prog w = .ok (.bool r) w := by
  rw [results_tmp (t := 2) (by kernel_rfl)]
  rw [h]
section
variable {Shun : Loc → Prop} {D : DS} {W : World}
/-- From readConfig's end to ConfigSafe's return. -/
theorem cs_back (hS : ∀ l, Shun l → ∃ a, l = .cell a ∧ D a.block) {ev : Value} {r : Bool} {B : Nat} {w0 wp : World} {a : Act} {todo : List Item} {x p t6 : Value} {ca : Frame} {cs : List Frame} {gs : Array Goroutine} {w : World} {t : Trace} {q : Nat → Nat} (sl : Option (Nat × Nat)) {a0 a1 : Addr} (hE : EV wp a0 a1)
    (hsafe : ∀ w : World, EV w a0 a1 → Calls Tryz.prog 11 #[ev] w fun e w' => e = .returned (.bool r) ∧ w' = w)
    (hq : QE29 ev B w0 a wp) (hF : Fr Tryz.prog Shun D (G { (base 10).at a todo with mode := .returning } (W17 x p t6 [1, 2, 3, 4, 5, 6, 7] :: ca :: cs)) wp gs w t q) (hT : Truth W w wp)
    (hk : ∀ (gs' : Array Goroutine) (wp' w' : World) (sl' : Option (Nat × Nat)) (t' : Trace) (q' : Nat → Nat), Bel wp.heap.size wp wp' → Truth W w' wp' → Fr Tryz.prog Shun D (G (ca.finish (.bool r)) cs) wp' gs' w' t' q' → Ends W gs' w' sl' t') : Ends W gs w sl t := by
  obtain ⟨X, nx, cx, Y, ny, cy, hres⟩ := res29 hq
  obtain ⟨_, _, _, _, _, _, _, hd, _⟩ := hq
  refine walk_leave hS hd sl Tryz.func10 hres hF hT ?_
  intro gs1 w1 sl1 t1 q1 hT1 hF1
  rw [fin17] at hF1
  refine walk_ops hS (Qn := fun w0 => QF17 ev w0) (by kernel_rfl) hT1.size rfl plainO17 (fun a w T d h => QF17.tp a w T d h) (fun a w h => h.2.2)
    (fun T => safeB_ops x p t6 ev X nx cx Y ny cy wp T) sl1 hF1 hT1 ?_
  intro gs2 wp2 w2 sl2 t2 q2 a2 hq2 hT2 hF2
  obtain ⟨hd2, ⟨s0, s1, s3, s5, s6, s7, s8, s9, ht⟩, hb2⟩ := hq2
  obtain ⟨tmps, defers⟩ := a2
  have hd' : defers = [] := hd2
  have ht' : tmps = _ := ht
  subst hd' ht'
  have hE2 := hE.bel hb2
  refine walk_last hS (Qr := fun w0 => QR17 r w0) (by kernel_rfl) rfl plainR17 (fun a w T d h => QR17.tp a w T d h) (fun a w h => h.2.2)
    (fun T => wp_mono (safeC s0 s1 s3 ev s5 s6 s7 s8 s9 r (tp wp2 T 0) (hsafe _ (hE2.tp T 0))) (fun e a w h => h.imp (fun h => h) (fun ⟨h1, h2, h3, h4⟩ => ⟨h1, h2, h3, bel_base h4⟩))) sl2 hF2 hT2 ?_
  intro gs3 wp3 w3 sl3 t3 q3 a3 todo3 hq3 hT3 hF3
  obtain ⟨hd3, hv3, hb3⟩ := hq3
  refine walk_leave hS hd3 sl3 Tryz.func5 (fun T d => res17 hv3 _) hF3 hT3 ?_
  intro gs4 w4 sl4 t4 q4 hT4 hF4
  exact hk gs4 wp3 w4 sl4 t4 q4 (hb2.trans (hb3.mono hb2.size)) hT4 hF4
/-- ████ ConfigSafe, from its call to its return. ████ -/
theorem cs_run (hS : ∀ l, Shun l → ∃ a, l = .cell a ∧ D a.block) {A : Option Addr} {n c : Nat} {zss : List (List Int)} {A2 : Option Addr} {n2 c2 : Nat} {yss : List (List Int)} {ca : Frame} {cs : List Frame} {wp : World} {gs : Array Goroutine} {w : World} {t : Trace} {q : Nat → Nat} (sl : Option (Nat × Nat)) {a0 a1 : Addr} (hE : EV wp a0 a1) (C1 : AM wp A n c zss) (C2 : AM wp A2 n2 c2 yss)
    (hF : Fr Tryz.prog Shun D (G ((base 5).at ⟨#[.agg #[.slice A n c, .slice A2 n2 c2]] ++ Array.replicate (12 - 1) undef, []⟩ [.code (bodyOf 5)]) (ca :: cs)) wp gs w t q) (hT : Truth W w wp)
    (hk : ∀ (gs' : Array Goroutine) (wp' w' : World) (sl' : Option (Nat × Nat)) (t' : Trace) (q' : Nat → Nat) (D' : DS) (Shun' : Loc → Prop), (∀ l, Shun' l → ∃ a, l = .cell a ∧ D' a.block) → Bel wp.heap.size wp wp' → Truth W w' wp' →
      Fr Tryz.prog Shun' D' (G (ca.finish (.bool (safeB zss yss n n2))) cs) wp' gs' w' t' q' → Ends W gs' w' sl' t') : Ends W gs w sl t := by
  have hg1 : 2 ≤ wp.heap.size := by
    have := World.block_lt_of_cell? _ _ hE.c1
    simp only at this
    omega
  rw [← graft17] at hF
  refine walk_code hS (Z := Z17) (Qn := fun w0 => QC17 (.slice A n c) (.slice A2 n2 c2) w0) (Qr := fun _ _ _ => False) (by kernel_rfl) rfl plain17 (fun a w T d h => QC17.tp a w T d h) (fun _ _ _ _ h => h.elim) (fun a w h => h.2.2.2) (fun _ _ h => h.elim)
    (fun T => wp_mono (safeA A n c A2 n2 c2 (tp wp T 0)) (fun e a w h => h.imp (fun ⟨h0, h1, h2, h3, h4⟩ => ⟨h0, h1, h2, h3, bel_base h4⟩) (fun h => h))) sl hF hT ?_ (fun _ _ _ _ _ _ _ _ h => h.elim)
  intro gs1 wp1 w1 sl1 t1 q1 a1' hq1 hT1 hF1
  obtain ⟨rfl, k0, k1, hb1⟩ := hq1
  refine walk_quiet sl1 hF1 hT1 (quiet17a _ _ _) ?_
  intro gs2 w2 sl2 t2 q2 hT2 hF2
  obtain ⟨pos17, hl17⟩ := load17
  refine walk_op hS (v := .agg #[.slice A n c, .slice A2 n2 c2]) hl17 rfl rfl (fun T d => ?_) sl2 hF2 hT2 ?_
  · have e := loadCfg (w := tp wp1 T d) k0 k1
    show ((Instr.loadAt 25 (.pointer (some ⟨wp.heap.size, 0, none⟩))) >>= fun x => (Pure.pure (Next.value x) : Sem Next)).run Tryz.prog (tp wp1 T d) = _
    rw [Sem.run_bind, e]
    rfl
  intro gs3 w3 sl3 t3 q3 hT3 hF3
  refine walk_quiet sl3 hF3 hT3 (quiet17b _ _ _ _) ?_
  intro gs4 w4 sl4 t4 q4 hT4 hF4
  have hE1 := hE.bel hb1
  have C11 := C1.bel hb1
  have C21 := C2.bel hb1
  rw [← graft29] at hF4
  refine walk_code hS (Z := Z29) (Qn := fun w0 => QD A n c zss A2 n2 c2 yss w0) (Qr := fun w0 => QEi n zss n2 yss a0 w0) (by kernel_rfl) rfl plain29 (fun a w T d h => QD.tp _ _ _ _ _ _ _ _ a w T d h) (fun a w T d h => ⟨QE29.tp a w T d h.1, h.2⟩)
    (fun a w h => by obtain ⟨_, _, _, _, _, _, _, _, _, _, _, _, _, _, _, _, _, _, _, _, _, _, _, _, _, _, _, _, _, _, _, _, _, _, _, hb⟩ := h; exact hb) (fun a w h => by obtain ⟨⟨_, _, _, _, _, _, _, _, _, _, _, _, hb⟩, _⟩ := h; exact hb)
    (fun T => wp_mono (readA A n c zss A2 n2 c2 yss (tp wp1 T 0) (am_tp C11) (am_tp C21) a0 a1 (hE1.tp T 0)) (fun e a w h => h.imp
      (fun ⟨h0, d1, d8, d9, d10, d11, d12, d13, d14, d15, d16, d17, d18, d19, d20, d21, d22, d23, d24, d25, d26, d27, d28, d29, d30, d31, d32, d33, v1, v2, b2, b7, h1, h2, h3, h4, h5⟩ => ⟨h0, d1, d8, d9, d10, d11, d12, d13, d14, d15, d16, d17, d18, d19, d20, d21, d22, d23, d24, d25, d26, d27, d28, d29, d30, d31, d32, d33, v1, v2, b2, b7, h1, h2, h3, h4, bel_base h5⟩)
      (fun ⟨h0, ⟨b2, X, nx, cx, Y, ny, cy, h1, h2, h3, h4, h5, h6⟩, h7⟩ => ⟨h0, ⟨b2, X, nx, cx, Y, ny, cy, h1, h2, h3, h4, h5, bel_base h6⟩, h7⟩))) sl4 hF4 hT4 ?_ ?_
  rotate_left
  · -- incomplete
    intro gs5 wp5 w5 sl5 t5 q5 a5 todo5 hq5 hT5 hF5
    obtain ⟨hq5, hc5⟩ := hq5
    have hb5 : Bel wp1.heap.size wp1 wp5 := by obtain ⟨_, _, _, _, _, _, _, _, _, _, _, _, hb⟩ := hq5; exact hb
    have hs : safeB zss yss n n2 = false := by unfold safeB; rw [hc5]; rfl
    refine cs_back hS sl5 (hE1.bel hb5) (fun w h => safe_incomplete w h) hq5 hF5 hT5 ?_
    intro gs6 wp6 w6 sl6 t6 q6 hb6 hT6 hF6
    rw [← hs] at hF6
    exact hk gs6 wp6 w6 sl6 t6 q6 D Shun hS ((hb1.trans (hb5.mono hb1.size)).trans (hb6.mono (Nat.le_trans hb1.size hb5.size))) hT6 hF6
  intro gs5 wp5 w5 sl5 t5 q5 a5 hq5 hT5 hF5
  obtain ⟨d1, d8, d9, d10, d11, d12, d13, d14, d15, d16, d17, d18, d19, d20, d21, d22, d23, d24, d25, d26, d27, d28, d29, d30, d31, d32, d33, v1, v2, b2, b7, rfl, ⟨A1, c1, A3, c3, rfl, rfl, _, _, hx, hy⟩, ⟨z0, z1, s0, s1, hne, f0, f1, hb2⟩, hfam, hb5⟩ := hq5
  have hRd : RdSt b2 b7 (.slice A1 n c1) (.slice A3 n2 c3) wp5 := ⟨z0, z1, s0, s1, hne, f0, f1⟩
  have hE5 := hE1.bel hb5
  have hb2' : wp.heap.size ≤ b2 := Nat.le_trans hb1.size hb2
  clear z0 z1 s0 s1 f0 f1
  have hfam2 := hfam
  simp only [Bool.and_eq_true, decide_eq_true_eq] at hfam2
  have hn : n ≤ 20 := by have := (famB_to hfam2.1.1.1).1; have := C1.len; omega
  have hn2 : n2 ≤ 20 := by have := (famB_to hfam2.1.1.2).1; have := C2.len; omega
  refine walk_quiet sl5 hF5 hT5 (quiet29a _ _ _ _ _ _ _ _ _ _ _ _ _ _ _ _ _ _ _ _ _ _ _ _ _ _ _ _ _ _ _ _ _) ?_
  intro gs6 w6 sl6 t6 q6 hT6 hF6
  refine walk_common hS (xs := mI zss n) (ys := mI yss n2) sl6 hn hn2 (by rw [← mv_map]; exact hx) (mi_len _ _) (by rw [← mv_map]; exact hy) (mi_len _ _) hF6 hT6 ?_
  intro gs7 wp7 w7 sl7 t7 q7 D7 Sh7 C hS7 hrows hb7 hT7 hF7
  refine walk_quiet sl7 hF7 hT7 (quiet29b _ _ _ _ _ _ _ _ _ _ _ _ _ _ _ _ _ _ _ _ _ _ _ _ _ _ _ _ _ _ _ _ _ _) ?_
  intro gs8 w8 sl8 t8 q8 hT8 hF8
  refine walk_concat hS7 sl8 hrows hn hF8 hT8 ?_
  intro gs9 wp9 w9 sl9 t9 q9 v9 hown hb9 hT9 hF9
  obtain ⟨A5, c5, rfl, _, _, hrow5⟩ := owns_row hown
  refine walk_quiet sl9 hF9 hT9 (quiet29c _ _ _ _ _ _ _ _ _ _ _ _ _ _ _ _ _ _ _ _ _ _ _ _ _ _ _ _ _ _ _ _ _ _ _) ?_
  intro gs10 w10 sl10 t10 q10 hT10 hF10
  have hlen : (catR (rowsF (mI zss n) (mI yss n2) n2) n).length ≤ 1000000 := by
    have := catR_len hrows.len n (Nat.le_refl _)
    omega
  refine walk_contains hS7 sl10 hrow5 hlen hF10 hT10 ?_
  intro gs11 wp11 w11 sl11 t11 q11 hb11 hT11 hF11
  have hmeet := meet_law C1.len C2.len hfam2.1.1.1 hfam2.1.1.2
  have hsb : safeB zss yss n n2 = !(hasZ (catR (rowsF (mI zss n) (mI yss n2) n2) n) (catR (rowsF (mI zss n) (mI yss n2) n2) n).length) := by
    rw [← hmeet]
    unfold safeB meetB
    rw [hfam, hfam2.1.1.1, hfam2.1.1.2]
    rfl
  have hb7' : Bel wp5.heap.size wp5 wp11 := (hb7.trans (hb9.mono hb7.size)).trans (hb11.mono (Nat.le_trans hb7.size hb9.size))
  have hRd11 := hRd.bel hb7'
  have hE11 := hE5.bel hb7'
  have hbe : Bel wp.heap.size wp wp11 := (hb1.trans (hb5.mono hb1.size)).trans (hb7'.mono (Nat.le_trans hb1.size hb5.size))
  generalize hasZ (catR (rowsF (mI zss n) (mI yss n2) n2) n) (catR (rowsF (mI zss n) (mI yss n2) n2) n).length = z at hF11 hsb
  refine walk_quiet sl11 hF11 hT11 (quiet29d _ _ _ _ _ _ _ _ _ _ _ _ _ _ _ _ _ _ _ _ _ _ _ _ _ _ _ _ _ _ _ _ _ _ _ _) ?_
  intro gs12 w12 sl12 t12 q12 hT12 hF12
  cases z
  · -- safe
    refine walk_quiet sl12 hF12 hT12 (quiet29e _ _ _ _ _ _ _ _ _ _ _ _ _ _ _ _ _ _ _ _ _ _ _ _ _ _ _ _ _ _ _ _ _ _ _) ?_
    intro gs13 w13 sl13 t13 q13 hT13 hF13
    refine walk_lastB hS7 (Qr := fun w0 => QE29 .nilIface wp.heap.size w0) (B := wp.heap.size) (by kernel_rfl) hT.size rfl plainR29 (fun a w T d h => QE29.tp a w T d h) (fun a w h => by obtain ⟨_, _, _, _, _, _, _, _, _, _, _, _, hb⟩ := h; exact hb)
      (fun T => wp_mono (readF A n c A2 n2 c2 _ _ _ _ _ _ _ _ _ _ _ _ _ _ _ _ _ _ _ _ _ _ _ _ _ _ _ _ _ A1 c1 A3 c3 b2 b7 wp.heap.size (tp wp11 T 0) (hRd11.tp T 0) hb2') (fun e a w h => h.imp (fun h => h)
        (fun ⟨h0, b2, X, nx, cx, Y, ny, cy, h1, h2, h3, h4, h5, h6⟩ => ⟨h0, b2, X, nx, cx, Y, ny, cy, h1, h2, h3, h4, h5, bel_base h6⟩))) sl13 hF13 hT13 ?_
    intro gs14 wp14 w14 sl14 t14 q14 a14 todo14 hq14 hT14 hF14
    have hb14 : Bel wp.heap.size wp11 wp14 := by obtain ⟨_, _, _, _, _, _, _, _, _, _, _, _, hb⟩ := hq14; exact hb
    have hE14 : EV wp14 a0 a1 := hE.bel (hbe.trans hb14)
    refine cs_back hS7 sl14 hE14 (fun w h => safe_nil w h) hq14 hF14 hT14 ?_
    intro gs15 wp15 w15 sl15 t15 q15 hb15 hT15 hF15
    have hr : safeB zss yss n n2 = true := by rw [hsb]; rfl
    rw [← hr] at hF15
    exact hk gs15 wp15 w15 sl15 t15 q15 D7 Sh7 hS7 ((hbe.trans hb14).trans (hb15.mono (Nat.le_trans hbe.size hb14.size))) hT15 hF15
  · -- unsafe
    refine walk_lastB hS7 (Qr := fun w0 => QE29 (.iface 143 (.pointer (some a1))) wp.heap.size w0) (B := wp.heap.size) (by kernel_rfl) hT.size rfl plainK29 (fun a w T d h => QE29.tp a w T d h) (fun a w h => by obtain ⟨_, _, _, _, _, _, _, _, _, _, _, _, hb⟩ := h; exact hb)
      (fun T => wp_mono (readT A n c A2 n2 c2 _ _ _ _ _ _ _ _ _ _ _ _ _ _ _ _ _ _ _ _ _ _ _ _ _ _ _ _ _ A1 c1 A3 c3 b2 b7 wp.heap.size (tp wp11 T 0) a0 a1 (hE11.tp T 0) (hRd11.tp T 0) (by omega) hb2') (fun e a w h => h.imp (fun h => h)
        (fun ⟨h0, b2, X, nx, cx, Y, ny, cy, h1, h2, h3, h4, h5, h6⟩ => ⟨h0, b2, X, nx, cx, Y, ny, cy, h1, h2, h3, h4, h5, bel_base h6⟩))) sl12 hF12 hT12 ?_
    intro gs14 wp14 w14 sl14 t14 q14 a14 todo14 hq14 hT14 hF14
    have hb14 : Bel wp.heap.size wp11 wp14 := by obtain ⟨_, _, _, _, _, _, _, _, _, _, _, _, hb⟩ := hq14; exact hb
    have hE14 : EV wp14 a0 a1 := hE.bel (hbe.trans hb14)
    refine cs_back hS7 sl14 hE14 (fun w h => safe_unsafe w h) hq14 hF14 hT14 ?_
    intro gs15 wp15 w15 sl15 t15 q15 hb15 hT15 hF15
    have hr : safeB zss yss n n2 = false := by rw [hsb]; rfl
    rw [← hr] at hF15
    exact hk gs15 wp15 w15 sl15 t15 q15 D7 Sh7 hS7 ((hbe.trans hb14).trans (hb15.mono (Nat.le_trans hbe.size hb14.size))) hT15 hF15
end
end Go.Proofs.YtafhpbghogdipaaGreatDoor

/- impl.Intersects, from its call to its return, in company. -/
namespace Go.Proofs.YtafhpbghogdipaaGreatDoor
open Go.Conc Go.ConcN Go.RowKit Go.Conc.Lib Go.ConcR.Gen Go.ConcN.Gen
open Go.ConcR (DC0)
set_option maxHeartbeats 8000000
set_option maxRecDepth 100000
set_option linter.unusedVariables false
set_option linter.unusedSimpArgs false

noncomputable def Z7 : Code := tailN 1 (bodyOf 7)
section
variable (A : Option Addr) (n c : Nat) (zss : List (List Int)) (A2 : Option Addr) (n2 c2 : Nat) (yss : List (List Int))
/-- impl.Intersects stands ahead of the call. -/
def QC (w0 : World) (a : Act) (w : World) : Prop :=
  ∃ (v1 v2 t8 t9 t10 t11 t12 t13 t14 : Value), a = ⟨#[.slice A n c, .slice A2 n2 c2, undef, undef, .bool false, v1, v2, .bool (famB zss && famB yss), t8, t9, t10, t11, t12, t13, t14, undef, undef, undef, undef, undef, undef, undef, undef, undef], []⟩ ∧
    Bel w0.heap.size w0 w ∧
    ((famB zss && famB yss) = true → ∃ A1 c1 A2 c2, v1 = .slice A1 n c1 ∧ v2 = .slice A2 n2 c2 ∧ n ≤ c1 ∧ n2 ≤ c2 ∧ Row w w.heap.size A1 (mV (mAt zss) n) ∧ Row w w.heap.size A2 (mV (mAt yss) n2))
theorem QC.tp {w0 : World} (a : Act) (w : World) (T : Nat → Question → Nat) (d : Nat) (h : QC A n c zss A2 n2 c2 yss w0 a w) : QC A n c zss A2 n2 c2 yss w0 a (tp w T d) := by
  obtain ⟨v1, v2, t8, t9, t10, t11, t12, t13, t14, e, h1, h2⟩ := h
  exact ⟨v1, v2, t8, t9, t10, t11, t12, t13, t14, e, h1.tp T d, h2⟩
end
theorem implC (A : Option Addr) (n c : Nat) (zss : List (List Int)) (A2 : Option Addr) (n2 c2 : Nat) (yss : List (List Int)) (w : World) (h1 : AM w A n c zss) (h2 : AM w A2 n2 c2 yss) :
    (headN 1 (bodyOf 7)).wp Tryz.prog (QQ (QC A n c zss A2 n2 c2 yss w) (fun _ _ => False)) ⟨#[.slice A n c, .slice A2 n2 c2] ++ Array.replicate (24 - 2) undef, []⟩ w := by
  obtain ⟨Q, hQ⟩ : ∃ Q, Q = QQ (QC A n c zss A2 n2 c2 yss w) (fun _ _ => False) := ⟨_, rfl⟩
  rw [← hQ]
  have HQ := Lib.hid hQ
  clear hQ
  have HC := Lib.hid (readFamilies_any A n c zss A2 n2 c2 yss w h1.mat h1.ok h2.mat h2.ok)
  simp only [bodyOf, Tryz.func7, Tryz.f7, headN, Option.bind_some, Option.getD_some, Array.replicate, List.replicate, List.append_toArray, List.cons_append, List.nil_append, Nat.reduceSub]
  go_wp2_with fail
  refine HC.out.mono ?_
  rintro e w1 ⟨hb, v1, v2, rfl, hr⟩
  have HB := Lib.hid hb
  have HR := Lib.hid hr
  clear hb hr
  go_wp2
  rw [HQ.out]
  exact .inl ⟨rfl, v1, v2, _, _, _, _, _, _, _, rfl, Bel.of' HB.out, HR.out⟩

/-- impl.Intersects waits: for common; for Concat; for Contains. -/
noncomputable def W7 (x y v1 v2 t8 t9 t10 t11 t12 t13 t14 r1 r2 : Value) (l : List Nat) : Frame := (base 7).at ⟨#[x, y, undef, undef, .bool false, v1, v2, .bool true, t8, t9, t10, t11, t12, t13, t14, .bool true, .bool true, v1, v2, r1, r2, undef, undef, undef], []⟩ (.inRegion (opsOf Z7) l :: .code (restOf Z7) :: [])
set_option maxRecDepth 100000 in
theorem quietD (x y v1 v2 t8 t9 t10 t11 t12 t13 t14 : Value) (cs : List Frame) : ∀ w, True → Goes Tryz.prog true AtRel DC0 (fun g1 _ => g1 = G ((base 17).at ⟨#[v1, v2] ++ Array.replicate (24 - 2) undef, []⟩ [.code (bodyOf 17)]) (W7 x y v1 v2 t8 t9 t10 t11 t12 t13 t14 undef undef [4, 5, 6, 7, 8, 9] :: cs)) 8
    (G ((base 7).at ⟨#[x, y, undef, undef, .bool false, v1, v2, .bool true, t8, t9, t10, t11, t12, t13, t14, undef, undef, undef, undef, undef, undef, undef, undef, undef], []⟩ (.code Z7 :: [])) cs) w := by
  intro w hF
  unfold W7 Z7
  simp only [bodyOf, tailN, opsOf, restOf, Tryz.func7, Tryz.f7, Tryz.func17, Tryz.f17, Option.bind_some, Option.getD_some, Array.replicate, List.replicate, List.append_toArray, List.cons_append, List.nil_append, Nat.reduceSub]
  u_c stepG_seq no_rely hF
  u_reg no_rely hF
  u_op no_rely hF
  u_op no_rely hF
  u_op no_rely hF
  u_op no_rely hF
  u_call Tryz.func17 (by decide) Tryz.f17 no_rely hF
  refine Goes.stop (fun w₁ h₁ => ?_)
  rfl
set_option maxRecDepth 100000 in
theorem quietD0 (x y v1 v2 t8 t9 t10 t11 t12 t13 t14 : Value) (c : Frame) (cs : List Frame) : ∀ w, True → Goes Tryz.prog true AtRel DC0 (fun g1 _ => g1 = G (c.finish (.bool false)) cs) 16
    (G ((base 7).at ⟨#[x, y, undef, undef, .bool false, v1, v2, .bool false, t8, t9, t10, t11, t12, t13, t14, undef, undef, undef, undef, undef, undef, undef, undef, undef], []⟩ (.code Z7 :: [])) (c :: cs)) w := by
  intro w hF
  unfold Z7
  simp only [bodyOf, tailN, Tryz.func7, Tryz.f7, Option.bind_some, Option.getD_some]
  u_c stepG_seq no_rely hF
  u_reg no_rely hF
  u_op no_rely hF
  u_op no_rely hF
  u_skip no_rely hF
  u_skip no_rely hF
  u_skip no_rely hF
  u_skip no_rely hF
  u_skip no_rely hF
  u_skip no_rely hF
  u_op no_rely hF
  u_op no_rely hF
  u_c stepG_region_end no_rely hF
  u_c stepG_ret' no_rely hF
  u_in no_rely hF
  rw [stepG_leave rfl rfl Tryz.func7 (results_tmp rfl _ _ _) (events_results_tmp rfl _ _)]
  simp only [goes_go]
  refine ⟨by u_nil, ?_⟩
  refine Goes.stop (fun w₁ h₁ => ?_)
  rfl
set_option maxRecDepth 100000 in
theorem quietG1 (x y v1 v2 t8 t9 t10 t11 t12 t13 t14 r : Value) (cs : List Frame) : ∀ w, True → Goes Tryz.prog true AtRel DC0 (fun g1 _ => g1 = G (Frame.enter Tryz.prog 16 #[r] .normal) (W7 x y v1 v2 t8 t9 t10 t11 t12 t13 t14 r undef [5, 6, 7, 8, 9] :: cs)) 3
    (G ((W7 x y v1 v2 t8 t9 t10 t11 t12 t13 t14 undef undef [4, 5, 6, 7, 8, 9]).finish r) cs) w := by
  intro w hF
  rw [enter_base (P := Tryz.prog) #[r] Tryz.func16 rfl]
  unfold W7 Z7
  simp only [bodyOf, tailN, opsOf, restOf, Tryz.func7, Tryz.f7, Option.bind_some, Option.getD_some]
  show Goes _ _ _ _ _ _ (G ((base 7).at ⟨#[x, y, undef, undef, .bool false, v1, v2, .bool true, t8, t9, t10, t11, t12, t13, t14, .bool true, .bool true, v1, v2, r, undef, undef, undef, undef], []⟩ (.inRegion _ [5, 6, 7, 8, 9] :: _)) cs) w
  u_call Tryz.func16 (by decide) Tryz.f16 no_rely hF
  refine Goes.stop (fun w₁ h₁ => ?_)
  rfl
set_option maxRecDepth 100000 in
theorem quietG2 (x y v1 v2 t8 t9 t10 t11 t12 t13 t14 r r2 : Value) (cs : List Frame) : ∀ w, True → Goes Tryz.prog true AtRel DC0 (fun g1 _ => g1 = G (Frame.enter Tryz.prog 15 #[r2, .int .u64 0] .normal) (W7 x y v1 v2 t8 t9 t10 t11 t12 t13 t14 r r2 [6, 7, 8, 9] :: cs)) 3
    (G ((W7 x y v1 v2 t8 t9 t10 t11 t12 t13 t14 r undef [5, 6, 7, 8, 9]).finish r2) cs) w := by
  intro w hF
  rw [enter_base (P := Tryz.prog) #[r2, .int .u64 0] Tryz.func15 rfl]
  unfold W7 Z7
  simp only [bodyOf, tailN, opsOf, restOf, Tryz.func7, Tryz.f7, Option.bind_some, Option.getD_some]
  show Goes _ _ _ _ _ _ (G ((base 7).at ⟨#[x, y, undef, undef, .bool false, v1, v2, .bool true, t8, t9, t10, t11, t12, t13, t14, .bool true, .bool true, v1, v2, r, r2, undef, undef, undef], []⟩ (.inRegion _ [6, 7, 8, 9] :: _)) cs) w
  u_call Tryz.func15 (by decide) Tryz.f15 no_rely hF
  refine Goes.stop (fun w₁ h₁ => ?_)
  rfl
set_option maxRecDepth 100000 in
theorem quietG3 (x y v1 v2 t8 t9 t10 t11 t12 t13 t14 r r2 : Value) (z : Bool) (c : Frame) (cs : List Frame) : ∀ w, True → Goes Tryz.prog true AtRel DC0 (fun g1 _ => g1 = G (c.finish (.bool !z)) cs) 8
    (G ((W7 x y v1 v2 t8 t9 t10 t11 t12 t13 t14 r r2 [6, 7, 8, 9]).finish (.bool z)) (c :: cs)) w := by
  intro w hF
  unfold W7 Z7
  simp only [bodyOf, tailN, opsOf, restOf, Tryz.func7, Tryz.f7, Option.bind_some, Option.getD_some]
  show Goes _ _ _ _ _ _ (G ((base 7).at ⟨#[x, y, undef, undef, .bool false, v1, v2, .bool true, t8, t9, t10, t11, t12, t13, t14, .bool true, .bool true, v1, v2, r, r2, .bool z, undef, undef], []⟩ (.inRegion _ [7, 8, 9] :: _)) (c :: cs)) w
  u_op no_rely hF
  u_op no_rely hF
  u_op no_rely hF
  u_c stepG_region_end no_rely hF
  u_c stepG_ret' no_rely hF
  u_in no_rely hF
  rw [stepG_leave rfl rfl Tryz.func7 (results_tmp rfl _ _ _) (events_results_tmp rfl _ _)]
  simp only [goes_go]
  refine ⟨by u_nil, ?_⟩
  refine Goes.stop (fun w₁ h₁ => ?_)
  rfl

theorem plain7 : plainCode SP (headN 1 (bodyOf 7)) = true := by kernel_rfl
theorem graft7 : graft (headN 1 (bodyOf 7)) (tailN 1 (bodyOf 7)) = bodyOf 7 := by kernel_rfl
section
variable {Shun : Loc → Prop} {D : DS} {W : World}
/-- ████ Intersects, from its call to its return. ████ -/
theorem is_run (hS : ∀ l, Shun l → ∃ a, l = .cell a ∧ D a.block) {A : Option Addr} {n c : Nat} {zss : List (List Int)} {A2 : Option Addr} {n2 c2 : Nat} {yss : List (List Int)} {ca : Frame} {cs : List Frame} {wp : World} {gs : Array Goroutine} {w : World} {t : Trace} {q : Nat → Nat} (sl : Option (Nat × Nat)) (C1 : AM wp A n c zss) (C2 : AM wp A2 n2 c2 yss)
    (hF : Fr Tryz.prog Shun D (G ((base 7).at ⟨#[.slice A n c, .slice A2 n2 c2] ++ Array.replicate (24 - 2) undef, []⟩ [.code (bodyOf 7)]) (ca :: cs)) wp gs w t q) (hT : Truth W w wp)
    (hk : ∀ (gs' : Array Goroutine) (wp' w' : World) (sl' : Option (Nat × Nat)) (t' : Trace) (q' : Nat → Nat) (D' : DS) (Shun' : Loc → Prop), (∀ l, Shun' l → ∃ a, l = .cell a ∧ D' a.block) → Bel wp.heap.size wp wp' → Truth W w' wp' →
      Fr Tryz.prog Shun' D' (G (ca.finish (.bool (meetB zss yss n n2))) cs) wp' gs' w' t' q' → Ends W gs' w' sl' t') : Ends W gs w sl t := by
  rw [← graft7] at hF
  refine walk_code hS (Z := Z7) (Qn := fun w0 => QC A n c zss A2 n2 c2 yss w0) (Qr := fun _ _ _ => False) (by kernel_rfl) rfl plain7 (fun a w T d h => QC.tp _ _ _ _ _ _ _ _ a w T d h) (fun _ _ _ _ h => h.elim)
    (fun a w h => by obtain ⟨_, _, _, _, _, _, _, _, _, _, hb, _⟩ := h; exact hb) (fun _ _ h => h.elim)
    (fun T => wp_mono (implC A n c zss A2 n2 c2 yss (tp wp T 0) (am_tp C1) (am_tp C2)) (fun e a w h => h.imp (fun ⟨h0, v1, v2, t8, t9, t10, t11, t12, t13, t14, h1, h2, h3⟩ => ⟨h0, v1, v2, t8, t9, t10, t11, t12, t13, t14, h1, bel_base h2, h3⟩) (fun h => h))) sl hF hT ?_ (fun _ _ _ _ _ _ _ _ h => h.elim)
  intro gs1 wp1 w1 sl1 t1 q1 a1 hq1 hT1 hF1
  obtain ⟨v1, v2, t8, t9, t10, t11, t12, t13, t14, rfl, hb1, hr⟩ := hq1
  cases hp : (famB zss && famB yss)
  · rw [hp] at hF1
    refine walk_quiet sl1 hF1 hT1 (quietD0 _ _ _ _ _ _ _ _ _ _ _ _ _) ?_
    intro gs2 w2 sl2 t2 q2 hT2 hF2
    have hm : meetB zss yss n n2 = false := by unfold meetB; rw [hp]; rfl
    rw [← hm] at hF2
    exact hk gs2 wp1 w2 sl2 t2 q2 D Shun hS hb1 hT2 hF2
  obtain ⟨A1, c1, A3, c3, rfl, rfl, _, _, hx, hy⟩ := hr hp
  rw [hp] at hF1
  simp only [Bool.and_eq_true] at hp
  have hn : n ≤ 20 := by have := (famB_to hp.1).1; have := C1.len; omega
  have hn2 : n2 ≤ 20 := by have := (famB_to hp.2).1; have := C2.len; omega
  refine walk_quiet sl1 hF1 hT1 (quietD _ _ _ _ _ _ _ _ _ _ _ _) ?_
  intro gs2 w2 sl2 t2 q2 hT2 hF2
  refine walk_common hS (xs := mI zss n) (ys := mI yss n2) sl2 hn hn2 (by rw [← mv_map]; exact hx) (mi_len _ _) (by rw [← mv_map]; exact hy) (mi_len _ _) hF2 hT2 ?_
  intro gs3 wp3 w3 sl3 t3 q3 D3 Sh3 C hS3 hrows hb3 hT3 hF3
  refine walk_quiet sl3 hF3 hT3 (quietG1 _ _ _ _ _ _ _ _ _ _ _ _ _) ?_
  intro gs4 w4 sl4 t4 q4 hT4 hF4
  refine walk_concat hS3 sl4 hrows hn hF4 hT4 ?_
  intro gs5 wp5 w5 sl5 t5 q5 v5 hown hb5 hT5 hF5
  obtain ⟨A5, c5, rfl, _, _, hrow5⟩ := owns_row hown
  refine walk_quiet sl5 hF5 hT5 (quietG2 _ _ _ _ _ _ _ _ _ _ _ _ _ _) ?_
  intro gs6 w6 sl6 t6 q6 hT6 hF6
  have hlen : (catR (rowsF (mI zss n) (mI yss n2) n2) n).length ≤ 1000000 := by
    have := catR_len hrows.len n (Nat.le_refl _)
    omega
  refine walk_contains hS3 sl6 hrow5 hlen hF6 hT6 ?_
  intro gs7 wp7 w7 sl7 t7 q7 hb7 hT7 hF7
  have hmeet := meet_law C1.len C2.len hp.1 hp.2
  generalize hasZ (catR (rowsF (mI zss n) (mI yss n2) n2) n) (catR (rowsF (mI zss n) (mI yss n2) n2) n).length = z at hF7 hmeet
  refine walk_quiet sl7 hF7 hT7 (quietG3 _ _ _ _ _ _ _ _ _ _ _ _ _ z _ _) ?_
  intro gs8 w8 sl8 t8' q8 hT8 hF8
  rw [← hmeet] at hF8
  have h13 := hb1.trans (hb3.mono hb1.size)
  have h15 := h13.trans (hb5.mono h13.size)
  exact hk gs8 wp7 w8 sl8 t8' q8 D3 Sh3 hS3 (h15.trans (hb7.mono h15.size)) hT8 hF8
end
end Go.Proofs.YtafhpbghogdipaaGreatDoor
