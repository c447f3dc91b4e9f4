/- Cfg1 IsE IsS EvE (merge.py). -/
import Derived.Test.YtafhpbghogdipaaDoorIn4
import Derived.LaidEql
import Derived.Stop.Asserts
import Derived.RowKitTokens
import Derived.LaidMore
import Derived.Stop.LaidErr
import Derived.Stop.LaidTwo
import Derived.Stop.Joined
/- Configurations: opened; weighed, copied, compared; the reference's ConfigSafe. -/
namespace Go.Proofs.YtafhpbghogdipaaDoor
open Go.ChangeShapes Go.WideShapes Go.ChangeAt Go.RowKit Go.Deep
set_option maxHeartbeats 4000000
set_option maxRecDepth 100000
set_option linter.unusedVariables false

theorem mat_trod {H : Type} {enc : TypeId × Value → H} {P : Program} {w : World} {base : Nat} {held : Bool} {fuel : Nat} {t e q : TypeId} {cs : List Value} {x : DataW H × List MemPlace}
    (ht : P.underlying t = some (.slice e)) (he : P.underlying e = some (.slice q)) (hq : P.underlying q = some (.int .i64)) (hce : P.cellsOf e = 1) (hcq : P.cellsOf q = 1) (hf : DataW.trod enc P w base (fun _ => true) held fuel t cs = some x) :
    ∃ (A : Option Addr) (n c : Nat) (zss : List (List Int)), cs = [.slice A n c] ∧ Mat w w.heap.size A n zss ∧ n ≤ c ∧ c ≤ maxLen := by
  rcases open_slice ht hf with ⟨hcs, _⟩ | ⟨a, n, c, m, f2, D, Pl, hcs, _, hl, hm, hmm, _, hi⟩
  · exact ⟨_, _, _, [], hcs, ⟨rfl, fun _ => rfl, fun k hk => absurd hk (by omega), fun k hk => absurd hk (by omega)⟩, Nat.le_refl _, Nat.zero_le _⟩
  · have hz : ∀ i, i < n → ∃ zs : List Int, ∃ (C : Option Addr) (c1 : Nat), w.cell? (a.add i) = some (.slice C zs.length c1) ∧ Ints .i64 w C zs.length c1 zs := by
      intro i hin
      obtain ⟨cs', hc', ht'⟩ := hi i (by rw [hmm]; split <;> omega)
      obtain ⟨C, n1, c1, zs, rfl, hI⟩ := ints_trod he hq hcq ht'
      obtain ⟨_, _, hat⟩ := World.cells?_some hc'
      have h0 := hat 0 (by rw [hce]; omega)
      rw [hce, Nat.mul_one] at h0
      have e0 : (a.add i).add 0 = a.add i := by simp [Addr.add]
      rw [e0] at h0
      have hl := hI.len
      subst hl
      exact ⟨zs, C, c1, by simpa using h0, hI⟩
    obtain ⟨zss, hzl, hP⟩ := list_of n hz
    have hat : ∀ k, k < n → zss[k]? = some (zss.getD k []) := by
      intro k hk
      rw [List.getD_eq_getElem?_getD, List.getElem?_eq_getElem (by omega)]
      rfl
    refine ⟨_, _, _, zss, hcs, ⟨hzl, ?_, ?_, ?_⟩, hl, hm⟩
    · intro e; cases e
    · intro k hk
      obtain ⟨C, c1, hc1, hI⟩ := hP k _ (hat k hk)
      obtain ⟨b, off, spot⟩ := a
      have hspot : spot = none := by
        obtain ⟨C0, c0, hc0, _⟩ := hP 0 _ (hat 0 (by omega))
        simpa [Addr.add] using World.cell?_spot hc0
      subst hspot
      have hb := World.block_lt_of_cell? _ _ hc1
      rw [addr_add'] at hb hc1
      refine ⟨b, off, C, c1, rfl, hb, hc1, hI.cap, hI.max, hI.row, ?_⟩
      rintro rfl
      rcases Nat.eq_zero_or_pos (zss.getD k []).length with h0 | h0
      · exact List.eq_nil_of_length_eq_zero h0
      · obtain ⟨b2, o2, e2, _⟩ := hI.row (by intro e; rw [List.map_eq_nil_iff] at e; rw [e] at h0; simp at h0)
        cases e2
    · intro k hk
      obtain ⟨C, c1, _, hI⟩ := hP k _ (hat k hk)
      exact hI.fit
theorem config_of {H : Type} {enc : TypeId × Value → H} {P : Program} {w : World} {base b0 : Nat} {r : Reach} {held : Bool} {t m e q : TypeId} {f0 f1 : Field} {v : Value} {d : DataW H} {ps : List MemPlace}
    (hs : P.underlying t = some (.struct #[f0, f1])) (hone : oneCellFields P #[f0, f1] = true) (hC : P.cellsOf t = 2) (h0 : f0.type = m) (h1 : f1.type = m) (hm : P.underlying m = some (.slice e)) (he : P.underlying e = some (.slice q)) (hq : P.underlying q = some (.int .i64)) (hce : P.cellsOf e = 1) (hcq : P.cellsOf q = 1)
    (hv : Value.okWide P w r b0 t v) (h : DataW.Trod enc P w base (fun _ => true) held t v d ps) :
    ∃ (A : Option Addr) (n c : Nat) (zss : List (List Int)) (B : Option Addr) (k l : Nat) (yss : List (List Int)), v = .agg #[.slice A n c, .slice B k l] ∧ (Mat w w.heap.size A n zss ∧ n ≤ c ∧ c ≤ maxLen) ∧ (Mat w w.heap.size B k yss ∧ k ≤ l ∧ l ≤ maxLen) := by
  obtain ⟨v0, v1, y0, y1, n, rfl, _, _, hy0, hy1⟩ := Go.Joins.open_agg2 hs hone hC hv h
  rw [h0] at hy0
  rw [h1] at hy1
  obtain ⟨A, n, c, zss, e0, g0⟩ := mat_trod hm he hq hce hcq hy0
  obtain ⟨B, k, l, yss, e1, g1⟩ := mat_trod hm he hq hce hcq hy1
  simp at e0 e1
  subst e0 e1
  exact ⟨A, n, c, zss, B, k, l, yss, rfl, g0, g1⟩

theorem ArgM.to {w w' : World} {A : Option Addr} {n c : Nat} {zss : List (List Int)} (h : ArgM w A n c zss) (hb : Below w.heap.size w w') : ArgM w' A n c zss := ⟨(h.1.below hb).more hb.size, h.2⟩
theorem CpM.set {w : World} {g n : Nat} {zss : List (List Int)} (h : CpM w g n zss) {R o : Nat} (hR : R < g) (v : Value) : CpM (w.setCell ⟨R, o, none⟩ v) g n zss := by
  obtain ⟨⟨xs, h1, h2, h3, h4⟩, hl, hf, hk⟩ := h
  have keep : ∀ b, g ≤ b → (w.setCell ⟨R, o, none⟩ v).heap[b]? = w.heap[b]? := fun b hb => Below.heap_setCell w _ _ b (by show b ≠ R; omega)
  refine ⟨⟨xs, (keep g (Nat.le_refl _)).trans h1, h2, fun j hj => ?_, h4⟩, hl, hf, hk⟩
  obtain ⟨b, e1, e2, e3⟩ := h3 j hj
  exact ⟨b, e1, e2, (keep b (by omega)).trans e3⟩
section
variable (A : Option Addr) (n c : Nat) (zss : List (List Int)) (A2 : Option Addr) (n2 c2 : Nat) (yss : List (List Int))
theorem szConfig_any (l : Int) (w : World) (hM : ArgM w A n c zss) (hN : ArgM w A2 n2 c2 yss) (h0 : 0 ≤ l) (h1 : l ≤ 1048576) :
    Calls Tryd.prog 14 #[.agg #[.slice A n c, .slice A2 n2 c2], .int .i64 l] w fun e w' => ∃ r : Int, e = .returned (.int .i64 r) ∧ Below w.heap.size w w' ∧ (0 ≤ r → SzOk zss n ∧ SzOk yss n2) := by
  have HM := Lib.hid hM
  have HN := Lib.hid hN
  clear hM hN
  go_enter Tryd.func14, Tryd.ntmps14
  go_wp2_with fail
  refine (szSS (HM.out.to (by (repeat (first | (with_reducible exact Below.refl _ _) | (with_reducible assumption) | (with_reducible refine below_drewN ?_ _) | (with_reducible refine Below.drew ?_) | (with_reducible refine Below.alloc ?_ (by (first | omega | (show _ < _; omega) | (simp; omega) | (simp; done))) _) | (with_reducible refine Below.setCell ?_ (by (first | omega | (show _ < _; omega) | (simp; omega) | (simp; done))) _) | (with_reducible refine Below.trans ?_ (Below.mono (by with_reducible assumption) (by (first | omega | (show _ < _; omega) | (simp; omega) | (simp; done))))) | (with_reducible refine below_grown ?_ (by with_reducible assumption) (by (first | omega | (show _ < _; omega) | (simp; omega) | (simp; done))) (by (first | omega | (show _ < _; omega) | (simp; omega) | (simp; done)))))))) h0 h1).mono ?_
  rintro e wz ⟨r, rfl, hwz, hr1, hz⟩
  subst hwz
  by_cases hr : r < 0
  · go_wp2_with fail
    go_ret
    exact ⟨_, rfl, by (repeat (first | (with_reducible exact Below.refl _ _) | (with_reducible assumption) | (with_reducible refine below_drewN ?_ _) | (with_reducible refine Below.drew ?_) | (with_reducible refine Below.alloc ?_ (by (first | omega | (show _ < _; omega) | (simp; omega) | (simp; done))) _) | (with_reducible refine Below.setCell ?_ (by (first | omega | (show _ < _; omega) | (simp; omega) | (simp; done))) _) | (with_reducible refine Below.trans ?_ (Below.mono (by with_reducible assumption) (by (first | omega | (show _ < _; omega) | (simp; omega) | (simp; done))))) | (with_reducible refine below_grown ?_ (by with_reducible assumption) (by (first | omega | (show _ < _; omega) | (simp; omega) | (simp; done))) (by (first | omega | (show _ < _; omega) | (simp; omega) | (simp; done)))))), fun h => absurd h (by omega)⟩
  replace hz := hz (by omega)
  have HZ := Lib.hid hz
  clear hz
  go_wp2_with fail
  refine (szSS (HN.out.to (by (repeat (first | (with_reducible exact Below.refl _ _) | (with_reducible assumption) | (with_reducible refine below_drewN ?_ _) | (with_reducible refine Below.drew ?_) | (with_reducible refine Below.alloc ?_ (by (first | omega | (show _ < _; omega) | (simp; omega) | (simp; done))) _) | (with_reducible refine Below.setCell ?_ (by (first | omega | (show _ < _; omega) | (simp; omega) | (simp; done))) _) | (with_reducible refine Below.trans ?_ (Below.mono (by with_reducible assumption) (by (first | omega | (show _ < _; omega) | (simp; omega) | (simp; done))))) | (with_reducible refine below_grown ?_ (by with_reducible assumption) (by (first | omega | (show _ < _; omega) | (simp; omega) | (simp; done))) (by (first | omega | (show _ < _; omega) | (simp; omega) | (simp; done)))))))) (by omega) (by omega)).mono ?_
  rintro e wz ⟨r2, rfl, hwz, -, hz2⟩
  subst hwz
  have HZ2 := Lib.hid hz2
  clear hz2
  by_cases hr2 : r2 < 0
  · go_wp2_with fail
    go_ret
    exact ⟨_, rfl, by (repeat (first | (with_reducible exact Below.refl _ _) | (with_reducible assumption) | (with_reducible refine below_drewN ?_ _) | (with_reducible refine Below.drew ?_) | (with_reducible refine Below.alloc ?_ (by (first | omega | (show _ < _; omega) | (simp; omega) | (simp; done))) _) | (with_reducible refine Below.setCell ?_ (by (first | omega | (show _ < _; omega) | (simp; omega) | (simp; done))) _) | (with_reducible refine Below.trans ?_ (Below.mono (by with_reducible assumption) (by (first | omega | (show _ < _; omega) | (simp; omega) | (simp; done))))) | (with_reducible refine below_grown ?_ (by with_reducible assumption) (by (first | omega | (show _ < _; omega) | (simp; omega) | (simp; done))) (by (first | omega | (show _ < _; omega) | (simp; omega) | (simp; done)))))), fun h => absurd h (by omega)⟩
  · go_wp2_with fail
    go_ret
    exact ⟨_, rfl, by (repeat (first | (with_reducible exact Below.refl _ _) | (with_reducible assumption) | (with_reducible refine below_drewN ?_ _) | (with_reducible refine Below.drew ?_) | (with_reducible refine Below.alloc ?_ (by (first | omega | (show _ < _; omega) | (simp; omega) | (simp; done))) _) | (with_reducible refine Below.setCell ?_ (by (first | omega | (show _ < _; omega) | (simp; omega) | (simp; done))) _) | (with_reducible refine Below.trans ?_ (Below.mono (by with_reducible assumption) (by (first | omega | (show _ < _; omega) | (simp; omega) | (simp; done))))) | (with_reducible refine below_grown ?_ (by with_reducible assumption) (by (first | omega | (show _ < _; omega) | (simp; omega) | (simp; done))) (by (first | omega | (show _ < _; omega) | (simp; omega) | (simp; done)))))), fun h => ⟨HZ.out, HZ2.out (by omega)⟩⟩
/-- A configuration of the call's own making. -/
def OwnCf (w : World) (v : Value) : Prop := ∃ g0 g1, v = .agg #[.slice (some ⟨g0, 0, none⟩) n n, .slice (some ⟨g1, 0, none⟩) n2 n2] ∧ CpM w g0 n zss ∧ CpM w g1 n2 yss
theorem toConfig_any (w : World) (hM : ArgM w A n c zss) (hN : ArgM w A2 n2 c2 yss) (hz : SzOk zss n) (hz2 : SzOk yss n2) :
    Calls Tryd.prog 16 #[.agg #[.slice A n c, .slice A2 n2 c2]] w fun e w' => ∃ v, e = .returned v ∧ OwnCf n zss n2 yss w' v ∧ Below w.heap.size w w' := by
  have HM := Lib.hid hM
  have HN := Lib.hid hN
  clear hM hN
  go_enter Tryd.func16, Tryd.ntmps16
  go_wp2_with fail
  refine (copySS (HM.out.to (by (repeat (first | (with_reducible exact Below.refl _ _) | (with_reducible assumption) | (with_reducible refine below_drewN ?_ _) | (with_reducible refine Below.drew ?_) | (with_reducible refine Below.alloc ?_ (by (first | omega | (show _ < _; omega) | (simp; omega) | (simp; done))) _) | (with_reducible refine Below.setCell ?_ (by (first | omega | (show _ < _; omega) | (simp; omega) | (simp; done))) _) | (with_reducible refine Below.trans ?_ (Below.mono (by with_reducible assumption) (by (first | omega | (show _ < _; omega) | (simp; omega) | (simp; done))))) | (with_reducible refine below_grown ?_ (by with_reducible assumption) (by (first | omega | (show _ < _; omega) | (simp; omega) | (simp; done))) (by (first | omega | (show _ < _; omega) | (simp; omega) | (simp; done)))))))) hz (Below.refl _ _)).mono ?_
  rintro e w1 ⟨rfl, C1, -, hb_w1⟩
  have hsz_w1 := hb_w1.size
  simp at hsz_w1
  obtain ⟨hc_w1, hf_w1⟩ := bcell hb_w1
  have k0 := fun o => hc_w1 w.heap.size o (by simp; omega)
  have k1 := fun o => hc_w1 (w.heap.size + 1) o (by simp)
  have k2 := fun o => hc_w1 (w.heap.size + 1 + 1) o (by simp)
  have j0 := fun o => hf_w1 w.heap.size o (by simp; omega)
  have j1 := fun o => hf_w1 (w.heap.size + 1) o (by simp)
  have j2 := fun o => hf_w1 (w.heap.size + 1 + 1) o (by simp)
  clear hc_w1 hf_w1
  have HC1 := Lib.hid C1
  have HB1 := Lib.hid hb_w1
  clear C1 hb_w1
  go_wp2_with fail
  refine (copySS (HN.out.to (by have HB := HB1.out; (repeat (first | (with_reducible exact Below.refl _ _) | (with_reducible assumption) | (with_reducible refine below_drewN ?_ _) | (with_reducible refine Below.drew ?_) | (with_reducible refine Below.alloc ?_ (by (first | omega | (show _ < _; omega) | (simp; omega) | (simp; done))) _) | (with_reducible refine Below.setCell ?_ (by (first | omega | (show _ < _; omega) | (simp; omega) | (simp; done))) _) | (with_reducible refine Below.trans ?_ (Below.mono (by with_reducible assumption) (by (first | omega | (show _ < _; omega) | (simp; omega) | (simp; done))))) | (with_reducible refine below_grown ?_ (by with_reducible assumption) (by (first | omega | (show _ < _; omega) | (simp; omega) | (simp; done))) (by (first | omega | (show _ < _; omega) | (simp; omega) | (simp; done)))))))) hz2 (Below.refl _ _)).mono ?_
  rintro e w2 ⟨rfl, C2, -, hb_w2⟩
  have hsz_w2 := hb_w2.size
  simp at hsz_w2
  obtain ⟨hc_w2, hf_w2⟩ := bcell hb_w2
  have l1 := fun o => hc_w2 (w.heap.size + 1) o (by simp; omega)
  have l2 := fun o => hc_w2 (w.heap.size + 1 + 1) o (by simp; omega)
  have m1 := fun o => hf_w2 (w.heap.size + 1) o (by simp; omega)
  have m2 := fun o => hf_w2 (w.heap.size + 1 + 1) o (by simp; omega)
  clear hc_w2 hf_w2
  have HC2 := Lib.hid C2
  have HB2 := Lib.hid hb_w2
  clear C2 hb_w2
  go_wp2_with fail
  refine bodyPost_ret (by simp only [results, Tryd.results16]; go_simp; try rfl) rfl ?_
  have C1 := HC1.out
  have C2 := HC2.out
  have hb1 := HB1.out
  have hb2 := HB2.out
  simp only [World.size_alloc, World.size_setCell] at C1 C2 hb1 hb2
  refine ⟨_, rfl, ⟨_, _, rfl, ?_, ?_⟩, by (repeat (first | (with_reducible exact Below.refl _ _) | (with_reducible assumption) | (with_reducible refine below_drewN ?_ _) | (with_reducible refine Below.drew ?_) | (with_reducible refine Below.alloc ?_ (by (first | omega | (show _ < _; omega) | (simp; omega) | (simp; done))) _) | (with_reducible refine Below.setCell ?_ (by (first | omega | (show _ < _; omega) | (simp; omega) | (simp; done))) _) | (with_reducible refine Below.trans ?_ (Below.mono (by with_reducible assumption) (by (first | omega | (show _ < _; omega) | (simp; omega) | (simp; done))))) | (with_reducible refine below_grown ?_ (by with_reducible assumption) (by (first | omega | (show _ < _; omega) | (simp; omega) | (simp; done))) (by (first | omega | (show _ < _; omega) | (simp; omega) | (simp; done))))))⟩
  · have C1' : CpM w2 (w.heap.size + 1 + 1 + 1) n zss := (C1.set (R := w.heap.size + 1 + 1) (o := 0) (by omega) _).below (by simpa using hb2)
    refine CpM.set (CpM.set (CpM.set C1' ?_ _) ?_ _) ?_ _ <;> omega
  · refine CpM.set (CpM.set (CpM.set C2 ?_ _) ?_ _) ?_ _ <;> omega
theorem specValid13_any (w : World) (hM : Mat w w.heap.size A n zss) (hN : Mat w w.heap.size A2 n2 yss) (hz : SzOk zss n) (hz2 : SzOk yss n2) :
    Calls Tryd.prog 27 #[.agg #[.slice A n c, .slice A2 n2 c2]] w fun e w' => e = .returned (.bool (famB zss && famB yss && decide (0 < n) && decide (0 < n2))) ∧ Below w.heap.size w w' := by
  have H1 := fun (W : World) (hb : Below w.heap.size w W) => specFamily_any A n c zss W ((hM.below hb).more hb.size) hz
  have H2 := fun (W : World) (hb : Below w.heap.size w W) => specFamily_any A2 n2 c2 yss W ((hN.below hb).more hb.size) hz2
  clear hM hN
  obtain ⟨p, hp⟩ : ∃ p, famB zss = p := ⟨_, rfl⟩
  obtain ⟨q, hq⟩ : ∃ q, famB yss = q := ⟨_, rfl⟩
  rw [hp] at H1
  rw [hq] at H2
  rw [hp, hq]
  have K1 := Lib.hid H1
  have K2 := Lib.hid H2
  clear H1 H2 hp hq hz hz2
  cases p
  · go_enter Tryd.func27, Tryd.ntmps27
    go_wp2_with fail
    refine (K1.out _ (by (repeat (first | (with_reducible exact Below.refl _ _) | (with_reducible assumption) | (with_reducible refine below_drewN ?_ _) | (with_reducible refine Below.drew ?_) | (with_reducible refine Below.alloc ?_ (by (first | omega | (show _ < _; omega) | (simp; omega) | (simp; done))) _) | (with_reducible refine Below.setCell ?_ (by (first | omega | (show _ < _; omega) | (simp; omega) | (simp; done))) _) | (with_reducible refine Below.trans ?_ (Below.mono (by with_reducible assumption) (by (first | omega | (show _ < _; omega) | (simp; omega) | (simp; done))))) | (with_reducible refine below_grown ?_ (by with_reducible assumption) (by (first | omega | (show _ < _; omega) | (simp; omega) | (simp; done))) (by (first | omega | (show _ < _; omega) | (simp; omega) | (simp; done)))))))).mono ?_
    rintro e wq ⟨rfl, m, rfl⟩
    go_wp2
    go_ret
    exact ⟨rfl, by (repeat (first | (with_reducible exact Below.refl _ _) | (with_reducible assumption) | (with_reducible refine below_drewN ?_ _) | (with_reducible refine Below.drew ?_) | (with_reducible refine Below.alloc ?_ (by (first | omega | (show _ < _; omega) | (simp; omega) | (simp; done))) _) | (with_reducible refine Below.setCell ?_ (by (first | omega | (show _ < _; omega) | (simp; omega) | (simp; done))) _) | (with_reducible refine Below.trans ?_ (Below.mono (by with_reducible assumption) (by (first | omega | (show _ < _; omega) | (simp; omega) | (simp; done))))) | (with_reducible refine below_grown ?_ (by with_reducible assumption) (by (first | omega | (show _ < _; omega) | (simp; omega) | (simp; done))) (by (first | omega | (show _ < _; omega) | (simp; omega) | (simp; done))))))⟩
  cases q
  · go_enter Tryd.func27, Tryd.ntmps27
    go_wp2_with fail
    refine (K1.out _ (by (repeat (first | (with_reducible exact Below.refl _ _) | (with_reducible assumption) | (with_reducible refine below_drewN ?_ _) | (with_reducible refine Below.drew ?_) | (with_reducible refine Below.alloc ?_ (by (first | omega | (show _ < _; omega) | (simp; omega) | (simp; done))) _) | (with_reducible refine Below.setCell ?_ (by (first | omega | (show _ < _; omega) | (simp; omega) | (simp; done))) _) | (with_reducible refine Below.trans ?_ (Below.mono (by with_reducible assumption) (by (first | omega | (show _ < _; omega) | (simp; omega) | (simp; done))))) | (with_reducible refine below_grown ?_ (by with_reducible assumption) (by (first | omega | (show _ < _; omega) | (simp; omega) | (simp; done))) (by (first | omega | (show _ < _; omega) | (simp; omega) | (simp; done)))))))).mono ?_
    rintro e wq ⟨rfl, m, rfl⟩
    go_wp2_with fail
    refine (K2.out _ (by (repeat (first | (with_reducible exact Below.refl _ _) | (with_reducible assumption) | (with_reducible refine below_drewN ?_ _) | (with_reducible refine Below.drew ?_) | (with_reducible refine Below.alloc ?_ (by (first | omega | (show _ < _; omega) | (simp; omega) | (simp; done))) _) | (with_reducible refine Below.setCell ?_ (by (first | omega | (show _ < _; omega) | (simp; omega) | (simp; done))) _) | (with_reducible refine Below.trans ?_ (Below.mono (by with_reducible assumption) (by (first | omega | (show _ < _; omega) | (simp; omega) | (simp; done))))) | (with_reducible refine below_grown ?_ (by with_reducible assumption) (by (first | omega | (show _ < _; omega) | (simp; omega) | (simp; done))) (by (first | omega | (show _ < _; omega) | (simp; omega) | (simp; done)))))))).mono ?_
    rintro e wq ⟨rfl, m2, rfl⟩
    go_wp2
    go_ret
    exact ⟨rfl, by (repeat (first | (with_reducible exact Below.refl _ _) | (with_reducible assumption) | (with_reducible refine below_drewN ?_ _) | (with_reducible refine Below.drew ?_) | (with_reducible refine Below.alloc ?_ (by (first | omega | (show _ < _; omega) | (simp; omega) | (simp; done))) _) | (with_reducible refine Below.setCell ?_ (by (first | omega | (show _ < _; omega) | (simp; omega) | (simp; done))) _) | (with_reducible refine Below.trans ?_ (Below.mono (by with_reducible assumption) (by (first | omega | (show _ < _; omega) | (simp; omega) | (simp; done))))) | (with_reducible refine below_grown ?_ (by with_reducible assumption) (by (first | omega | (show _ < _; omega) | (simp; omega) | (simp; done))) (by (first | omega | (show _ < _; omega) | (simp; omega) | (simp; done))))))⟩
  have fin : ∀ (hn : 0 < n ∨ ¬ 0 < n) (hn2 : 0 < n2 ∨ ¬ 0 < n2), Calls Tryd.prog 27 #[.agg #[.slice A n c, .slice A2 n2 c2]] w fun e w' => e = .returned (.bool (true && true && decide (0 < n) && decide (0 < n2))) ∧ Below w.heap.size w w' := by
    intro hn hn2
    rcases hn with hn | hn
    · rcases hn2 with hn2 | hn2
      · have e1 : (0 : Int) < (n : Int) := by omega
        have e2 : (0 : Int) < (n2 : Int) := by omega
        have d1 : decide (0 < n) = true := by simp; omega
        have d2 : decide (0 < n2) = true := by simp; omega
        rw [d1, d2]
        go_enter Tryd.func27, Tryd.ntmps27
        go_wp2_with fail
        refine (K1.out _ (by (repeat (first | (with_reducible exact Below.refl _ _) | (with_reducible assumption) | (with_reducible refine below_drewN ?_ _) | (with_reducible refine Below.drew ?_) | (with_reducible refine Below.alloc ?_ (by (first | omega | (show _ < _; omega) | (simp; omega) | (simp; done))) _) | (with_reducible refine Below.setCell ?_ (by (first | omega | (show _ < _; omega) | (simp; omega) | (simp; done))) _) | (with_reducible refine Below.trans ?_ (Below.mono (by with_reducible assumption) (by (first | omega | (show _ < _; omega) | (simp; omega) | (simp; done))))) | (with_reducible refine below_grown ?_ (by with_reducible assumption) (by (first | omega | (show _ < _; omega) | (simp; omega) | (simp; done))) (by (first | omega | (show _ < _; omega) | (simp; omega) | (simp; done)))))))).mono ?_
        rintro e wq ⟨rfl, m, rfl⟩
        go_wp2_with fail
        refine (K2.out _ (by (repeat (first | (with_reducible exact Below.refl _ _) | (with_reducible assumption) | (with_reducible refine below_drewN ?_ _) | (with_reducible refine Below.drew ?_) | (with_reducible refine Below.alloc ?_ (by (first | omega | (show _ < _; omega) | (simp; omega) | (simp; done))) _) | (with_reducible refine Below.setCell ?_ (by (first | omega | (show _ < _; omega) | (simp; omega) | (simp; done))) _) | (with_reducible refine Below.trans ?_ (Below.mono (by with_reducible assumption) (by (first | omega | (show _ < _; omega) | (simp; omega) | (simp; done))))) | (with_reducible refine below_grown ?_ (by with_reducible assumption) (by (first | omega | (show _ < _; omega) | (simp; omega) | (simp; done))) (by (first | omega | (show _ < _; omega) | (simp; omega) | (simp; done)))))))).mono ?_
        rintro e wq ⟨rfl, m2, rfl⟩
        go_wp2
        go_ret
        exact ⟨rfl, by (repeat (first | (with_reducible exact Below.refl _ _) | (with_reducible assumption) | (with_reducible refine below_drewN ?_ _) | (with_reducible refine Below.drew ?_) | (with_reducible refine Below.alloc ?_ (by (first | omega | (show _ < _; omega) | (simp; omega) | (simp; done))) _) | (with_reducible refine Below.setCell ?_ (by (first | omega | (show _ < _; omega) | (simp; omega) | (simp; done))) _) | (with_reducible refine Below.trans ?_ (Below.mono (by with_reducible assumption) (by (first | omega | (show _ < _; omega) | (simp; omega) | (simp; done))))) | (with_reducible refine below_grown ?_ (by with_reducible assumption) (by (first | omega | (show _ < _; omega) | (simp; omega) | (simp; done))) (by (first | omega | (show _ < _; omega) | (simp; omega) | (simp; done))))))⟩
      · have e1 : (0 : Int) < (n : Int) := by omega
        have e2 : ¬ (0 : Int) < (n2 : Int) := by omega
        have d1 : decide (0 < n) = true := by simp; omega
        have d2 : decide (0 < n2) = false := by simp; omega
        rw [d1, d2]
        go_enter Tryd.func27, Tryd.ntmps27
        go_wp2_with fail
        refine (K1.out _ (by (repeat (first | (with_reducible exact Below.refl _ _) | (with_reducible assumption) | (with_reducible refine below_drewN ?_ _) | (with_reducible refine Below.drew ?_) | (with_reducible refine Below.alloc ?_ (by (first | omega | (show _ < _; omega) | (simp; omega) | (simp; done))) _) | (with_reducible refine Below.setCell ?_ (by (first | omega | (show _ < _; omega) | (simp; omega) | (simp; done))) _) | (with_reducible refine Below.trans ?_ (Below.mono (by with_reducible assumption) (by (first | omega | (show _ < _; omega) | (simp; omega) | (simp; done))))) | (with_reducible refine below_grown ?_ (by with_reducible assumption) (by (first | omega | (show _ < _; omega) | (simp; omega) | (simp; done))) (by (first | omega | (show _ < _; omega) | (simp; omega) | (simp; done)))))))).mono ?_
        rintro e wq ⟨rfl, m, rfl⟩
        go_wp2_with fail
        refine (K2.out _ (by (repeat (first | (with_reducible exact Below.refl _ _) | (with_reducible assumption) | (with_reducible refine below_drewN ?_ _) | (with_reducible refine Below.drew ?_) | (with_reducible refine Below.alloc ?_ (by (first | omega | (show _ < _; omega) | (simp; omega) | (simp; done))) _) | (with_reducible refine Below.setCell ?_ (by (first | omega | (show _ < _; omega) | (simp; omega) | (simp; done))) _) | (with_reducible refine Below.trans ?_ (Below.mono (by with_reducible assumption) (by (first | omega | (show _ < _; omega) | (simp; omega) | (simp; done))))) | (with_reducible refine below_grown ?_ (by with_reducible assumption) (by (first | omega | (show _ < _; omega) | (simp; omega) | (simp; done))) (by (first | omega | (show _ < _; omega) | (simp; omega) | (simp; done)))))))).mono ?_
        rintro e wq ⟨rfl, m2, rfl⟩
        go_wp2
        go_ret
        exact ⟨rfl, by (repeat (first | (with_reducible exact Below.refl _ _) | (with_reducible assumption) | (with_reducible refine below_drewN ?_ _) | (with_reducible refine Below.drew ?_) | (with_reducible refine Below.alloc ?_ (by (first | omega | (show _ < _; omega) | (simp; omega) | (simp; done))) _) | (with_reducible refine Below.setCell ?_ (by (first | omega | (show _ < _; omega) | (simp; omega) | (simp; done))) _) | (with_reducible refine Below.trans ?_ (Below.mono (by with_reducible assumption) (by (first | omega | (show _ < _; omega) | (simp; omega) | (simp; done))))) | (with_reducible refine below_grown ?_ (by with_reducible assumption) (by (first | omega | (show _ < _; omega) | (simp; omega) | (simp; done))) (by (first | omega | (show _ < _; omega) | (simp; omega) | (simp; done))))))⟩
    · have e1 : ¬ (0 : Int) < (n : Int) := by omega
      have d1 : decide (0 < n) = false := by simp; omega
      rw [d1]
      go_enter Tryd.func27, Tryd.ntmps27
      go_wp2_with fail
      refine (K1.out _ (by (repeat (first | (with_reducible exact Below.refl _ _) | (with_reducible assumption) | (with_reducible refine below_drewN ?_ _) | (with_reducible refine Below.drew ?_) | (with_reducible refine Below.alloc ?_ (by (first | omega | (show _ < _; omega) | (simp; omega) | (simp; done))) _) | (with_reducible refine Below.setCell ?_ (by (first | omega | (show _ < _; omega) | (simp; omega) | (simp; done))) _) | (with_reducible refine Below.trans ?_ (Below.mono (by with_reducible assumption) (by (first | omega | (show _ < _; omega) | (simp; omega) | (simp; done))))) | (with_reducible refine below_grown ?_ (by with_reducible assumption) (by (first | omega | (show _ < _; omega) | (simp; omega) | (simp; done))) (by (first | omega | (show _ < _; omega) | (simp; omega) | (simp; done)))))))).mono ?_
      rintro e wq ⟨rfl, m, rfl⟩
      go_wp2_with fail
      refine (K2.out _ (by (repeat (first | (with_reducible exact Below.refl _ _) | (with_reducible assumption) | (with_reducible refine below_drewN ?_ _) | (with_reducible refine Below.drew ?_) | (with_reducible refine Below.alloc ?_ (by (first | omega | (show _ < _; omega) | (simp; omega) | (simp; done))) _) | (with_reducible refine Below.setCell ?_ (by (first | omega | (show _ < _; omega) | (simp; omega) | (simp; done))) _) | (with_reducible refine Below.trans ?_ (Below.mono (by with_reducible assumption) (by (first | omega | (show _ < _; omega) | (simp; omega) | (simp; done))))) | (with_reducible refine below_grown ?_ (by with_reducible assumption) (by (first | omega | (show _ < _; omega) | (simp; omega) | (simp; done))) (by (first | omega | (show _ < _; omega) | (simp; omega) | (simp; done)))))))).mono ?_
      rintro e wq ⟨rfl, m2, rfl⟩
      go_wp2
      go_ret
      exact ⟨rfl, by (repeat (first | (with_reducible exact Below.refl _ _) | (with_reducible assumption) | (with_reducible refine below_drewN ?_ _) | (with_reducible refine Below.drew ?_) | (with_reducible refine Below.alloc ?_ (by (first | omega | (show _ < _; omega) | (simp; omega) | (simp; done))) _) | (with_reducible refine Below.setCell ?_ (by (first | omega | (show _ < _; omega) | (simp; omega) | (simp; done))) _) | (with_reducible refine Below.trans ?_ (Below.mono (by with_reducible assumption) (by (first | omega | (show _ < _; omega) | (simp; omega) | (simp; done))))) | (with_reducible refine below_grown ?_ (by with_reducible assumption) (by (first | omega | (show _ < _; omega) | (simp; omega) | (simp; done))) (by (first | omega | (show _ < _; omega) | (simp; omega) | (simp; done))))))⟩
  exact fin (Decidable.em _) (Decidable.em _)
/-- What ConfigSafe answers. -/
def safeB (fss gss : List (List Int)) (nf ng : Nat) : Bool := famB fss && famB gss && decide (0 < nf) && decide (0 < ng) && metTo fss gss ng nf
theorem specSafe_any (w : World) (hM : Mat w w.heap.size A n zss) (hN : Mat w w.heap.size A2 n2 yss) (hz : SzOk zss n) (hz2 : SzOk yss n2) :
    Calls Tryd.prog 15 #[.agg #[.slice A n c, .slice A2 n2 c2]] w fun e w' => e = .returned (.bool (safeB zss yss n n2)) ∧ Below w.heap.size w w' := by
  have H1 := fun (W : World) (hb : Below w.heap.size w W) => specValid13_any A n c zss A2 n2 c2 yss W ((hM.below hb).more hb.size) ((hN.below hb).more hb.size) hz hz2
  have H2 := fun (W : World) (hb : Below w.heap.size w W) => l11_any A n c zss A2 n2 c2 yss W ((hM.below hb).more hb.size) hz ((hN.below hb).more hb.size) hz2
  clear hM hN
  unfold safeB
  obtain ⟨p, hp⟩ : ∃ p, (famB zss && famB yss && decide (0 < n) && decide (0 < n2)) = p := ⟨_, rfl⟩
  obtain ⟨q, hq⟩ : ∃ q, metTo zss yss n2 n = q := ⟨_, rfl⟩
  rw [hp] at H1
  rw [hq] at H2
  rw [hp, hq]
  have K1 := Lib.hid H1
  have K2 := Lib.hid H2
  clear H1 H2 hp hq hz hz2
  cases p
  · go_enter Tryd.func15, Tryd.ntmps15
    go_wp2_with fail
    refine (K1.out _ (by (repeat (first | (with_reducible exact Below.refl _ _) | (with_reducible assumption) | (with_reducible refine below_drewN ?_ _) | (with_reducible refine Below.drew ?_) | (with_reducible refine Below.alloc ?_ (by (first | omega | (show _ < _; omega) | (simp; omega) | (simp; done))) _) | (with_reducible refine Below.setCell ?_ (by (first | omega | (show _ < _; omega) | (simp; omega) | (simp; done))) _) | (with_reducible refine Below.trans ?_ (Below.mono (by with_reducible assumption) (by (first | omega | (show _ < _; omega) | (simp; omega) | (simp; done))))) | (with_reducible refine below_grown ?_ (by with_reducible assumption) (by (first | omega | (show _ < _; omega) | (simp; omega) | (simp; done))) (by (first | omega | (show _ < _; omega) | (simp; omega) | (simp; done)))))))).mono ?_
    (rintro e w1 ⟨rfl, hb_w1⟩; have hsz_w1 := hb_w1.size; (try simp at hsz_w1); obtain ⟨hc_w1, hf_w1⟩ := bcell hb_w1; obtain ⟨_, _, _, _, _, _, _⟩ := ups (a := w.heap.size) (b := w1.heap.size) (by omega); have hk_w1 := fun o => hc_w1 (w.heap.size) o (by first | omega | (simp; done) | (simp; omega)))
    go_wp2
    go_ret
    exact ⟨rfl, by (repeat (first | (with_reducible exact Below.refl _ _) | (with_reducible assumption) | (with_reducible refine below_drewN ?_ _) | (with_reducible refine Below.drew ?_) | (with_reducible refine Below.alloc ?_ (by (first | omega | (show _ < _; omega) | (simp; omega) | (simp; done))) _) | (with_reducible refine Below.setCell ?_ (by (first | omega | (show _ < _; omega) | (simp; omega) | (simp; done))) _) | (with_reducible refine Below.trans ?_ (Below.mono (by with_reducible assumption) (by (first | omega | (show _ < _; omega) | (simp; omega) | (simp; done))))) | (with_reducible refine below_grown ?_ (by with_reducible assumption) (by (first | omega | (show _ < _; omega) | (simp; omega) | (simp; done))) (by (first | omega | (show _ < _; omega) | (simp; omega) | (simp; done))))))⟩
  · go_enter Tryd.func15, Tryd.ntmps15
    go_wp2_with fail
    refine (K1.out _ (by (repeat (first | (with_reducible exact Below.refl _ _) | (with_reducible assumption) | (with_reducible refine below_drewN ?_ _) | (with_reducible refine Below.drew ?_) | (with_reducible refine Below.alloc ?_ (by (first | omega | (show _ < _; omega) | (simp; omega) | (simp; done))) _) | (with_reducible refine Below.setCell ?_ (by (first | omega | (show _ < _; omega) | (simp; omega) | (simp; done))) _) | (with_reducible refine Below.trans ?_ (Below.mono (by with_reducible assumption) (by (first | omega | (show _ < _; omega) | (simp; omega) | (simp; done))))) | (with_reducible refine below_grown ?_ (by with_reducible assumption) (by (first | omega | (show _ < _; omega) | (simp; omega) | (simp; done))) (by (first | omega | (show _ < _; omega) | (simp; omega) | (simp; done)))))))).mono ?_
    (rintro e w1 ⟨rfl, hb_w1⟩; have hsz_w1 := hb_w1.size; (try simp at hsz_w1); obtain ⟨hc_w1, hf_w1⟩ := bcell hb_w1; obtain ⟨_, _, _, _, _, _, _⟩ := ups (a := w.heap.size) (b := w1.heap.size) (by omega); have hk_w1 := fun o => hc_w1 (w.heap.size) o (by first | omega | (simp; done) | (simp; omega)))
    go_wp2_with fail
    refine (K2.out _ (by (repeat (first | (with_reducible exact Below.refl _ _) | (with_reducible assumption) | (with_reducible refine below_drewN ?_ _) | (with_reducible refine Below.drew ?_) | (with_reducible refine Below.alloc ?_ (by (first | omega | (show _ < _; omega) | (simp; omega) | (simp; done))) _) | (with_reducible refine Below.setCell ?_ (by (first | omega | (show _ < _; omega) | (simp; omega) | (simp; done))) _) | (with_reducible refine Below.trans ?_ (Below.mono (by with_reducible assumption) (by (first | omega | (show _ < _; omega) | (simp; omega) | (simp; done))))) | (with_reducible refine below_grown ?_ (by with_reducible assumption) (by (first | omega | (show _ < _; omega) | (simp; omega) | (simp; done))) (by (first | omega | (show _ < _; omega) | (simp; omega) | (simp; done)))))))).mono ?_
    rintro e w2 ⟨rfl, hb_w2⟩
    go_wp2
    go_ret
    exact ⟨rfl, by (repeat (first | (with_reducible exact Below.refl _ _) | (with_reducible assumption) | (with_reducible refine below_drewN ?_ _) | (with_reducible refine Below.drew ?_) | (with_reducible refine Below.alloc ?_ (by (first | omega | (show _ < _; omega) | (simp; omega) | (simp; done))) _) | (with_reducible refine Below.setCell ?_ (by (first | omega | (show _ < _; omega) | (simp; omega) | (simp; done))) _) | (with_reducible refine Below.trans ?_ (Below.mono (by with_reducible assumption) (by (first | omega | (show _ < _; omega) | (simp; omega) | (simp; done))))) | (with_reducible refine below_grown ?_ (by with_reducible assumption) (by (first | omega | (show _ < _; omega) | (simp; omega) | (simp; done))) (by (first | omega | (show _ < _; omega) | (simp; omega) | (simp; done))))))⟩
theorem eqConfig_any {g0 g1 h0 h1 : Nat} (w : World) (C1 : CpM w g0 n zss) (C2 : CpM w g1 n2 yss) (D1 : CpM w h0 n zss) (D2 : CpM w h1 n2 yss) :
    Calls Tryd.prog 18 #[.agg #[.slice (some ⟨g0, 0, none⟩) n n, .slice (some ⟨g1, 0, none⟩) n2 n2], .agg #[.slice (some ⟨h0, 0, none⟩) n n, .slice (some ⟨h1, 0, none⟩) n2 n2]] w fun e w' => e = .returned (.bool true) ∧ Below w.heap.size w w' := by
  have H1 := fun (W : World) (hb : Below w.heap.size w W) => eqIntSS_same _ _ n n n zss W (C1.below hb).mat (D1.below hb).mat C1.ok
  have H2 := fun (W : World) (hb : Below w.heap.size w W) => eqIntSS_same _ _ n2 n2 n2 yss W (C2.below hb).mat (D2.below hb).mat C2.ok
  have K1 := Lib.hid H1
  have K2 := Lib.hid H2
  clear H1 H2 C1 C2 D1 D2
  go_enter Tryd.func18, Tryd.ntmps18
  go_wp2_with fail
  refine (K1.out _ (by (repeat (first | (with_reducible exact Below.refl _ _) | (with_reducible assumption) | (with_reducible refine below_drewN ?_ _) | (with_reducible refine Below.drew ?_) | (with_reducible refine Below.alloc ?_ (by (first | omega | (show _ < _; omega) | (simp; omega) | (simp; done))) _) | (with_reducible refine Below.setCell ?_ (by (first | omega | (show _ < _; omega) | (simp; omega) | (simp; done))) _) | (with_reducible refine Below.trans ?_ (Below.mono (by with_reducible assumption) (by (first | omega | (show _ < _; omega) | (simp; omega) | (simp; done))))) | (with_reducible refine below_grown ?_ (by with_reducible assumption) (by (first | omega | (show _ < _; omega) | (simp; omega) | (simp; done))) (by (first | omega | (show _ < _; omega) | (simp; omega) | (simp; done)))))))).mono ?_
  rintro e wq ⟨rfl, m, rfl⟩
  go_wp2_with fail
  refine (K2.out _ (by (repeat (first | (with_reducible exact Below.refl _ _) | (with_reducible assumption) | (with_reducible refine below_drewN ?_ _) | (with_reducible refine Below.drew ?_) | (with_reducible refine Below.alloc ?_ (by (first | omega | (show _ < _; omega) | (simp; omega) | (simp; done))) _) | (with_reducible refine Below.setCell ?_ (by (first | omega | (show _ < _; omega) | (simp; omega) | (simp; done))) _) | (with_reducible refine Below.trans ?_ (Below.mono (by with_reducible assumption) (by (first | omega | (show _ < _; omega) | (simp; omega) | (simp; done))))) | (with_reducible refine below_grown ?_ (by with_reducible assumption) (by (first | omega | (show _ < _; omega) | (simp; omega) | (simp; done))) (by (first | omega | (show _ < _; omega) | (simp; omega) | (simp; done)))))))).mono ?_
  rintro e wq ⟨rfl, m2, rfl⟩
  go_wp2
  go_ret
  exact ⟨rfl, by (repeat (first | (with_reducible exact Below.refl _ _) | (with_reducible assumption) | (with_reducible refine below_drewN ?_ _) | (with_reducible refine Below.drew ?_) | (with_reducible refine Below.alloc ?_ (by (first | omega | (show _ < _; omega) | (simp; omega) | (simp; done))) _) | (with_reducible refine Below.setCell ?_ (by (first | omega | (show _ < _; omega) | (simp; omega) | (simp; done))) _) | (with_reducible refine Below.trans ?_ (Below.mono (by with_reducible assumption) (by (first | omega | (show _ < _; omega) | (simp; omega) | (simp; done))))) | (with_reducible refine below_grown ?_ (by with_reducible assumption) (by (first | omega | (show _ < _; omega) | (simp; omega) | (simp; done))) (by (first | omega | (show _ < _; omega) | (simp; omega) | (simp; done))))))⟩
end
end Go.Proofs.YtafhpbghogdipaaDoor

/- errors.Is by its contracts; impl.safe. -/
namespace Go.Proofs.YtafhpbghogdipaaDoor
open Go.RowKit Go.Extern.Stop Go.Stop Go.Extern
set_option maxHeartbeats 4000000
set_option maxRecDepth 100000
set_option linter.unusedVariables false

theorem isTypeOf (v : Value) (w : World) : (Extern.ReflectliteType.typeOf #[.iface 126 v]).run Tryd.prog w = .ok (.iface 117 (.agg #[.pointer (some ⟨4, 126, none⟩)])) w := by kernel_rfl
theorem isComparable (w : World) : ((Extern.ReflectliteType.method fun t => do Extern.Rtype.noPackHeld "Comparable" t; Functor.map (fun a => Value.bool a.comparable) (typeInfo t)) #[.agg #[.pointer (some ⟨4, 126, none⟩)]]).run Tryd.prog w = .ok (.bool true) w := by kernel_rfl
theorem isMethodComparable (v : Value) (w : World) : (Go.method 264 117 v "Comparable").run Tryd.prog w = .ok (100, v) w := by kernel_rfl
theorem isComp : (Tryd.prog.info? 126).map (·.comparable) = some true := by kernel_rfl
theorem isSize : (Tryd.prog.info? 153).map (·.size) = some 1 := by kernel_rfl
theorem noIsE (v : Value) (xT : TypeId) (w : World) : (Instr.typeAssert (.iface 126 v) xT 119 true).run Tryd.prog w = .ok (.tuple #[.nilIface, .bool false]) w := run_typeAssert_lacksB Tryd.underlying119 (by kernel_rfl) (by kernel_rfl) v xT w
theorem noUnwrapE (v : Value) (xT : TypeId) (w : World) : (Instr.typeAssert (.iface 126 v) xT 121 true).run Tryd.prog w = .ok (.tuple #[.nilIface, .bool false]) w := run_typeAssert_lacksB Tryd.underlying121 (by kernel_rfl) (by kernel_rfl) v xT w
theorem noUnwrapsE (v : Value) (xT : TypeId) (w : World) : (Instr.typeAssert (.iface 126 v) xT 123 true).run Tryd.prog w = .ok (.tuple #[.nilIface, .bool false]) w := run_typeAssert_lacksB Tryd.underlying123 (by kernel_rfl) (by kernel_rfl) v xT w

/-- errors.Is(x, x), x a pointer to an errors.errorString. -/
theorem is_same (a : Addr) (w : World) :
    Calls Tryd.prog 43 #[.iface 126 (.pointer (some a)), .iface 126 (.pointer (some a))] w fun e w' => e = .returned (.bool true) ∧ w' = w := by
  obtain ⟨i, hi, hcmp⟩ := Option.map_eq_some_iff.1 isComp
  obtain ⟨j, hj, hjs⟩ := Option.map_eq_some_iff.1 isSize
  have h8 := @run_callFunc_extern Tryd.prog 68 _ Extern.ReflectliteType.typeOf Tryd.func68 (by kernel_rfl) (by kernel_rfl) (by kernel_rfl) (by kernel_rfl)
  have h32 := @run_callFunc_extern Tryd.prog 100 _ (Extern.ReflectliteType.method fun t => do Extern.Rtype.noPackHeld "Comparable" t; pure (.bool (← typeInfo t).comparable)) Tryd.func100 (by kernel_rfl) (by kernel_rfl) (by kernel_rfl) (by kernel_rfl)
  have tT := isTypeOf
  have cT := isComparable
  have mR := isMethodComparable
  have heq := run_eql_iface_ptr_same (P := Tryd.prog) w a Tryd.underlying54 Tryd.underlying126 hi hcmp hj
  go_enter Tryd.func43, Tryd.ntmps43
  go_wp2
  refine wp_loop_rounds 1 ?_
  rw [rounds_succ]
  go_wp2
  go_ret
  exact ⟨rfl, rfl⟩

/-- errors.Is(nil, x). -/
theorem is_nil (b : Addr) (w : World) :
    Calls Tryd.prog 43 #[.nilIface, .iface 126 (.pointer (some b))] w fun e w' => e = .returned (.bool false) ∧ w' = w := by
  have hn := run_eql_iface_nil_left (P := Tryd.prog) w 126 (.pointer (some b)) Tryd.underlying54
  go_enter Tryd.func43, Tryd.ntmps43
  go_wp2
  go_ret
  exact ⟨rfl, rfl⟩

/-- errors.Is(x, y), two different pointers to errors.errorString: neither has Is nor Unwrap: false. -/
theorem is_other (a b : Addr) (ca cb : Array Value) (ta tb : TypeId) (w : World) (hne : a ≠ b) (ha : w.heap[a.block]? = some (Obj.cells ca ta (0, 0))) (hb : w.heap[b.block]? = some (Obj.cells cb tb (0, 0))) :
    Calls Tryd.prog 43 #[.iface 126 (.pointer (some a)), .iface 126 (.pointer (some b))] w fun e w' => e = .returned (.bool false) ∧ w' = w := by
  obtain ⟨i, hi, hcmp⟩ := Option.map_eq_some_iff.1 isComp
  obtain ⟨j, hj, hjs⟩ := Option.map_eq_some_iff.1 isSize
  have h8 := @run_callFunc_extern Tryd.prog 68 _ Extern.ReflectliteType.typeOf Tryd.func68 (by kernel_rfl) (by kernel_rfl) (by kernel_rfl) (by kernel_rfl)
  have h32 := @run_callFunc_extern Tryd.prog 100 _ (Extern.ReflectliteType.method fun t => do Extern.Rtype.noPackHeld "Comparable" t; pure (.bool (← typeInfo t).comparable)) Tryd.func100 (by kernel_rfl) (by kernel_rfl) (by kernel_rfl) (by kernel_rfl)
  have tT := isTypeOf
  have cT := isComparable
  have mR := isMethodComparable
  have nE := noIsE
  have uE := noUnwrapE
  have vE := noUnwrapsE
  have heq := run_eql_iface_ptr_other (P := Tryd.prog) w Tryd.underlying54 Tryd.underlying126 hi hcmp hj (by rw [hjs]; decide) hne ha hb
  go_enter Tryd.func43, Tryd.ntmps43
  go_wp2
  refine wp_loop_rounds 1 ?_
  rw [rounds_succ]
  go_wp2
  go_ret
  exact ⟨rfl, rfl⟩

end Go.Proofs.YtafhpbghogdipaaDoor

/- impl.safe of nil and of the two sentinels. -/
namespace Go.Proofs.YtafhpbghogdipaaDoor
open Go.RowKit
set_option maxHeartbeats 4000000
set_option maxRecDepth 100000
set_option linter.unusedVariables false

/-- The two sentinels. -/
structure EV (w : World) (a0 a1 : Addr) : Prop where
  c0 : w.cell? ⟨0, 0, none⟩ = some (.iface 126 (.pointer (some a0)))
  c1 : w.cell? ⟨1, 0, none⟩ = some (.iface 126 (.pointer (some a1)))
  ne : a0 ≠ a1
  h0 : ∃ ca ta, w.heap[a0.block]? = some (Obj.cells ca ta (0, 0))
  h1 : ∃ ca ta, w.heap[a1.block]? = some (Obj.cells ca ta (0, 0))
theorem EV.keep {w w' : World} {a0 a1 : Addr} (h : EV w a0 a1) (hk : ∀ b : Nat, (∃ c t f, w.heap[b]? = some (Obj.cells c t f)) → w'.heap[b]? = w.heap[b]?) : EV w' a0 a1 := by
  have cells : ∀ {a : Addr} {v : Value}, w.cell? a = some v → w'.cell? a = some v := fun {a v} hc => by
    have : ∃ c t f, w.heap[a.block]? = some (Obj.cells c t f) := by
      unfold World.cell? at hc
      split at hc
      · rename_i hh; exact ⟨_, _, _, hh⟩
      · cases hc
    unfold World.cell? at hc ⊢
    rw [hk _ this]
    exact hc
  obtain ⟨ca, ta, h0⟩ := h.h0
  obtain ⟨cb, tb, h1⟩ := h.h1
  exact ⟨cells h.c0, cells h.c1, h.ne, ⟨ca, ta, (hk _ ⟨_, _, _, h0⟩).trans h0⟩, ⟨cb, tb, (hk _ ⟨_, _, _, h1⟩).trans h1⟩⟩
theorem EV.below {w w' : World} {a0 a1 : Addr} (h : EV w a0 a1) (hb : Below w.heap.size w w') : EV w' a0 a1 :=
  h.keep fun b ⟨c, t, f, hc⟩ => hb.block b (Array.getElem?_eq_some_iff.1 hc).1
/-- impl.safe of the two sentinels and of nil. -/
theorem safe_nil {a0 a1 : Addr} (w : World) (h : EV w a0 a1) : Calls Tryd.prog 30 #[.nilIface] w fun e w' => e = .returned (.bool true) ∧ w' = w := by
  have c0 := h.c0
  have c1 := h.c1
  go_enter Tryd.func30, Tryd.ntmps30
  go_wp2_with fail
  refine (is_nil _ _).mono ?_
  rintro e w' ⟨rfl, rfl⟩
  go_wp2_with fail
  refine (is_nil _ _).mono ?_
  rintro e w' ⟨rfl, rfl⟩
  go_wp2
  go_ret
  exact ⟨rfl, rfl⟩
theorem safe_unsafe {a0 a1 : Addr} (w : World) (h : EV w a0 a1) : Calls Tryd.prog 30 #[.iface 126 (.pointer (some a1))] w fun e w' => e = .returned (.bool false) ∧ w' = w := by
  have c0 := h.c0
  have c1 := h.c1
  go_enter Tryd.func30, Tryd.ntmps30
  go_wp2_with fail
  refine (is_same _ _).mono ?_
  rintro e w' ⟨rfl, rfl⟩
  go_wp2
  go_ret
  exact ⟨rfl, rfl⟩
theorem safe_incomplete {a0 a1 : Addr} (w : World) (h : EV w a0 a1) : Calls Tryd.prog 30 #[.iface 126 (.pointer (some a0))] w fun e w' => e = .returned (.bool false) ∧ w' = w := by
  have c0 := h.c0
  have c1 := h.c1
  obtain ⟨ca, ta, h0⟩ := h.h0
  obtain ⟨cb, tb, h1⟩ := h.h1
  go_enter Tryd.func30, Tryd.ntmps30
  go_wp2_with fail
  refine (is_other _ _ _ _ _ _ _ h.ne h0 h1).mono ?_
  rintro e w' ⟨rfl, rfl⟩
  go_wp2_with fail
  refine (is_same _ _).mono ?_
  rintro e w' ⟨rfl, rfl⟩
  go_wp2
  go_ret
  exact ⟨rfl, rfl⟩
end Go.Proofs.YtafhpbghogdipaaDoor

/- What the row's list of variables gives: the two sentinels. -/
namespace Go.Proofs.YtafhpbghogdipaaDoor
open Go.RowKit Go.ChangeShapes
set_option maxHeartbeats 4000000
set_option maxRecDepth 100000

theorem gE0 : Tryd.prog.globalNamed "loop.example/flexquorum/impl.errIncomplete" = some 0 := by kernel_rfl
theorem gE1 : Tryd.prog.globalNamed "loop.example/flexquorum/impl.errUnsafe" = some 1 := by kernel_rfl
theorem gE0T : (Tryd.prog.globals[0]?).map (·.type) = some 54 := by kernel_rfl
theorem gE1T : (Tryd.prog.globals[1]?).map (·.type) = some 54 := by kernel_rfl
theorem cells_es : Tryd.prog.cellsOf 153 = 1 := by kernel_rfl
theorem cells_str : Tryd.prog.cellsOf 9 = 1 := by kernel_rfl
theorem star_es : "*" ++ "errors.errorString" = "*errors.errorString" := by decide
theorem row_es (u : TypeId) (h : Tryd.prog.typeName? 3 u = some "*errors.errorString") : u = 126 :=
  typeName_ptr_named (nm := "errors.errorString") (by rw [star_es]; kernel_rfl) (by kernel_rfl) (by decide) u (by rw [star_es]; exact h)
theorem ev_of {W : World} (h : laidMetH Tryd.prog Rows.fnExactConfigSafeRow.laid W) : ∃ a0 a1, EV W a0 a1 := by
  rw [MakeChecks.laidMetH_plain _ _ _ (by kernel_rfl)] at h
  obtain ⟨a0, a1, s0, s1, c0, c1, t0, t1, hv0, hv1, _, _, _, _, _, _, hne, hh0, hh1⟩ := laid_sentinels2 h gE0 gE0T gE1 gE1T Tryd.underlying54 row_es Tryd.underlying126 Tryd.underlying153 rfl rfl Tryd.underlying9 cells_es cells_str
  exact ⟨a0, a1, by simpa using World.var?_cell gE0 hv0 0, by simpa using World.var?_cell gE1 hv1 0, hne, ⟨_, _, hh0⟩, ⟨_, _, hh1⟩⟩
end Go.Proofs.YtafhpbghogdipaaDoor
