/- Cs1 Cs2 Cs3 Cs4 Cs5 (merge.py). -/
import Derived.Test.YtafhpbghogdipaaDoorCoX
import Derived.Test.YtafhpbghogdipaaDoorCfX
import Derived.Deep.RegionHeld3
/- FnExactConfigSafe: the lone parts. -/
namespace Go.Proofs.YtafhpbghogdipaaDoor
open Go.RowKit
set_option maxHeartbeats 4000000
set_option maxRecDepth 100000
set_option linter.unusedVariables false
set_option linter.unusedSimpArgs false

section
variable (A : Option Addr) (n c : Nat) (zss : List (List Int)) (A2 : Option Addr) (n2 c2 : Nat) (yss : List (List Int))
/-- The law's own memory, behind its draws. -/
structure CsSt (b1 b5 g0 g1 : Nat) (w : World) : Prop where
  a0 : w.cell? ⟨b1, 0, none⟩ = some (.slice A n c)
  a1 : w.cell? ⟨b1, 1, none⟩ = some (.slice A2 n2 c2)
  x0 : w.cell? ⟨b5, 0, none⟩ = some (.slice (some ⟨g0, 0, none⟩) n n)
  x1 : w.cell? ⟨b5, 1, none⟩ = some (.slice (some ⟨g1, 0, none⟩) n2 n2)
  C1 : CpM w g0 n zss
  C2 : CpM w g1 n2 yss
theorem cell_bel {w w' : World} (h : Bel w.heap.size w w') {b o : Nat} {v : Value} (hc : w.cell? ⟨b, o, none⟩ = some v) : w'.cell? ⟨b, o, none⟩ = some v :=
  (World.cell?_of_block (h.block b (by have := World.block_lt_of_cell? _ _ hc; simpa using this))).trans hc
theorem CsSt.bel {b1 b5 g0 g1 : Nat} {w w' : World} (h : CsSt A n c zss A2 n2 c2 yss b1 b5 g0 g1 w) (hb : Bel w.heap.size w w') : CsSt A n c zss A2 n2 c2 yss b1 b5 g0 g1 w' :=
  ⟨cell_bel hb h.a0, cell_bel hb h.a1, cell_bel hb h.x0, cell_bel hb h.x1, h.C1.bel hb, h.C2.bel hb⟩
theorem CsSt.tp {b1 b5 g0 g1 : Nat} {w : World} (h : CsSt A n c zss A2 n2 c2 yss b1 b5 g0 g1 w) (T : Nat → Question → Nat) (d : Nat) : CsSt A n c zss A2 n2 c2 yss b1 b5 g0 g1 (tp w T d) := CsSt.bel A n c zss A2 n2 c2 yss h ((Bel.refl w.heap.size w).tp T d)
/-- The law stands ahead of the call. -/
def QA4 (w0 : World) (a : Act) (w : World) : Prop :=
  ∃ (v3 d7 d8 d9 d10 d11 d12 d13 d14 d15 d16 : Value) (b1 b5 g0 g1 : Nat), a = ⟨#[.agg #[.slice A n c, .slice A2 n2 c2], .pointer (some ⟨b1, 0, none⟩), .bool false, v3, .bool (safeB zss yss n n2), .pointer (some ⟨b5, 0, none⟩), undef, d7, d8, d9, d10, d11, d12, d13, d14, d15, d16, undef, undef, undef, undef, undef, undef, undef, undef, undef, undef], []⟩ ∧ CsSt A n c zss A2 n2 c2 yss b1 b5 g0 g1 w ∧ SzOk zss n ∧ SzOk yss n2 ∧ Bel w0.heap.size w0 w
/-- It is about to answer 'true'. -/
def QR4 (w0 : World) (a : Act) (w : World) : Prop := a.defers = [] ∧ a.tmps.getD 2 undef = .bool true ∧ Bel w0.heap.size w0 w
theorem QA4.tp {w0 : World} (a : Act) (w : World) (T : Nat → Question → Nat) (d : Nat) (h : QA4 A n c zss A2 n2 c2 yss w0 a w) : QA4 A n c zss A2 n2 c2 yss w0 a (tp w T d) := by
  obtain ⟨v3, d7, d8, d9, d10, d11, d12, d13, d14, d15, d16, b1, b5, g0, g1, e, h1, h2, h3, h4⟩ := h
  exact ⟨v3, d7, d8, d9, d10, d11, d12, d13, d14, d15, d16, b1, b5, g0, g1, e, CsSt.tp A n c zss A2 n2 c2 yss h1 T d, h2, h3, h4.tp T d⟩
theorem QR4.tp {w0 : World} (a : Act) (w : World) (T : Nat → Question → Nat) (d : Nat) (h : QR4 w0 a w) : QR4 w0 a (tp w T d) := ⟨h.1, h.2.1, h.2.2.tp T d⟩
end
theorem lawA (A : Option Addr) (n c : Nat) (zss : List (List Int)) (A2 : Option Addr) (n2 c2 : Nat) (yss : List (List Int)) (w : World) (hM : ArgM w A n c zss) (hN : ArgM w A2 n2 c2 yss) :
    (headN 5 (bodyOf 4)).wp Tryd.prog (QQ (QA4 A n c zss A2 n2 c2 yss w) (QR4 w)) ⟨#[.agg #[.slice A n c, .slice A2 n2 c2]] ++ Array.replicate (27 - 1) undef, []⟩ w := by
  obtain ⟨Q, hQ⟩ : ∃ Q, Q = QQ (QA4 A n c zss A2 n2 c2 yss w) (QR4 w) := ⟨_, rfl⟩
  rw [← hQ]
  have HQ := Lib.hid hQ
  clear hQ
  have HM := Lib.hid hM
  have HN := Lib.hid hN
  clear hM hN
  simp only [bodyOf, Tryd.func4, Tryd.f4, headN, Option.bind_some, Option.getD_some, Array.replicate, List.replicate, List.append_toArray, List.cons_append, List.nil_append, Nat.reduceSub]
  go_wp2_with fail
  refine (szConfig_any A n c zss A2 n2 c2 yss _ _ (HM.out.to (by (repeat (first | (with_reducible exact Below.refl _ _) | (with_reducible assumption) | (with_reducible refine below_drewN ?_ _) | (with_reducible refine Below.drew ?_) | (with_reducible refine Below.alloc ?_ (by (first | omega | (show _ < _; omega) | (simp; omega) | (simp; done))) _) | (with_reducible refine Below.setCell ?_ (by (first | omega | (show _ < _; omega) | (simp; omega) | (simp; done))) _) | (with_reducible refine Below.trans ?_ (Below.mono (by with_reducible assumption) (by (first | omega | (show _ < _; omega) | (simp; omega) | (simp; done))))) | (with_reducible refine below_grown ?_ (by with_reducible assumption) (by (first | omega | (show _ < _; omega) | (simp; omega) | (simp; done))) (by (first | omega | (show _ < _; omega) | (simp; omega) | (simp; done)))))))) (HN.out.to (by (repeat (first | (with_reducible exact Below.refl _ _) | (with_reducible assumption) | (with_reducible refine below_drewN ?_ _) | (with_reducible refine Below.drew ?_) | (with_reducible refine Below.alloc ?_ (by (first | omega | (show _ < _; omega) | (simp; omega) | (simp; done))) _) | (with_reducible refine Below.setCell ?_ (by (first | omega | (show _ < _; omega) | (simp; omega) | (simp; done))) _) | (with_reducible refine Below.trans ?_ (Below.mono (by with_reducible assumption) (by (first | omega | (show _ < _; omega) | (simp; omega) | (simp; done))))) | (with_reducible refine below_grown ?_ (by with_reducible assumption) (by (first | omega | (show _ < _; omega) | (simp; omega) | (simp; done))) (by (first | omega | (show _ < _; omega) | (simp; omega) | (simp; done)))))))) (by omega) (by omega)).mono ?_
  rintro e w1 ⟨r, rfl, hb1, hz⟩
  have hsz_w1 := hb1.size
  (try simp at hsz_w1)
  obtain ⟨hc_w1, hf_w1⟩ := bcell hb1
  have hk0_w1 := fun o => hc_w1 (w.heap.size) o (by first | omega | (simp; done) | (simp; omega))
  have hj0_w1 := fun o => hf_w1 (w.heap.size) o (by first | omega | (simp; done) | (simp; omega))
  clear hc_w1 hf_w1
  have hb1' : Below w.heap.size w w1 := by (repeat (first | (with_reducible exact Below.refl _ _) | (with_reducible assumption) | (with_reducible refine below_drewN ?_ _) | (with_reducible refine Below.drew ?_) | (with_reducible refine Below.alloc ?_ (by (first | omega | (show _ < _; omega) | (simp; omega) | (simp; done))) _) | (with_reducible refine Below.setCell ?_ (by (first | omega | (show _ < _; omega) | (simp; omega) | (simp; done))) _) | (with_reducible refine Below.trans ?_ (Below.mono (by with_reducible assumption) (by (first | omega | (show _ < _; omega) | (simp; omega) | (simp; done))))) | (with_reducible refine below_grown ?_ (by with_reducible assumption) (by (first | omega | (show _ < _; omega) | (simp; omega) | (simp; done))) (by (first | omega | (show _ < _; omega) | (simp; omega) | (simp; done))))))
  clear hb1
  by_cases hr : r < 0
  · go_wp2_with fail
    rw [HQ.out]
    exact .inr ⟨rfl, rfl, rfl, Bel.of' hb1'⟩
  replace hz := hz (by omega)
  have HZ := Lib.hid hz
  clear hz
  go_wp2_with fail
  refine (toConfig_any A n c zss A2 n2 c2 yss _ (HM.out.to (by (repeat (first | (with_reducible exact Below.refl _ _) | (with_reducible assumption) | (with_reducible refine below_drewN ?_ _) | (with_reducible refine Below.drew ?_) | (with_reducible refine Below.alloc ?_ (by (first | omega | (show _ < _; omega) | (simp; omega) | (simp; done))) _) | (with_reducible refine Below.setCell ?_ (by (first | omega | (show _ < _; omega) | (simp; omega) | (simp; done))) _) | (with_reducible refine Below.trans ?_ (Below.mono (by with_reducible assumption) (by (first | omega | (show _ < _; omega) | (simp; omega) | (simp; done))))) | (with_reducible refine below_grown ?_ (by with_reducible assumption) (by (first | omega | (show _ < _; omega) | (simp; omega) | (simp; done))) (by (first | omega | (show _ < _; omega) | (simp; omega) | (simp; done)))))))) (HN.out.to (by (repeat (first | (with_reducible exact Below.refl _ _) | (with_reducible assumption) | (with_reducible refine below_drewN ?_ _) | (with_reducible refine Below.drew ?_) | (with_reducible refine Below.alloc ?_ (by (first | omega | (show _ < _; omega) | (simp; omega) | (simp; done))) _) | (with_reducible refine Below.setCell ?_ (by (first | omega | (show _ < _; omega) | (simp; omega) | (simp; done))) _) | (with_reducible refine Below.trans ?_ (Below.mono (by with_reducible assumption) (by (first | omega | (show _ < _; omega) | (simp; omega) | (simp; done))))) | (with_reducible refine below_grown ?_ (by with_reducible assumption) (by (first | omega | (show _ < _; omega) | (simp; omega) | (simp; done))) (by (first | omega | (show _ < _; omega) | (simp; omega) | (simp; done)))))))) HZ.out.1 HZ.out.2).mono ?_
  rintro e w2 ⟨_, rfl, ⟨p0, p1, rfl, P1, P2⟩, hb2⟩
  have hsz_w2 := hb2.size
  (try simp at hsz_w2)
  obtain ⟨hc_w2, hf_w2⟩ := bcell hb2
  have hk0_w2 := fun o => hc_w2 (w.heap.size) o (by first | omega | (simp; done) | (simp; omega))
  have hj0_w2 := fun o => hf_w2 (w.heap.size) o (by first | omega | (simp; done) | (simp; omega))
  clear hc_w2 hf_w2
  have hb2' : Below w.heap.size w w2 := hb1'.trans (hb2.mono (by omega))
  clear hb2
  have HP1 := Lib.hid P1
  have HP2 := Lib.hid P2
  clear P1 P2
  go_wp2_with fail
  refine (specSafe_any _ n n zss _ n2 n2 yss _ HP1.out.mat HP2.out.mat HZ.out.1 HZ.out.2).mono ?_
  rintro e w3 ⟨rfl, hb3⟩
  have hsz_w3 := hb3.size
  (try simp at hsz_w3)
  obtain ⟨hc_w3, hf_w3⟩ := bcell hb3
  have hk0_w3 := fun o => hc_w3 (w.heap.size) o (by first | omega | (simp; done) | (simp; omega))
  have hj0_w3 := fun o => hf_w3 (w.heap.size) o (by first | omega | (simp; done) | (simp; omega))
  clear hc_w3 hf_w3
  have hb3' : Below w.heap.size w w3 := hb2'.trans (hb3.mono (by omega))
  clear hb3 HP1 HP2
  go_wp2_with fail
  refine (toConfig_any A n c zss A2 n2 c2 yss _ (HM.out.to (by (repeat (first | (with_reducible exact Below.refl _ _) | (with_reducible assumption) | (with_reducible refine below_drewN ?_ _) | (with_reducible refine Below.drew ?_) | (with_reducible refine Below.alloc ?_ (by (first | omega | (show _ < _; omega) | (simp; omega) | (simp; done))) _) | (with_reducible refine Below.setCell ?_ (by (first | omega | (show _ < _; omega) | (simp; omega) | (simp; done))) _) | (with_reducible refine Below.trans ?_ (Below.mono (by with_reducible assumption) (by (first | omega | (show _ < _; omega) | (simp; omega) | (simp; done))))) | (with_reducible refine below_grown ?_ (by with_reducible assumption) (by (first | omega | (show _ < _; omega) | (simp; omega) | (simp; done))) (by (first | omega | (show _ < _; omega) | (simp; omega) | (simp; done)))))))) (HN.out.to (by (repeat (first | (with_reducible exact Below.refl _ _) | (with_reducible assumption) | (with_reducible refine below_drewN ?_ _) | (with_reducible refine Below.drew ?_) | (with_reducible refine Below.alloc ?_ (by (first | omega | (show _ < _; omega) | (simp; omega) | (simp; done))) _) | (with_reducible refine Below.setCell ?_ (by (first | omega | (show _ < _; omega) | (simp; omega) | (simp; done))) _) | (with_reducible refine Below.trans ?_ (Below.mono (by with_reducible assumption) (by (first | omega | (show _ < _; omega) | (simp; omega) | (simp; done))))) | (with_reducible refine below_grown ?_ (by with_reducible assumption) (by (first | omega | (show _ < _; omega) | (simp; omega) | (simp; done))) (by (first | omega | (show _ < _; omega) | (simp; omega) | (simp; done)))))))) HZ.out.1 HZ.out.2).mono ?_
  rintro e w4 ⟨_, rfl, ⟨g0, g1, rfl, C1, C2⟩, hb4⟩
  have hsz_w4 := hb4.size
  (try simp at hsz_w4)
  obtain ⟨hc_w4, hf_w4⟩ := bcell hb4
  have hk0_w4 := fun o => hc_w4 (w.heap.size) o (by first | omega | (simp; done) | (simp; omega))
  have hj0_w4 := fun o => hf_w4 (w.heap.size) o (by first | omega | (simp; done) | (simp; omega))
  clear hc_w4 hf_w4
  have hb4' : Below w.heap.size w w4 := hb3'.trans (hb4.mono (by omega))
  clear hb4
  have HC1 := Lib.hid C1
  have HC2 := Lib.hid C2
  clear C1 C2
  go_wp2_with fail
  rw [HQ.out]
  have c1 := HC1.out.mp.lt
  have c2 := HC2.out.mp.lt
  refine .inl ⟨rfl, _, _, _, _, _, _, _, _, _, _, _, _, _, g0, g1, rfl, ⟨?_, ?_, ?_, ?_, ?_, ?_⟩, HZ.out.1, HZ.out.2, Bel.of' (by (repeat (first | (with_reducible exact Below.refl _ _) | (with_reducible assumption) | (with_reducible refine below_drewN ?_ _) | (with_reducible refine Below.drew ?_) | (with_reducible refine Below.alloc ?_ (by (first | omega | (show _ < _; omega) | (simp; omega) | (simp; done))) _) | (with_reducible refine Below.setCell ?_ (by (first | omega | (show _ < _; omega) | (simp; omega) | (simp; done))) _) | (with_reducible refine Below.trans ?_ (Below.mono (by with_reducible assumption) (by (first | omega | (show _ < _; omega) | (simp; omega) | (simp; done))))) | (with_reducible refine below_grown ?_ (by with_reducible assumption) (by (first | omega | (show _ < _; omega) | (simp; omega) | (simp; done))) (by (first | omega | (show _ < _; omega) | (simp; omega) | (simp; done)))))))⟩
  · rw [World.cell?_alloc_lt _ _ _ (by simp; omega), hk0_w4, hk0_w3, hk0_w2, hk0_w1]; simp
  · rw [World.cell?_alloc_lt _ _ _ (by simp; omega), hk0_w4, hk0_w3, hk0_w2, hk0_w1]; simp
  · simp
  · simp
  · exact HC1.out.below ((Below.refl _ _).alloc (Nat.le_refl _) _)
  · exact HC2.out.below ((Below.refl _ _).alloc (Nat.le_refl _) _)

theorem plain4 : plainCode SP (headN 5 (bodyOf 4)) = true := by kernel_rfl
theorem graft4 : graft (headN 5 (bodyOf 4)) (tailN 5 (bodyOf 4)) = bodyOf 4 := by kernel_rfl
noncomputable def Z4 : Code := tailN 5 (bodyOf 4)
theorem plainS4 : plainCode SP (restOf Z4) = true := by kernel_rfl
/-- The law's end. -/
theorem lawS (A : Option Addr) (n c : Nat) (zss : List (List Int)) (A2 : Option Addr) (n2 c2 : Nat) (yss : List (List Int)) (b1 b5 g0 g1 : Nat) (m : Bool) (v3 d7 d8 d9 d10 d11 d12 d13 d14 d15 d16 d17 d18 : Value) (w : World) (hM : ArgM w A n c zss) (hN : ArgM w A2 n2 c2 yss) (hS : CsSt A n c zss A2 n2 c2 yss b1 b5 g0 g1 w) (hz : SzOk zss n) (hz2 : SzOk yss n2) :
    (restOf Z4).wp Tryd.prog (QQ (fun _ _ => False) (QR4 w)) ⟨#[.agg #[.slice A n c, .slice A2 n2 c2], .pointer (some ⟨b1, 0, none⟩), .bool false, v3, .bool m, .pointer (some ⟨b5, 0, none⟩), .bool m, d7, d8, d9, d10, d11, d12, d13, d14, d15, d16, d17, d18, undef, undef, undef, undef, undef, undef, undef, undef], []⟩ w := by
  obtain ⟨Q, hQ⟩ : ∃ Q, Q = QQ (fun _ _ => False) (QR4 w) := ⟨_, rfl⟩
  rw [← hQ]
  have HQ := Lib.hid hQ
  clear hQ
  have hA0 := hS.a0
  have hA1 := hS.a1
  have hX0 := hS.x0
  have hX1 := hS.x1
  have HC1 := Lib.hid hS.C1
  have HC2 := Lib.hid hS.C2
  have HM := Lib.hid hM
  have HN := Lib.hid hN
  have l1 := World.block_lt_of_cell? _ _ hA0
  have l5 := World.block_lt_of_cell? _ _ hX0
  simp only at l1 l5
  clear hM hN hS
  simp only [restOf, Z4, bodyOf, tailN, Tryd.func4, Tryd.f4, Option.bind_some, Option.getD_some]
  go_wp2_with fail
  have keep4 : ∀ y : World, Below w.heap.size w y → (Below w.heap.size w y ∧ y.cell? ⟨b1, 0, none⟩ = some (.slice A n c) ∧ y.cell? ⟨b1, 1, none⟩ = some (.slice A2 n2 c2) ∧ y.cell? ⟨b5, 0, none⟩ = some (.slice (some ⟨g0, 0, none⟩) n n) ∧ y.cell? ⟨b5, 1, none⟩ = some (.slice (some ⟨g1, 0, none⟩) n2 n2)) :=
    fun y hb => ⟨hb, (hb.cell (p := ⟨b1, 0, none⟩) l1).trans hA0, (hb.cell (p := ⟨b1, 1, none⟩) l1).trans hA1, (hb.cell (p := ⟨b5, 0, none⟩) l5).trans hX0, (hb.cell (p := ⟨b5, 1, none⟩) l5).trans hX1⟩
  have HK := Lib.hid keep4
  clear keep4
  go_region_held3 (fun y => Below w.heap.size w y ∧ y.cell? ⟨b1, 0, none⟩ = some (.slice A n c) ∧ y.cell? ⟨b1, 1, none⟩ = some (.slice A2 n2 c2) ∧ y.cell? ⟨b5, 0, none⟩ = some (.slice (some ⟨g0, 0, none⟩) n n) ∧ y.cell? ⟨b5, 1, none⟩ = some (.slice (some ⟨g1, 0, none⟩) n2 n2)) ((first | assumption | exact HK.out _ (by (first | assumption | ((repeat (first | (with_reducible exact Below.refl _ _) | (with_reducible assumption) | (with_reducible refine below_drewN ?_ _) | (with_reducible refine Below.drew ?_) | (with_reducible refine Below.alloc ?_ (by (first | omega | (show _ < _; omega) | (simp; omega) | (simp; done))) _) | (with_reducible refine Below.setCell ?_ (by (first | omega | (show _ < _; omega) | (simp; omega) | (simp; done))) _) | (with_reducible refine Below.trans ?_ (Below.mono (by with_reducible assumption) (by (first | omega | (show _ < _; omega) | (simp; omega) | (simp; done))))) | (with_reducible refine below_grown ?_ (by with_reducible assumption) (by (first | omega | (show _ < _; omega) | (simp; omega) | (simp; done))) (by (first | omega | (show _ < _; omega) | (simp; omega) | (simp; done)))))); done) | (have hh := (by assumption : Below w.heap.size w _ ∧ _); exact hh.1))))) (first
    | (go_at_call 16; refine (toConfig_any A n c zss A2 n2 c2 yss _ (HM.out.to (by (repeat (first | (with_reducible exact Below.refl _ _) | (with_reducible assumption) | (with_reducible refine below_drewN ?_ _) | (with_reducible refine Below.drew ?_) | (with_reducible refine Below.alloc ?_ (by (first | omega | (show _ < _; omega) | (simp; omega) | (simp; done))) _) | (with_reducible refine Below.setCell ?_ (by (first | omega | (show _ < _; omega) | (simp; omega) | (simp; done))) _) | (with_reducible refine Below.trans ?_ (Below.mono (by with_reducible assumption) (by (first | omega | (show _ < _; omega) | (simp; omega) | (simp; done))))) | (with_reducible refine below_grown ?_ (by with_reducible assumption) (by (first | omega | (show _ < _; omega) | (simp; omega) | (simp; done))) (by (first | omega | (show _ < _; omega) | (simp; omega) | (simp; done)))))))) (HN.out.to (by (repeat (first | (with_reducible exact Below.refl _ _) | (with_reducible assumption) | (with_reducible refine below_drewN ?_ _) | (with_reducible refine Below.drew ?_) | (with_reducible refine Below.alloc ?_ (by (first | omega | (show _ < _; omega) | (simp; omega) | (simp; done))) _) | (with_reducible refine Below.setCell ?_ (by (first | omega | (show _ < _; omega) | (simp; omega) | (simp; done))) _) | (with_reducible refine Below.trans ?_ (Below.mono (by with_reducible assumption) (by (first | omega | (show _ < _; omega) | (simp; omega) | (simp; done))))) | (with_reducible refine below_grown ?_ (by with_reducible assumption) (by (first | omega | (show _ < _; omega) | (simp; omega) | (simp; done))) (by (first | omega | (show _ < _; omega) | (simp; omega) | (simp; done)))))))) hz hz2).mono ?_; rintro e w1 ⟨_, rfl, ⟨h0, h1, rfl, D1, D2⟩, hb1⟩; have hb1' : Below w.heap.size w w1 := (by (repeat (first | (with_reducible exact Below.refl _ _) | (with_reducible assumption) | (with_reducible refine below_drewN ?_ _) | (with_reducible refine Below.drew ?_) | (with_reducible refine Below.alloc ?_ (by (first | omega | (show _ < _; omega) | (simp; omega) | (simp; done))) _) | (with_reducible refine Below.setCell ?_ (by (first | omega | (show _ < _; omega) | (simp; omega) | (simp; done))) _) | (with_reducible refine Below.trans ?_ (Below.mono (by with_reducible assumption) (by (first | omega | (show _ < _; omega) | (simp; omega) | (simp; done))))) | (with_reducible refine below_grown ?_ (by with_reducible assumption) (by (first | omega | (show _ < _; omega) | (simp; omega) | (simp; done))) (by (first | omega | (show _ < _; omega) | (simp; omega) | (simp; done))))))); have hsz1 := hb1'.size; clear hb1; have HD1 := Lib.hid D1; have HD2 := Lib.hid D2; clear D1 D2)
    | (go_at_call 18; refine (eqConfig_any n zss n2 yss _ (HC1.out.below (by (repeat (first | (with_reducible exact Below.refl _ _) | (with_reducible assumption) | (with_reducible refine below_drewN ?_ _) | (with_reducible refine Below.drew ?_) | (with_reducible refine Below.alloc ?_ (by (first | omega | (show _ < _; omega) | (simp; omega) | (simp; done))) _) | (with_reducible refine Below.setCell ?_ (by (first | omega | (show _ < _; omega) | (simp; omega) | (simp; done))) _) | (with_reducible refine Below.trans ?_ (Below.mono (by with_reducible assumption) (by (first | omega | (show _ < _; omega) | (simp; omega) | (simp; done))))) | (with_reducible refine below_grown ?_ (by with_reducible assumption) (by (first | omega | (show _ < _; omega) | (simp; omega) | (simp; done))) (by (first | omega | (show _ < _; omega) | (simp; omega) | (simp; done)))))))) (HC2.out.below (by (repeat (first | (with_reducible exact Below.refl _ _) | (with_reducible assumption) | (with_reducible refine below_drewN ?_ _) | (with_reducible refine Below.drew ?_) | (with_reducible refine Below.alloc ?_ (by (first | omega | (show _ < _; omega) | (simp; omega) | (simp; done))) _) | (with_reducible refine Below.setCell ?_ (by (first | omega | (show _ < _; omega) | (simp; omega) | (simp; done))) _) | (with_reducible refine Below.trans ?_ (Below.mono (by with_reducible assumption) (by (first | omega | (show _ < _; omega) | (simp; omega) | (simp; done))))) | (with_reducible refine below_grown ?_ (by with_reducible assumption) (by (first | omega | (show _ < _; omega) | (simp; omega) | (simp; done))) (by (first | omega | (show _ < _; omega) | (simp; omega) | (simp; done)))))))) HD1.out HD2.out).mono ?_; rintro e w2 ⟨rfl, hb2⟩; have hb2' : Below w.heap.size w w2 := (by (repeat (first | (with_reducible exact Below.refl _ _) | (with_reducible assumption) | (with_reducible refine below_drewN ?_ _) | (with_reducible refine Below.drew ?_) | (with_reducible refine Below.alloc ?_ (by (first | omega | (show _ < _; omega) | (simp; omega) | (simp; done))) _) | (with_reducible refine Below.setCell ?_ (by (first | omega | (show _ < _; omega) | (simp; omega) | (simp; done))) _) | (with_reducible refine Below.trans ?_ (Below.mono (by with_reducible assumption) (by (first | omega | (show _ < _; omega) | (simp; omega) | (simp; done))))) | (with_reducible refine below_grown ?_ (by with_reducible assumption) (by (first | omega | (show _ < _; omega) | (simp; omega) | (simp; done))) (by (first | omega | (show _ < _; omega) | (simp; omega) | (simp; done))))))); clear hb2))
  all_goals go_wp2
  all_goals rw [HQ.out]
  all_goals exact .inr ⟨rfl, rfl, rfl, Bel.of' (by (repeat (first | (with_reducible exact Below.refl _ _) | (with_reducible assumption) | (with_reducible refine below_drewN ?_ _) | (with_reducible refine Below.drew ?_) | (with_reducible refine Below.alloc ?_ (by (first | omega | (show _ < _; omega) | (simp; omega) | (simp; done))) _) | (with_reducible refine Below.setCell ?_ (by (first | omega | (show _ < _; omega) | (simp; omega) | (simp; done))) _) | (with_reducible refine Below.trans ?_ (Below.mono (by with_reducible assumption) (by (first | omega | (show _ < _; omega) | (simp; omega) | (simp; done))))) | (with_reducible refine below_grown ?_ (by with_reducible assumption) (by (first | omega | (show _ < _; omega) | (simp; omega) | (simp; done))) (by (first | omega | (show _ < _; omega) | (simp; omega) | (simp; done)))))))⟩

end Go.Proofs.YtafhpbghogdipaaDoor

/- impl.ConfigSafe and impl.readConfig around common: the lone parts. -/
namespace Go.Proofs.YtafhpbghogdipaaDoor
open Go.RowKit
set_option maxHeartbeats 4000000
set_option maxRecDepth 100000
set_option linter.unusedVariables false
set_option linter.unusedSimpArgs false

theorem cell_set_off (w : World) {b o o' : Nat} (u : Value) (h : o ≠ o') : (w.setCell ⟨b, o, none⟩ u).cell? ⟨b, o', none⟩ = w.cell? ⟨b, o', none⟩ := by
  unfold World.setCell World.cell?
  simp only [Array.getElem?_modify]
  cases hw : w.heap[b]? with
  | none => simp
  | some x => cases x <;> simp [Array.getElem?_setIfInBounds_ne h]
theorem two_set {w : World} {b : Nat} {u v u0 v0 : Value} (h0 : w.cell? ⟨b, 0, none⟩ = some u0) (h1 : w.cell? ⟨b, 1, none⟩ = some v0) :
    ((w.setCell ⟨b, 0, none⟩ u).setCell ⟨b, 1, none⟩ v).drew.cell? ⟨b, 0, none⟩ = some u ∧ ((w.setCell ⟨b, 0, none⟩ u).setCell ⟨b, 1, none⟩ v).drew.cell? ⟨b, 1, none⟩ = some v := by
  constructor
  · show ((w.setCell ⟨b, 0, none⟩ u).setCell ⟨b, 1, none⟩ v).cell? ⟨b, 0, none⟩ = some u
    rw [cell_set_off _ _ (by decide), cell_set_map, h0]
    rfl
  · show ((w.setCell ⟨b, 0, none⟩ u).setCell ⟨b, 1, none⟩ v).cell? ⟨b, 1, none⟩ = some v
    rw [cell_set_map, cell_set_off _ _ (by decide), h1]
    rfl
section
variable (g0 n : Nat) (zss : List (List Int)) (g1 n2 : Nat) (yss : List (List Int))
/-- readConfig stands ahead of common. -/
def QD (w0 : World) (a : Act) (w : World) : Prop :=
  ∃ (d1 d8 d9 d10 d11 d12 d13 d14 d15 d16 d17 d18 d19 d20 d21 d22 d23 d24 d25 d26 d27 d28 d29 d30 d31 d32 d33 v1 v2 : Value) (b2 b7 : Nat), a = ⟨#[.agg #[.slice (some ⟨g0, 0, none⟩) n n, .slice (some ⟨g1, 0, none⟩) n2 n2], d1, .pointer (some ⟨b2, 0, none⟩), .nilIface, v1, v2, .bool true, .pointer (some ⟨b7, 0, none⟩), d8, d9, d10, d11, d12, d13, d14, d15, d16, d17, d18, d19, d20, d21, d22, d23, d24, d25, d26, d27, d28, d29, d30, d31, d32, d33, undef, undef, undef, undef, undef, undef, undef, undef], []⟩ ∧
    (∃ A1 c1 A2 c2, v1 = .slice A1 n c1 ∧ v2 = .slice A2 n2 c2 ∧ n ≤ c1 ∧ n2 ≤ c2 ∧ Row w w.heap.size A1 (mV (mAt zss) n) ∧ Row w w.heap.size A2 (mV (mAt yss) n2)) ∧
    (w.cell? ⟨b2, 0, none⟩ = some (.slice none 0 0) ∧ w.cell? ⟨b2, 1, none⟩ = some (.slice none 0 0) ∧ w.cell? ⟨b7, 0, none⟩ = some v1 ∧ w.cell? ⟨b7, 1, none⟩ = some v2 ∧ b2 ≠ b7 ∧ w.frozen? ⟨b2, 0, none⟩ = false ∧ w.frozen? ⟨b2, 1, none⟩ = false ∧ w0.heap.size ≤ b2) ∧
    (famB zss && famB yss && decide (0 < n) && decide (0 < n2)) = true ∧ Bel w0.heap.size w0 w
/-- readConfig gives its results: the error is ev. -/
def QE29 (ev : Value) (B : Nat) (w0 : World) (a : Act) (w : World) : Prop :=
  ∃ (b2 : Nat) (X : Option Addr) (nx cx : Nat) (Y : Option Addr) (ny cy : Nat), a.defers = [] ∧ a.tmps.getD 2 undef = .pointer (some ⟨b2, 0, none⟩) ∧ a.tmps.getD 3 undef = ev ∧ w.cell? ⟨b2, 0, none⟩ = some (.slice X nx cx) ∧ w.cell? ⟨b2, 1, none⟩ = some (.slice Y ny cy) ∧ Bel B w0 w
def QEi (a0 : Addr) (w0 : World) (a : Act) (w : World) : Prop := QE29 (.iface 126 (.pointer (some a0))) w0.heap.size w0 a w ∧ (famB zss && famB yss && decide (0 < n) && decide (0 < n2)) = false
theorem QD.tp {w0 : World} (a : Act) (w : World) (T : Nat → Question → Nat) (d : Nat) (h : QD g0 n zss g1 n2 yss w0 a w) : QD g0 n zss g1 n2 yss w0 a (tp w T d) := by
  obtain ⟨d1, d8, d9, d10, d11, d12, d13, d14, d15, d16, d17, d18, d19, d20, d21, d22, d23, d24, d25, d26, d27, d28, d29, d30, d31, d32, d33, v1, v2, b2, b7, e, h1, h2, h3, h4⟩ := h
  exact ⟨d1, d8, d9, d10, d11, d12, d13, d14, d15, d16, d17, d18, d19, d20, d21, d22, d23, d24, d25, d26, d27, d28, d29, d30, d31, d32, d33, v1, v2, b2, b7, e, h1, h2, h3, h4.tp T d⟩
theorem QE29.tp {ev : Value} {B : Nat} {w0 : World} (a : Act) (w : World) (T : Nat → Question → Nat) (d : Nat) (h : QE29 ev B w0 a w) : QE29 ev B w0 a (tp w T d) := by
  obtain ⟨b2, X, nx, cx, Y, ny, cy, h1, h2, h3, h4, h5, h6⟩ := h
  exact ⟨b2, X, nx, cx, Y, ny, cy, h1, h2, h3, h4, h5, h6.tp T d⟩
end
theorem plain29 : plainCode SP (headN 3 (bodyOf 29)) = true := by kernel_rfl
theorem graft29 : graft (headN 3 (bodyOf 29)) (tailN 3 (bodyOf 29)) = bodyOf 29 := by kernel_rfl
noncomputable def Z29 : Code := tailN 3 (bodyOf 29)
noncomputable def K29 : Code := match Z29 with | .seq (.seq _ k) _ => k | _ => .skip
noncomputable def R29 : Code := restOf Z29
noncomputable def ops29 : Array Oper := match Z29 with | .seq (.seq (.region _ ops _) _) _ => ops | _ => #[]
theorem plainK29 : plainCode SP K29 = true := by kernel_rfl
theorem plainR29 : plainCode SP R29 = true := by kernel_rfl
set_option maxHeartbeats 16000000 in
theorem readA (g0 n : Nat) (zss : List (List Int)) (g1 n2 : Nat) (yss : List (List Int)) (w : World) (h1 : CpM w g0 n zss) (h2 : CpM w g1 n2 yss) (a0 a1 : Addr) (hE : EV w a0 a1) :
    (headN 3 (bodyOf 29)).wp Tryd.prog (QQ (QD g0 n zss g1 n2 yss w) (QEi n zss n2 yss a0 w)) ⟨#[.agg #[.slice (some ⟨g0, 0, none⟩) n n, .slice (some ⟨g1, 0, none⟩) n2 n2]] ++ Array.replicate (42 - 1) undef, []⟩ w := by
  obtain ⟨Q, hQ⟩ : ∃ Q, Q = QQ (QD g0 n zss g1 n2 yss w) (QEi n zss n2 yss a0 w) := ⟨_, rfl⟩
  rw [← hQ]
  have HQ := Lib.hid hQ
  clear hQ
  have HE := Lib.hid hE
  have HC1 := Lib.hid h1
  have HC2 := Lib.hid h2
  clear h1 h2 hE
  have HK := Lib.hid (fun (W : World) (hb : Below w.heap.size w W) => readFamilies_any _ n n zss _ n2 n2 yss W (HC1.out.below hb).mat HC1.out.ok (HC2.out.below hb).mat HC2.out.ok)
  simp only [bodyOf, Tryd.func29, Tryd.f29, headN, Option.bind_some, Option.getD_some, Array.replicate, List.replicate, List.append_toArray, List.cons_append, List.nil_append, Nat.reduceSub]
  go_wp2_with fail
  refine (HK.out _ (by (repeat (first | (with_reducible exact Below.refl _ _) | (with_reducible assumption) | (with_reducible refine below_drewN ?_ _) | (with_reducible refine Below.drew ?_) | (with_reducible refine Below.alloc ?_ (by (first | omega | (show _ < _; omega) | (simp; omega) | (simp; done))) _) | (with_reducible refine Below.setCell ?_ (by (first | omega | (show _ < _; omega) | (simp; omega) | (simp; done))) _) | (with_reducible refine Below.trans ?_ (Below.mono (by with_reducible assumption) (by (first | omega | (show _ < _; omega) | (simp; omega) | (simp; done))))) | (with_reducible refine below_grown ?_ (by with_reducible assumption) (by (first | omega | (show _ < _; omega) | (simp; omega) | (simp; done))) (by (first | omega | (show _ < _; omega) | (simp; omega) | (simp; done)))))))).mono ?_
  rintro e w1 ⟨hb, v1, v2, rfl, hr⟩
  have hsz1 := hb.size
  simp at hsz1
  obtain ⟨hc_w1, hf_w1⟩ := bcell hb
  have k1 := fun o => hc_w1 (w.heap.size + 1) o (by first | omega | (simp; done) | (simp; omega))
  have j1 := fun o => hf_w1 (w.heap.size + 1) o (by first | omega | (simp; done) | (simp; omega))
  clear hc_w1 hf_w1
  have hb1 : Below w.heap.size w w1 := by (repeat (first | (with_reducible exact Below.refl _ _) | (with_reducible assumption) | (with_reducible refine below_drewN ?_ _) | (with_reducible refine Below.drew ?_) | (with_reducible refine Below.alloc ?_ (by (first | omega | (show _ < _; omega) | (simp; omega) | (simp; done))) _) | (with_reducible refine Below.setCell ?_ (by (first | omega | (show _ < _; omega) | (simp; omega) | (simp; done))) _) | (with_reducible refine Below.trans ?_ (Below.mono (by with_reducible assumption) (by (first | omega | (show _ < _; omega) | (simp; omega) | (simp; done))))) | (with_reducible refine below_grown ?_ (by with_reducible assumption) (by (first | omega | (show _ < _; omega) | (simp; omega) | (simp; done))) (by (first | omega | (show _ < _; omega) | (simp; omega) | (simp; done))))))
  have HB := Lib.hid hb1
  have HR := Lib.hid hr
  have g0c := (HE.out.below hb1).c0
  clear hb hr hb1
  have HI := Lib.hid (fun (y : World) (hb : Below w.heap.size w y) => (⟨hb, (HE.out.below hb).c0⟩ : Below w.heap.size w y ∧ y.cell? ⟨0, 0, none⟩ = some (.iface 126 (.pointer (some a0)))))
  obtain ⟨p, hp⟩ : ∃ p, p = (famB zss && famB yss) := ⟨_, rfl⟩
  rw [← hp]
  have HP := Lib.hid hp
  clear hp
  cases p
  · go_wp2_with fail
    go_region_held3 (fun y => Below w.heap.size w y ∧ y.cell? ⟨0, 0, none⟩ = some (.iface 126 (.pointer (some a0)))) ((first | assumption | exact HI.out _ (by (first | assumption | exact HB.out | (have HBo := HB.out; (repeat (first | (with_reducible exact Below.refl _ _) | (with_reducible assumption) | (with_reducible refine below_drewN ?_ _) | (with_reducible refine Below.drew ?_) | (with_reducible refine Below.alloc ?_ (by (first | omega | (show _ < _; omega) | (simp; omega) | (simp; done))) _) | (with_reducible refine Below.setCell ?_ (by (first | omega | (show _ < _; omega) | (simp; omega) | (simp; done))) _) | (with_reducible refine Below.trans ?_ (Below.mono (by with_reducible assumption) (by (first | omega | (show _ < _; omega) | (simp; omega) | (simp; done))))) | (with_reducible refine below_grown ?_ (by with_reducible assumption) (by (first | omega | (show _ < _; omega) | (simp; omega) | (simp; done))) (by (first | omega | (show _ < _; omega) | (simp; omega) | (simp; done)))))); done) | (have hh := (by assumption : Below w.heap.size w _ ∧ _); have hho := hh.1; (repeat (first | (with_reducible exact Below.refl _ _) | (with_reducible assumption) | (with_reducible refine below_drewN ?_ _) | (with_reducible refine Below.drew ?_) | (with_reducible refine Below.alloc ?_ (by (first | omega | (show _ < _; omega) | (simp; omega) | (simp; done))) _) | (with_reducible refine Below.setCell ?_ (by (first | omega | (show _ < _; omega) | (simp; omega) | (simp; done))) _) | (with_reducible refine Below.trans ?_ (Below.mono (by with_reducible assumption) (by (first | omega | (show _ < _; omega) | (simp; omega) | (simp; done))))) | (with_reducible refine below_grown ?_ (by with_reducible assumption) (by (first | omega | (show _ < _; omega) | (simp; omega) | (simp; done))) (by (first | omega | (show _ < _; omega) | (simp; omega) | (simp; done)))))); done))))) (fail)
    all_goals go_wp2
    all_goals rw [HQ.out]
    all_goals (have HBo := HB.out; exact .inr ⟨rfl, ⟨w.heap.size + 1, none, 0, 0, none, 0, 0, rfl, rfl, rfl, (two_set (u0 := .slice none 0 0) (v0 := .slice none 0 0) (by simp [k1]) (by simp [k1])).1, (two_set (u0 := .slice none 0 0) (v0 := .slice none 0 0) (by simp [k1]) (by simp [k1])).2, Bel.of' (by (repeat (first | (with_reducible exact Below.refl _ _) | (with_reducible assumption) | (with_reducible refine below_drewN ?_ _) | (with_reducible refine Below.drew ?_) | (with_reducible refine Below.alloc ?_ (by (first | omega | (show _ < _; omega) | (simp; omega) | (simp; done))) _) | (with_reducible refine Below.setCell ?_ (by (first | omega | (show _ < _; omega) | (simp; omega) | (simp; done))) _) | (with_reducible refine Below.trans ?_ (Below.mono (by with_reducible assumption) (by (first | omega | (show _ < _; omega) | (simp; omega) | (simp; done))))) | (with_reducible refine below_grown ?_ (by with_reducible assumption) (by (first | omega | (show _ < _; omega) | (simp; omega) | (simp; done))) (by (first | omega | (show _ < _; omega) | (simp; omega) | (simp; done)))))))⟩, by rw [← HP.out]; rfl⟩)
  · obtain ⟨A1, c1, A2, c2, rfl, rfl, hc1, hc2, r1, r2⟩ := HR.out HP.out.symm
    have HR1 := Lib.hid r1
    have HR2 := Lib.hid r2
    clear r1 r2
    by_cases hn : n = 0
    · have e1 : ((n : Nat) : Int) = 0 := by omega
      go_wp2_with fail
      go_region_held3 (fun y => Below w.heap.size w y ∧ y.cell? ⟨0, 0, none⟩ = some (.iface 126 (.pointer (some a0)))) ((first | assumption | exact HI.out _ (by (first | assumption | exact HB.out | (have HBo := HB.out; (repeat (first | (with_reducible exact Below.refl _ _) | (with_reducible assumption) | (with_reducible refine below_drewN ?_ _) | (with_reducible refine Below.drew ?_) | (with_reducible refine Below.alloc ?_ (by (first | omega | (show _ < _; omega) | (simp; omega) | (simp; done))) _) | (with_reducible refine Below.setCell ?_ (by (first | omega | (show _ < _; omega) | (simp; omega) | (simp; done))) _) | (with_reducible refine Below.trans ?_ (Below.mono (by with_reducible assumption) (by (first | omega | (show _ < _; omega) | (simp; omega) | (simp; done))))) | (with_reducible refine below_grown ?_ (by with_reducible assumption) (by (first | omega | (show _ < _; omega) | (simp; omega) | (simp; done))) (by (first | omega | (show _ < _; omega) | (simp; omega) | (simp; done)))))); done) | (have hh := (by assumption : Below w.heap.size w _ ∧ _); have hho := hh.1; (repeat (first | (with_reducible exact Below.refl _ _) | (with_reducible assumption) | (with_reducible refine below_drewN ?_ _) | (with_reducible refine Below.drew ?_) | (with_reducible refine Below.alloc ?_ (by (first | omega | (show _ < _; omega) | (simp; omega) | (simp; done))) _) | (with_reducible refine Below.setCell ?_ (by (first | omega | (show _ < _; omega) | (simp; omega) | (simp; done))) _) | (with_reducible refine Below.trans ?_ (Below.mono (by with_reducible assumption) (by (first | omega | (show _ < _; omega) | (simp; omega) | (simp; done))))) | (with_reducible refine below_grown ?_ (by with_reducible assumption) (by (first | omega | (show _ < _; omega) | (simp; omega) | (simp; done))) (by (first | omega | (show _ < _; omega) | (simp; omega) | (simp; done)))))); done))))) (fail)
      all_goals go_wp2
      all_goals rw [HQ.out]
      all_goals (have HBo := HB.out; exact .inr ⟨rfl, ⟨w.heap.size + 1, none, 0, 0, none, 0, 0, rfl, rfl, rfl, (two_set (u0 := .slice none 0 0) (v0 := .slice none 0 0) (by simp [k1]) (by simp [k1])).1, (two_set (u0 := .slice none 0 0) (v0 := .slice none 0 0) (by simp [k1]) (by simp [k1])).2, Bel.of' (by (repeat (first | (with_reducible exact Below.refl _ _) | (with_reducible assumption) | (with_reducible refine below_drewN ?_ _) | (with_reducible refine Below.drew ?_) | (with_reducible refine Below.alloc ?_ (by (first | omega | (show _ < _; omega) | (simp; omega) | (simp; done))) _) | (with_reducible refine Below.setCell ?_ (by (first | omega | (show _ < _; omega) | (simp; omega) | (simp; done))) _) | (with_reducible refine Below.trans ?_ (Below.mono (by with_reducible assumption) (by (first | omega | (show _ < _; omega) | (simp; omega) | (simp; done))))) | (with_reducible refine below_grown ?_ (by with_reducible assumption) (by (first | omega | (show _ < _; omega) | (simp; omega) | (simp; done))) (by (first | omega | (show _ < _; omega) | (simp; omega) | (simp; done)))))))⟩, by simp [hn]⟩)
    · have e1 : (((n : Nat) : Int) == 0) = false := by simp; omega
      by_cases hn2 : n2 = 0
      · have e2 : ((n2 : Nat) : Int) = 0 := by omega
        go_wp2_with fail
        go_region_held3 (fun y => Below w.heap.size w y ∧ y.cell? ⟨0, 0, none⟩ = some (.iface 126 (.pointer (some a0)))) ((first | assumption | exact HI.out _ (by (first | assumption | exact HB.out | (have HBo := HB.out; (repeat (first | (with_reducible exact Below.refl _ _) | (with_reducible assumption) | (with_reducible refine below_drewN ?_ _) | (with_reducible refine Below.drew ?_) | (with_reducible refine Below.alloc ?_ (by (first | omega | (show _ < _; omega) | (simp; omega) | (simp; done))) _) | (with_reducible refine Below.setCell ?_ (by (first | omega | (show _ < _; omega) | (simp; omega) | (simp; done))) _) | (with_reducible refine Below.trans ?_ (Below.mono (by with_reducible assumption) (by (first | omega | (show _ < _; omega) | (simp; omega) | (simp; done))))) | (with_reducible refine below_grown ?_ (by with_reducible assumption) (by (first | omega | (show _ < _; omega) | (simp; omega) | (simp; done))) (by (first | omega | (show _ < _; omega) | (simp; omega) | (simp; done)))))); done) | (have hh := (by assumption : Below w.heap.size w _ ∧ _); have hho := hh.1; (repeat (first | (with_reducible exact Below.refl _ _) | (with_reducible assumption) | (with_reducible refine below_drewN ?_ _) | (with_reducible refine Below.drew ?_) | (with_reducible refine Below.alloc ?_ (by (first | omega | (show _ < _; omega) | (simp; omega) | (simp; done))) _) | (with_reducible refine Below.setCell ?_ (by (first | omega | (show _ < _; omega) | (simp; omega) | (simp; done))) _) | (with_reducible refine Below.trans ?_ (Below.mono (by with_reducible assumption) (by (first | omega | (show _ < _; omega) | (simp; omega) | (simp; done))))) | (with_reducible refine below_grown ?_ (by with_reducible assumption) (by (first | omega | (show _ < _; omega) | (simp; omega) | (simp; done))) (by (first | omega | (show _ < _; omega) | (simp; omega) | (simp; done)))))); done))))) (fail)
        all_goals go_wp2
        all_goals rw [HQ.out]
        all_goals (have HBo := HB.out; exact .inr ⟨rfl, ⟨w.heap.size + 1, none, 0, 0, none, 0, 0, rfl, rfl, rfl, (two_set (u0 := .slice none 0 0) (v0 := .slice none 0 0) (by simp [k1]) (by simp [k1])).1, (two_set (u0 := .slice none 0 0) (v0 := .slice none 0 0) (by simp [k1]) (by simp [k1])).2, Bel.of' (by (repeat (first | (with_reducible exact Below.refl _ _) | (with_reducible assumption) | (with_reducible refine below_drewN ?_ _) | (with_reducible refine Below.drew ?_) | (with_reducible refine Below.alloc ?_ (by (first | omega | (show _ < _; omega) | (simp; omega) | (simp; done))) _) | (with_reducible refine Below.setCell ?_ (by (first | omega | (show _ < _; omega) | (simp; omega) | (simp; done))) _) | (with_reducible refine Below.trans ?_ (Below.mono (by with_reducible assumption) (by (first | omega | (show _ < _; omega) | (simp; omega) | (simp; done))))) | (with_reducible refine below_grown ?_ (by with_reducible assumption) (by (first | omega | (show _ < _; omega) | (simp; omega) | (simp; done))) (by (first | omega | (show _ < _; omega) | (simp; omega) | (simp; done)))))))⟩, by simp [hn2]⟩)
      · have e2 : (((n2 : Nat) : Int) == 0) = false := by simp; omega
        go_wp2_with fail
        rw [HQ.out]
        have HBo := HB.out
        refine .inl ⟨rfl, _, _, _, _, _, _, _, _, _, _, _, _, _, _, _, _, _, _, _, _, _, _, _, _, _, _, _, _, _, _, _, rfl, ⟨_, _, _, _, rfl, rfl, hc1, hc2, ?_, ?_⟩, ⟨?_, ?_, ?_, ?_, ?_, ?_, ?_, ?_⟩, ?_, Bel.of' (by (repeat (first | (with_reducible exact Below.refl _ _) | (with_reducible assumption) | (with_reducible refine below_drewN ?_ _) | (with_reducible refine Below.drew ?_) | (with_reducible refine Below.alloc ?_ (by (first | omega | (show _ < _; omega) | (simp; omega) | (simp; done))) _) | (with_reducible refine Below.setCell ?_ (by (first | omega | (show _ < _; omega) | (simp; omega) | (simp; done))) _) | (with_reducible refine Below.trans ?_ (Below.mono (by with_reducible assumption) (by (first | omega | (show _ < _; omega) | (simp; omega) | (simp; done))))) | (with_reducible refine below_grown ?_ (by with_reducible assumption) (by (first | omega | (show _ < _; omega) | (simp; omega) | (simp; done))) (by (first | omega | (show _ < _; omega) | (simp; omega) | (simp; done)))))))⟩
        · exact (HR1.out.alloc (Nat.le_refl _) _).more (by simp)
        · exact (HR2.out.alloc (Nat.le_refl _) _).more (by simp)
        · rw [World.cell?_alloc_lt _ _ _ (by simp; omega), k1]; simp
        · rw [World.cell?_alloc_lt _ _ _ (by simp; omega), k1]; simp
        · simp
        · simp
        · omega
        · exact (World.frozen?_of_block (Below.heap_alloc _ _ _ (by simp; omega))).trans ((j1 _).trans (by simp))
        · exact (World.frozen?_of_block (Below.heap_alloc _ _ _ (by simp; omega))).trans ((j1 _).trans (by simp))
        · omega
        · rw [← HP.out]; simp; omega
/-- What stands of readConfig's own memory. -/
structure RdSt (b2 b7 : Nat) (v1 v2 : Value) (w : World) : Prop where
  z0 : w.cell? ⟨b2, 0, none⟩ = some (.slice none 0 0)
  z1 : w.cell? ⟨b2, 1, none⟩ = some (.slice none 0 0)
  s0 : w.cell? ⟨b7, 0, none⟩ = some v1
  s1 : w.cell? ⟨b7, 1, none⟩ = some v2
  ne : b2 ≠ b7
  f0 : w.frozen? ⟨b2, 0, none⟩ = false
  f1 : w.frozen? ⟨b2, 1, none⟩ = false
theorem RdSt.bel {b2 b7 : Nat} {v1 v2 : Value} {w w' : World} (h : RdSt b2 b7 v1 v2 w) (hb : Bel w.heap.size w w') : RdSt b2 b7 v1 v2 w' := by
  have hlt := World.block_lt_of_cell? _ _ h.z0
  have e := hb.block b2 (by simpa using hlt)
  exact ⟨cell_bel hb h.z0, cell_bel hb h.z1, cell_bel hb h.s0, cell_bel hb h.s1, h.ne, (World.frozen?_of_block e).trans h.f0, (World.frozen?_of_block e).trans h.f1⟩
theorem set_other {w : World} {b b' o o' : Nat} {u v : Value} (h : w.cell? ⟨b', o', none⟩ = some v) (hne : b ≠ b') : (w.setCell ⟨b, o, none⟩ u).cell? ⟨b', o', none⟩ = some v :=
  (World.cell?_of_block (Below.heap_setCell w _ _ b' (fun e => hne (by simpa using e.symm)))).trans h
set_option maxHeartbeats 16000000 in
/-- The error is to be 'unsafe'. -/
theorem readT (g0 n : Nat) (g1 n2 : Nat) (d1 d8 d9 d10 d11 d12 d13 d14 d15 d16 d17 d18 d19 d20 d21 d22 d23 d24 d25 d26 d27 d28 d29 d30 d31 d32 d33 t36 t37 : Value) (A1 : Option Addr) (c1 : Nat) (A3 : Option Addr) (c3 : Nat) (b2 b7 B : Nat) (w : World) (a0 a1 : Addr) (hE : EV w a0 a1) (hR : RdSt b2 b7 (.slice A1 n c1) (.slice A3 n2 c3) w) (h2 : 2 ≤ b2) (hB : B ≤ b2) :
    K29.wp Tryd.prog (QQ (fun _ _ => False) (QE29 (.iface 126 (.pointer (some a1))) B w)) ⟨#[.agg #[.slice (some ⟨g0, 0, none⟩) n n, .slice (some ⟨g1, 0, none⟩) n2 n2], d1, .pointer (some ⟨b2, 0, none⟩), .nilIface, .slice A1 n c1, .slice A3 n2 c3, .bool true, .pointer (some ⟨b7, 0, none⟩), d8, d9, d10, d11, d12, d13, d14, d15, d16, d17, d18, d19, d20, d21, d22, d23, d24, d25, d26, d27, d28, d29, d30, d31, d32, d33, .slice A1 n c1, .slice A3 n2 c3, t36, t37, .bool true, undef, undef, undef], []⟩ w := by
  obtain ⟨Q, hQ⟩ : ∃ Q, Q = QQ (fun _ _ => False) (QE29 (.iface 126 (.pointer (some a1))) B w) := ⟨_, rfl⟩
  rw [← hQ]
  have HQ := Lib.hid hQ
  clear hQ
  have z0 := hR.z0
  have z1 := hR.z1
  have s0 := hR.s0
  have s1 := hR.s1
  have f0 := hR.f0
  have f1 := hR.f1
  have hne := hR.ne
  have ce1 := hE.c1
  have n1 : ¬ b2 = 1 := by omega
  have lt2 := World.block_lt_of_cell? _ _ z0
  simp only at lt2
  clear hR hE
  simp only [K29, Z29, bodyOf, tailN, Tryd.func29, Tryd.f29, Option.bind_some, Option.getD_some, Array.replicate, List.replicate, List.append_toArray, List.cons_append, List.nil_append, Nat.reduceSub]
  go_wp2_with fail
  go_region_held3 (fun y => y.cell? ⟨1, 0, none⟩ = some (.iface 126 (.pointer (some a1))) ∧ y.cell? ⟨b7, 0, none⟩ = some (.slice A1 n c1) ∧ y.cell? ⟨b7, 1, none⟩ = some (.slice A3 n2 c3)) ((first | assumption | exact ⟨ce1, s0, s1⟩ | exact ⟨set_other (set_other ce1 n1) n1, set_other (set_other s0 hne) hne, set_other (set_other s1 hne) hne⟩ | (trace_state; fail))) (fail)
  all_goals go_wp2
  all_goals rw [HQ.out]
  all_goals exact .inr ⟨rfl, b2, _, _, _, _, _, _, rfl, rfl, rfl, (two_set z0 z1).1, (two_set z0 z1).2, Bel.of' (by (repeat (first | (with_reducible exact Below.refl _ _) | (with_reducible assumption) | (with_reducible refine below_drewN ?_ _) | (with_reducible refine Below.drew ?_) | (with_reducible refine Below.alloc ?_ (by (first | omega | (show _ < _; omega) | (simp; omega) | (simp; done))) _) | (with_reducible refine Below.setCell ?_ (by (first | omega | (show _ < _; omega) | (simp; omega) | (simp; done))) _) | (with_reducible refine Below.trans ?_ (Below.mono (by with_reducible assumption) (by (first | omega | (show _ < _; omega) | (simp; omega) | (simp; done))))) | (with_reducible refine below_grown ?_ (by with_reducible assumption) (by (first | omega | (show _ < _; omega) | (simp; omega) | (simp; done))) (by (first | omega | (show _ < _; omega) | (simp; omega) | (simp; done)))))))⟩
/-- No error. -/
theorem readF (g0 n : Nat) (g1 n2 : Nat) (d1 d8 d9 d10 d11 d12 d13 d14 d15 d16 d17 d18 d19 d20 d21 d22 d23 d24 d25 d26 d27 d28 d29 d30 d31 d32 d33 t36 t37 : Value) (A1 : Option Addr) (c1 : Nat) (A3 : Option Addr) (c3 : Nat) (b2 b7 B : Nat) (w : World) (hR : RdSt b2 b7 (.slice A1 n c1) (.slice A3 n2 c3) w) (hB : B ≤ b2) :
    R29.wp Tryd.prog (QQ (fun _ _ => False) (QE29 .nilIface B w)) ⟨#[.agg #[.slice (some ⟨g0, 0, none⟩) n n, .slice (some ⟨g1, 0, none⟩) n2 n2], d1, .pointer (some ⟨b2, 0, none⟩), .nilIface, .slice A1 n c1, .slice A3 n2 c3, .bool true, .pointer (some ⟨b7, 0, none⟩), d8, d9, d10, d11, d12, d13, d14, d15, d16, d17, d18, d19, d20, d21, d22, d23, d24, d25, d26, d27, d28, d29, d30, d31, d32, d33, .slice A1 n c1, .slice A3 n2 c3, t36, t37, .bool false, undef, undef, undef], []⟩ w := by
  obtain ⟨Q, hQ⟩ : ∃ Q, Q = QQ (fun _ _ => False) (QE29 .nilIface B w) := ⟨_, rfl⟩
  rw [← hQ]
  have HQ := Lib.hid hQ
  clear hQ
  have z0 := hR.z0
  have z1 := hR.z1
  have s0 := hR.s0
  have s1 := hR.s1
  have f0 := hR.f0
  have f1 := hR.f1
  have hne := hR.ne
  have lt2 := World.block_lt_of_cell? _ _ z0
  simp only at lt2
  clear hR
  simp only [R29, restOf, Z29, bodyOf, tailN, Tryd.func29, Tryd.f29, Option.bind_some, Option.getD_some, Array.replicate, List.replicate, List.append_toArray, List.cons_append, List.nil_append, Nat.reduceSub]
  go_wp2
  rw [HQ.out]
  exact .inr ⟨rfl, b2, _, _, _, _, _, _, rfl, rfl, rfl, (two_set z0 z1).1, (two_set z0 z1).2, Bel.of' (by (repeat (first | (with_reducible exact Below.refl _ _) | (with_reducible assumption) | (with_reducible refine below_drewN ?_ _) | (with_reducible refine Below.drew ?_) | (with_reducible refine Below.alloc ?_ (by (first | omega | (show _ < _; omega) | (simp; omega) | (simp; done))) _) | (with_reducible refine Below.setCell ?_ (by (first | omega | (show _ < _; omega) | (simp; omega) | (simp; done))) _) | (with_reducible refine Below.trans ?_ (Below.mono (by with_reducible assumption) (by (first | omega | (show _ < _; omega) | (simp; omega) | (simp; done))))) | (with_reducible refine below_grown ?_ (by with_reducible assumption) (by (first | omega | (show _ < _; omega) | (simp; omega) | (simp; done))) (by (first | omega | (show _ < _; omega) | (simp; omega) | (simp; done)))))))⟩
/-- readConfig's results. -/
theorem res29 {ev : Value} {B : Nat} {w0 : World} {a : Act} {w : World} (h : QE29 ev B w0 a w) : ∃ (X : Option Addr) (nx cx : Nat) (Y : Option Addr) (ny cy : Nat), ∀ T d, (results Tryd.f29 a.tmps).run Tryd.prog (tp w T d) = .ok (.tuple #[.agg #[.slice X nx cx, .slice Y ny cy], ev]) (tp w T d) := by
  obtain ⟨b2, X, nx, cx, Y, ny, cy, h1, h2, h3, h4, h5, h6⟩ := h
  refine ⟨X, nx, cx, Y, ny, cy, fun T d => ?_⟩
  have h4' : (tp w T d).cell? ⟨b2, 0, none⟩ = some (.slice X nx cx) := h4
  have h5' : (tp w T d).cell? ⟨b2, 1, none⟩ = some (.slice Y ny cy) := h5
  generalize tp w T d = y at h4' h5'
  have h2' : a.tmps[2]?.getD undef = .pointer (some ⟨b2, 0, none⟩) := by simpa using h2
  have h3' : a.tmps[3]?.getD undef = ev := by simpa using h3
  simp only [results, Tryd.results29]
  go_simp

/-! ### impl.ConfigSafe -/
theorem plain17 : plainCode SP (headN 0 (bodyOf 17)) = true := by kernel_rfl
theorem graft17 : graft (headN 0 (bodyOf 17)) (tailN 0 (bodyOf 17)) = bodyOf 17 := by kernel_rfl
noncomputable def Z17 : Code := tailN 0 (bodyOf 17)
noncomputable def ops17 : Array Oper := opsOf Z17
noncomputable def R17 : Code := restOf Z17
theorem plainR17 : plainCode SP R17 = true := by kernel_rfl
theorem plainO17 : ([2, 3, 4, 5, 6, 7].all fun i => ((ops17[i]?).map fun o => plainOp SP o.op).getD true) = true := by kernel_rfl
/-- ConfigSafe stands ahead of its call. -/
def QC17 (v0 v1 : Value) (w0 : World) (a : Act) (w : World) : Prop :=
  a = ⟨#[.agg #[v0, v1], .pointer (some ⟨w0.heap.size, 0, none⟩), .bool false, undef, undef, undef, undef, undef, undef, undef, undef, undef], []⟩ ∧ w.cell? ⟨w0.heap.size, 0, none⟩ = some v0 ∧ w.cell? ⟨w0.heap.size, 1, none⟩ = some v1 ∧ Bel w0.heap.size w0 w
theorem QC17.tp {v0 v1 : Value} {w0 : World} (a : Act) (w : World) (T : Nat → Question → Nat) (d : Nat) (h : QC17 v0 v1 w0 a w) : QC17 v0 v1 w0 a (tp w T d) := ⟨h.1, h.2.1, h.2.2.1, h.2.2.2.tp T d⟩
theorem safeA (A : Option Addr) (n c : Nat) (A2 : Option Addr) (n2 c2 : Nat) (w : World) : (headN 0 (bodyOf 17)).wp Tryd.prog (QQ (QC17 (.slice A n c) (.slice A2 n2 c2) w) (fun _ _ => False)) ⟨#[.agg #[.slice A n c, .slice A2 n2 c2]] ++ Array.replicate (12 - 1) undef, []⟩ w := by
  obtain ⟨Q, hQ⟩ : ∃ Q, Q = QQ (QC17 (.slice A n c) (.slice A2 n2 c2) w) (fun _ _ => False) := ⟨_, rfl⟩
  rw [← hQ]
  have HQ := Lib.hid hQ
  clear hQ
  simp only [bodyOf, Tryd.func17, Tryd.f17, headN, Option.bind_some, Option.getD_some, Array.replicate, List.replicate, List.append_toArray, List.cons_append, List.nil_append, Nat.reduceSub]
  go_wp2
  rw [HQ.out]
  exact .inl ⟨rfl, rfl, by simp, by simp, Bel.of' (by (repeat (first | (with_reducible exact Below.refl _ _) | (with_reducible assumption) | (with_reducible refine below_drewN ?_ _) | (with_reducible refine Below.drew ?_) | (with_reducible refine Below.alloc ?_ (by (first | omega | (show _ < _; omega) | (simp; omega) | (simp; done))) _) | (with_reducible refine Below.setCell ?_ (by (first | omega | (show _ < _; omega) | (simp; omega) | (simp; done))) _) | (with_reducible refine Below.trans ?_ (Below.mono (by with_reducible assumption) (by (first | omega | (show _ < _; omega) | (simp; omega) | (simp; done))))) | (with_reducible refine below_grown ?_ (by with_reducible assumption) (by (first | omega | (show _ < _; omega) | (simp; omega) | (simp; done))) (by (first | omega | (show _ < _; omega) | (simp; omega) | (simp; done)))))))⟩
/-- Behind readConfig: the error is in its place. -/
def QF17 (ev : Value) (w0 : World) (a : Act) (w : World) : Prop := a.defers = [] ∧ (∃ (t0 t1 t3 t5 t6 t7 t8 t9 : Value), a.tmps = #[t0, t1, .bool false, t3, ev, t5, t6, t7, t8, t9, undef, undef]) ∧ Bel w0.heap.size w0 w
theorem QF17.tp {ev : Value} {w0 : World} (a : Act) (w : World) (T : Nat → Question → Nat) (d : Nat) (h : QF17 ev w0 a w) : QF17 ev w0 a (tp w T d) := ⟨h.1, h.2.1, h.2.2.tp T d⟩
theorem wpOps_drop {P : Program} {ops : Array Oper} {Q : Exit → Act → World → Prop} (k m : Nat) (h : ops.size = k + m) : wpOps P ops Q (List.range' k m) = wpList P ops Q (ops.toList.drop k) := by
  have := wpOps_eq_wpList (P := P) (ops := ops) (Q := Q) (ops.toList.drop k) k (fun j => by simp [List.getElem?_drop])
  rw [← this]
  congr 1
  simp
  omega
theorem safeB_ops (t0 t1 t6 ev : Value) (A : Option Addr) (n c : Nat) (A2 : Option Addr) (n2 c2 : Nat) (w : World) (T : Nat → Question → Nat) :
    wpOps Tryd.prog ops17 (QQ (QF17 ev w) (fun _ _ => False)) [2, 3, 4, 5, 6, 7] ⟨#[t0, t1, .bool false, undef, undef, undef, t6, .tuple #[.agg #[.slice A n c, .slice A2 n2 c2], ev], undef, undef, undef, undef], []⟩ (tp w T 0) := by
  have hbb : ∀ y', Below (tp w T 0).heap.size (tp w T 0) y' → Bel w.heap.size w y' := fun y' h => bel_base (Bel.of' h)
  generalize tp w T 0 = y at hbb ⊢
  obtain ⟨Q, hQ⟩ : ∃ Q, Q = QQ (QF17 ev w) (fun _ _ => False) := ⟨_, rfl⟩
  rw [← hQ]
  have HQ := Lib.hid hQ
  clear hQ
  have e := wpOps_drop (P := Tryd.prog) (ops := ops17) (Q := Q) 2 6 (by kernel_rfl)
  have e2 : List.range' 2 6 = [2, 3, 4, 5, 6, 7] := by decide
  rw [e2] at e
  rw [e]
  clear e e2
  simp only [ops17, Z17, opsOf, tailN, bodyOf, Tryd.func17, Tryd.f17, Option.bind_some, Option.getD_some, Array.replicate, List.replicate, List.append_toArray, List.cons_append, List.nil_append, Nat.reduceSub, List.drop_succ_cons, List.drop_zero]
  go_wp2
  rw [HQ.out]
  exact .inl ⟨rfl, rfl, ⟨_, _, _, _, _, _, _, _, rfl⟩, hbb _ (by (repeat (first | (with_reducible exact Below.refl _ _) | (with_reducible assumption) | (with_reducible refine below_drewN ?_ _) | (with_reducible refine Below.drew ?_) | (with_reducible refine Below.alloc ?_ (by (first | omega | (show _ < _; omega) | (simp; omega) | (simp; done))) _) | (with_reducible refine Below.setCell ?_ (by (first | omega | (show _ < _; omega) | (simp; omega) | (simp; done))) _) | (with_reducible refine Below.trans ?_ (Below.mono (by with_reducible assumption) (by (first | omega | (show _ < _; omega) | (simp; omega) | (simp; done))))) | (with_reducible refine below_grown ?_ (by with_reducible assumption) (by (first | omega | (show _ < _; omega) | (simp; omega) | (simp; done))) (by (first | omega | (show _ < _; omega) | (simp; omega) | (simp; done)))))))⟩
def QR17 (r : Bool) (w0 : World) (a : Act) (w : World) : Prop := a.defers = [] ∧ a.tmps.getD 2 undef = .bool r ∧ Bel w0.heap.size w0 w
theorem QR17.tp {r : Bool} {w0 : World} (a : Act) (w : World) (T : Nat → Question → Nat) (d : Nat) (h : QR17 r w0 a w) : QR17 r w0 a (tp w T d) := ⟨h.1, h.2.1, h.2.2.tp T d⟩
theorem safeC (t0 t1 t3 ev t5 t6 t7 t8 t9 : Value) (r : Bool) (w : World) (hS : Calls Tryd.prog 30 #[ev] w fun e w' => e = .returned (.bool r) ∧ w' = w) :
    R17.wp Tryd.prog (QQ (fun _ _ => False) (QR17 r w)) ⟨#[t0, t1, .bool false, t3, ev, t5, t6, t7, t8, t9, undef, undef], []⟩ w := by
  obtain ⟨Q, hQ⟩ : ∃ Q, Q = QQ (fun _ _ => False) (QR17 r w) := ⟨_, rfl⟩
  rw [← hQ]
  have HQ := Lib.hid hQ
  clear hQ
  simp only [R17, Z17, restOf, tailN, bodyOf, Tryd.func17, Tryd.f17, Option.bind_some, Option.getD_some, Array.replicate, List.replicate, List.append_toArray, List.cons_append, List.nil_append, Nat.reduceSub]
  go_wp2_with fail
  refine hS.mono ?_
  rintro e w' ⟨rfl, rfl⟩
  go_wp2
  rw [HQ.out]
  exact .inr ⟨rfl, rfl, rfl, Bel.refl _ _⟩
end Go.Proofs.YtafhpbghogdipaaDoor

/- FnExactConfigSafe: the quiet walks. -/
namespace Go.Proofs.YtafhpbghogdipaaDoor
open Go.Conc Go.ConcN Go.RowKit Go.Conc.Lib Go.ConcR.Gen Go.ConcN.Gen
open Go.ConcR (DC0)
set_option maxHeartbeats 8000000
set_option linter.unusedVariables false
set_option linter.unusedSimpArgs false

/-- The law waits; ConfigSafe waits; readConfig waits. -/
noncomputable def W4 (y p1 v3 v4 p5 d7 d8 d9 d10 d11 d12 d13 d14 d15 d16 t17 : Value) (l : List Nat) : Frame := (base 4).at ⟨#[y, p1, .bool false, v3, v4, p5, undef, d7, d8, d9, d10, d11, d12, d13, d14, d15, d16, t17, undef, undef, undef, undef, undef, undef, undef, undef, undef], []⟩ (.inRegion (opsOf Z4) l :: .code (restOf Z4) :: [])
noncomputable def W17 (x p t6 : Value) (l : List Nat) : Frame := (base 17).at ⟨#[x, p, .bool false, undef, undef, undef, t6, undef, undef, undef, undef, undef], []⟩ (.inRegion ops17 l :: .code R17 :: [])
noncomputable def W29 (x d1 p2 v1 v2 p7 d8 d9 d10 d11 d12 d13 d14 d15 d16 d17 d18 d19 d20 d21 d22 d23 d24 d25 d26 d27 d28 d29 d30 d31 d32 d33 t36 t37 : Value) (l : List Nat) : Frame := (base 29).at ⟨#[x, d1, p2, .nilIface, v1, v2, .bool true, p7, d8, d9, d10, d11, d12, d13, d14, d15, d16, d17, d18, d19, d20, d21, d22, d23, d24, d25, d26, d27, d28, d29, d30, d31, d32, d33, v1, v2, t36, t37, undef, undef, undef, undef], []⟩ (.inRegion ops29 l :: .code K29 :: .code R29 :: [])
set_option maxRecDepth 100000 in
theorem quiet4a (y p1 v3 v4 p5 d7 d8 d9 d10 d11 d12 d13 d14 d15 d16 : Value) (cs : List Frame) : ∀ w, True → Goes Tryd.prog true AtRel DC0 (fun g1 _ => g1 = G (W4 y p1 v3 v4 p5 d7 d8 d9 d10 d11 d12 d13 d14 d15 d16 undef [0, 1, 2]) cs) 3
    (G ((base 4).at ⟨#[y, p1, .bool false, v3, v4, p5, undef, d7, d8, d9, d10, d11, d12, d13, d14, d15, d16, undef, undef, undef, undef, undef, undef, undef, undef, undef, undef], []⟩ (.code Z4 :: [])) cs) w := by
  intro w hF
  unfold W4 Z4
  simp only [bodyOf, tailN, opsOf, restOf, Tryd.func4, Tryd.f4, Option.bind_some, Option.getD_some, Array.replicate, List.replicate, List.append_toArray, List.cons_append, List.nil_append, Nat.reduceSub]
  u_c stepG_seq no_rely hF
  u_reg no_rely hF
  refine Goes.stop (fun w₁ h₁ => ?_)
  rfl
set_option maxRecDepth 100000 in
theorem quiet4b (y p1 v3 v4 p5 d7 d8 d9 d10 d11 d12 d13 d14 d15 d16 t17 : Value) (cs : List Frame) : ∀ w, True → Goes Tryd.prog true AtRel DC0 (fun g1 _ => g1 = G ((base 17).at ⟨#[t17] ++ Array.replicate (12 - 1) undef, []⟩ [.code (bodyOf 17)]) (W4 y p1 v3 v4 p5 d7 d8 d9 d10 d11 d12 d13 d14 d15 d16 t17 [1, 2] :: cs)) 3
    (G ((W4 y p1 v3 v4 p5 d7 d8 d9 d10 d11 d12 d13 d14 d15 d16 undef [0, 1, 2]).finish t17) cs) w := by
  intro w hF
  unfold W4 Z4
  simp only [bodyOf, tailN, opsOf, restOf, Tryd.func4, Tryd.f4, Option.bind_some, Option.getD_some, Array.replicate, List.replicate, List.append_toArray, List.cons_append, List.nil_append, Nat.reduceSub, Tryd.func17, Tryd.f17]
  show Goes _ _ _ _ _ _ (G ((base 4).at ⟨#[y, p1, .bool false, v3, v4, p5, undef, d7, d8, d9, d10, d11, d12, d13, d14, d15, d16, t17, undef, undef, undef, undef, undef, undef, undef, undef, undef], []⟩ (.inRegion _ [1, 2] :: _)) cs) w
  u_call Tryd.func17 (by decide) Tryd.f17 no_rely hF
  refine Goes.stop (fun w₁ h₁ => ?_)
  rfl
set_option maxRecDepth 100000 in
theorem quiet4c (y p1 v3 v4 p5 d7 d8 d9 d10 d11 d12 d13 d14 d15 d16 t17 r : Value) (cs : List Frame) : ∀ w, True → Goes Tryd.prog true AtRel DC0 (fun g1 _ => g1 = G ((base 4).at ⟨#[y, p1, .bool false, v3, v4, p5, r, d7, d8, d9, d10, d11, d12, d13, d14, d15, d16, t17, r, undef, undef, undef, undef, undef, undef, undef, undef], []⟩ (.code (restOf Z4) :: [])) cs) 4
    (G ((W4 y p1 v3 v4 p5 d7 d8 d9 d10 d11 d12 d13 d14 d15 d16 t17 [1, 2]).finish r) cs) w := by
  intro w hF
  unfold W4 Z4
  simp only [bodyOf, tailN, opsOf, restOf, Tryd.func4, Tryd.f4, Option.bind_some, Option.getD_some, Array.replicate, List.replicate, List.append_toArray, List.cons_append, List.nil_append, Nat.reduceSub]
  show Goes _ _ _ _ _ _ (G ((base 4).at ⟨#[y, p1, .bool false, v3, v4, p5, undef, d7, d8, d9, d10, d11, d12, d13, d14, d15, d16, t17, r, undef, undef, undef, undef, undef, undef, undef, undef], []⟩ (.inRegion _ [2] :: _)) cs) w
  u_op no_rely hF
  u_c stepG_region_end no_rely hF
  refine Goes.stop (fun w₁ h₁ => ?_)
  rfl
set_option maxRecDepth 100000 in
theorem quiet17a (x p : Value) (cs : List Frame) : ∀ w, True → Goes Tryd.prog true AtRel DC0 (fun g1 _ => g1 = G (W17 x p undef [0, 1, 2, 3, 4, 5, 6, 7]) cs) 3
    (G ((base 17).at ⟨#[x, p, .bool false, undef, undef, undef, undef, undef, undef, undef, undef, undef], []⟩ (.code Z17 :: [])) cs) w := by
  intro w hF
  unfold W17 ops17 R17 Z17
  simp only [bodyOf, tailN, opsOf, restOf, Tryd.func17, Tryd.f17, Option.bind_some, Option.getD_some, Array.replicate, List.replicate, List.append_toArray, List.cons_append, List.nil_append, Nat.reduceSub]
  u_c stepG_seq no_rely hF
  u_reg no_rely hF
  refine Goes.stop (fun w₁ h₁ => ?_)
  rfl
set_option maxRecDepth 100000 in
theorem quiet17b (x p t6 : Value) (cs : List Frame) : ∀ w, True → Goes Tryd.prog true AtRel DC0 (fun g1 _ => g1 = G ((base 29).at ⟨#[t6] ++ Array.replicate (42 - 1) undef, []⟩ [.code (bodyOf 29)]) (W17 x p t6 [1, 2, 3, 4, 5, 6, 7] :: cs)) 3
    (G ((W17 x p undef [0, 1, 2, 3, 4, 5, 6, 7]).finish t6) cs) w := by
  intro w hF
  unfold W17 ops17 R17 Z17
  simp only [bodyOf, tailN, opsOf, restOf, Tryd.func17, Tryd.f17, Option.bind_some, Option.getD_some, Array.replicate, List.replicate, List.append_toArray, List.cons_append, List.nil_append, Nat.reduceSub, Tryd.func29, Tryd.f29]
  show Goes _ _ _ _ _ _ (G ((base 17).at ⟨#[x, p, .bool false, undef, undef, undef, t6, undef, undef, undef, undef, undef], []⟩ (.inRegion _ [1, 2, 3, 4, 5, 6, 7] :: _)) cs) w
  u_call Tryd.func29 (by decide) Tryd.f29 no_rely hF
  refine Goes.stop (fun w₁ h₁ => ?_)
  rfl
set_option maxRecDepth 100000 in
theorem quiet29a (x d1 p2 v1 v2 p7 d8 d9 d10 d11 d12 d13 d14 d15 d16 d17 d18 d19 d20 d21 d22 d23 d24 d25 d26 d27 d28 d29 d30 d31 d32 d33 : Value) (cs : List Frame) : ∀ w, True → Goes Tryd.prog true AtRel DC0 (fun g1 _ => g1 = G ((base 25).at ⟨#[v1, v2] ++ Array.replicate (24 - 2) undef, []⟩ [.code (bodyOf 25)]) (W29 x d1 p2 v1 v2 p7 d8 d9 d10 d11 d12 d13 d14 d15 d16 d17 d18 d19 d20 d21 d22 d23 d24 d25 d26 d27 d28 d29 d30 d31 d32 d33 undef undef [2, 3, 4] :: cs)) 7
    (G ((base 29).at ⟨#[x, d1, p2, .nilIface, v1, v2, .bool true, p7, d8, d9, d10, d11, d12, d13, d14, d15, d16, d17, d18, d19, d20, d21, d22, d23, d24, d25, d26, d27, d28, d29, d30, d31, d32, d33, undef, undef, undef, undef, undef, undef, undef, undef], []⟩ (.code Z29 :: [])) cs) w := by
  intro w hF
  unfold W29 ops29 K29 R29 Z29
  simp only [bodyOf, tailN, opsOf, restOf, Tryd.func29, Tryd.f29, Option.bind_some, Option.getD_some, Array.replicate, List.replicate, List.append_toArray, List.cons_append, List.nil_append, Nat.reduceSub, Tryd.func25, Tryd.f25]
  u_c stepG_seq no_rely hF
  u_c stepG_seq no_rely hF
  u_reg no_rely hF
  u_op no_rely hF
  u_op no_rely hF
  u_call Tryd.func25 (by decide) Tryd.f25 no_rely hF
  refine Goes.stop (fun w₁ h₁ => ?_)
  rfl
set_option maxRecDepth 100000 in
theorem quiet29b (x d1 p2 v1 v2 p7 d8 d9 d10 d11 d12 d13 d14 d15 d16 d17 d18 d19 d20 d21 d22 d23 d24 d25 d26 d27 d28 d29 d30 d31 d32 d33 r : Value) (cs : List Frame) : ∀ w, True → Goes Tryd.prog true AtRel DC0 (fun g1 _ => g1 = G (Frame.enter Tryd.prog 24 #[r] .normal) (W29 x d1 p2 v1 v2 p7 d8 d9 d10 d11 d12 d13 d14 d15 d16 d17 d18 d19 d20 d21 d22 d23 d24 d25 d26 d27 d28 d29 d30 d31 d32 d33 r undef [3, 4] :: cs)) 3
    (G ((W29 x d1 p2 v1 v2 p7 d8 d9 d10 d11 d12 d13 d14 d15 d16 d17 d18 d19 d20 d21 d22 d23 d24 d25 d26 d27 d28 d29 d30 d31 d32 d33 undef undef [2, 3, 4]).finish r) cs) w := by
  intro w hF
  rw [enter_base (P := Tryd.prog) #[r] Tryd.func24 rfl]
  unfold W29 ops29 K29 R29 Z29
  simp only [bodyOf, tailN, opsOf, restOf, Tryd.func29, Tryd.f29, Option.bind_some, Option.getD_some, Array.replicate, List.replicate, List.append_toArray, List.cons_append, List.nil_append, Nat.reduceSub]
  show Goes _ _ _ _ _ _ (G ((base 29).at ⟨#[x, d1, p2, .nilIface, v1, v2, .bool true, p7, d8, d9, d10, d11, d12, d13, d14, d15, d16, d17, d18, d19, d20, d21, d22, d23, d24, d25, d26, d27, d28, d29, d30, d31, d32, d33, v1, v2, r, undef, undef, undef, undef, undef], []⟩ (.inRegion _ [3, 4] :: _)) cs) w
  u_call Tryd.func24 (by decide) Tryd.f24 no_rely hF
  refine Goes.stop (fun w₁ h₁ => ?_)
  rfl
set_option maxRecDepth 100000 in
theorem quiet29c (x d1 p2 v1 v2 p7 d8 d9 d10 d11 d12 d13 d14 d15 d16 d17 d18 d19 d20 d21 d22 d23 d24 d25 d26 d27 d28 d29 d30 d31 d32 d33 r r2 : Value) (cs : List Frame) : ∀ w, True → Goes Tryd.prog true AtRel DC0 (fun g1 _ => g1 = G (Frame.enter Tryd.prog 42 #[r2, .int .u64 0] .normal) (W29 x d1 p2 v1 v2 p7 d8 d9 d10 d11 d12 d13 d14 d15 d16 d17 d18 d19 d20 d21 d22 d23 d24 d25 d26 d27 d28 d29 d30 d31 d32 d33 r r2 [4] :: cs)) 3
    (G ((W29 x d1 p2 v1 v2 p7 d8 d9 d10 d11 d12 d13 d14 d15 d16 d17 d18 d19 d20 d21 d22 d23 d24 d25 d26 d27 d28 d29 d30 d31 d32 d33 r undef [3, 4]).finish r2) cs) w := by
  intro w hF
  rw [enter_base (P := Tryd.prog) #[r2, .int .u64 0] Tryd.func42 rfl]
  unfold W29 ops29 K29 R29 Z29
  simp only [bodyOf, tailN, opsOf, restOf, Tryd.func29, Tryd.f29, Option.bind_some, Option.getD_some, Array.replicate, List.replicate, List.append_toArray, List.cons_append, List.nil_append, Nat.reduceSub]
  show Goes _ _ _ _ _ _ (G ((base 29).at ⟨#[x, d1, p2, .nilIface, v1, v2, .bool true, p7, d8, d9, d10, d11, d12, d13, d14, d15, d16, d17, d18, d19, d20, d21, d22, d23, d24, d25, d26, d27, d28, d29, d30, d31, d32, d33, v1, v2, r, r2, undef, undef, undef, undef], []⟩ (.inRegion _ [4] :: _)) cs) w
  u_call Tryd.func42 (by decide) Tryd.f42 no_rely hF
  refine Goes.stop (fun w₁ h₁ => ?_)
  rfl
set_option maxRecDepth 100000 in
theorem quiet29d (x d1 p2 v1 v2 p7 d8 d9 d10 d11 d12 d13 d14 d15 d16 d17 d18 d19 d20 d21 d22 d23 d24 d25 d26 d27 d28 d29 d30 d31 d32 d33 r r2 z : Value) (cs : List Frame) : ∀ w, True → Goes Tryd.prog true AtRel DC0 (fun g1 _ => g1 = G ((base 29).at ⟨#[x, d1, p2, .nilIface, v1, v2, .bool true, p7, d8, d9, d10, d11, d12, d13, d14, d15, d16, d17, d18, d19, d20, d21, d22, d23, d24, d25, d26, d27, d28, d29, d30, d31, d32, d33, v1, v2, r, r2, z, undef, undef, undef], []⟩ (.code K29 :: .code R29 :: [])) cs) 2
    (G ((W29 x d1 p2 v1 v2 p7 d8 d9 d10 d11 d12 d13 d14 d15 d16 d17 d18 d19 d20 d21 d22 d23 d24 d25 d26 d27 d28 d29 d30 d31 d32 d33 r r2 [4]).finish z) cs) w := by
  intro w hF
  unfold W29
  show Goes _ _ _ _ _ _ (G ((base 29).at ⟨#[x, d1, p2, .nilIface, v1, v2, .bool true, p7, d8, d9, d10, d11, d12, d13, d14, d15, d16, d17, d18, d19, d20, d21, d22, d23, d24, d25, d26, d27, d28, d29, d30, d31, d32, d33, v1, v2, r, r2, z, undef, undef, undef], []⟩ (.inRegion _ [] :: _)) cs) w
  u_c stepG_region_end no_rely hF
  refine Goes.stop (fun w₁ h₁ => ?_)
  rfl
set_option maxRecDepth 100000 in
theorem quiet29e (x d1 p2 v1 v2 p7 d8 d9 d10 d11 d12 d13 d14 d15 d16 d17 d18 d19 d20 d21 d22 d23 d24 d25 d26 d27 d28 d29 d30 d31 d32 d33 r r2 : Value) (cs : List Frame) : ∀ w, True → Goes Tryd.prog true AtRel DC0 (fun g1 _ => g1 = G ((base 29).at ⟨#[x, d1, p2, .nilIface, v1, v2, .bool true, p7, d8, d9, d10, d11, d12, d13, d14, d15, d16, d17, d18, d19, d20, d21, d22, d23, d24, d25, d26, d27, d28, d29, d30, d31, d32, d33, v1, v2, r, r2, .bool false, undef, undef, undef], []⟩ (.code R29 :: [])) cs) 3
    (G ((base 29).at ⟨#[x, d1, p2, .nilIface, v1, v2, .bool true, p7, d8, d9, d10, d11, d12, d13, d14, d15, d16, d17, d18, d19, d20, d21, d22, d23, d24, d25, d26, d27, d28, d29, d30, d31, d32, d33, v1, v2, r, r2, .bool false, undef, undef, undef], []⟩ (.code K29 :: .code R29 :: [])) cs) w := by
  intro w hF
  unfold K29 Z29
  simp only [bodyOf, tailN, opsOf, restOf, Tryd.func29, Tryd.f29, Option.bind_some, Option.getD_some, Array.replicate, List.replicate, List.append_toArray, List.cons_append, List.nil_append, Nat.reduceSub]
  u_cond false no_rely hF
  u_c stepG_skip no_rely hF
  refine Goes.stop (fun w₁ h₁ => ?_)
  rfl
end Go.Proofs.YtafhpbghogdipaaDoor

/- FnExactConfigSafe: ConfigSafe from its call to its return; the law's run. -/
namespace Go.Proofs.YtafhpbghogdipaaDoor
open Go.Conc Go.RowKit
open Go.ConcR (DC0)
open Go.ConcN (sumTo upd sumTo_upd upd_ne upd_same)
set_option maxHeartbeats 8000000
set_option maxRecDepth 100000
set_option linter.unusedVariables false
set_option linter.unusedSimpArgs false

theorem EV.bel {w w' : World} {a0 a1 : Addr} (h : EV w a0 a1) (hb : Bel w.heap.size w w') : EV w' a0 a1 :=
  h.keep fun b ⟨c, t, f, hc⟩ => hb.block b (Array.getElem?_eq_some_iff.1 hc).1
theorem EV.tp {w : World} {a0 a1 : Addr} (h : EV w a0 a1) (T : Nat → Question → Nat) (d : Nat) : EV (tp w T d) a0 a1 := ⟨h.c0, h.c1, h.ne, h.h0, h.h1⟩
theorem RdSt.tp {b2 b7 : Nat} {v1 v2 : Value} {w : World} (h : RdSt b2 b7 v1 v2 w) (T : Nat → Question → Nat) (d : Nat) : RdSt b2 b7 v1 v2 (tp w T d) := ⟨h.z0, h.z1, h.s0, h.s1, h.ne, h.f0, h.f1⟩
theorem loadCfg {w : World} {b : Nat} {X : Option Addr} {nx cx : Nat} {Y : Option Addr} {ny cy : Nat} (h0 : w.cell? ⟨b, 0, none⟩ = some (.slice X nx cx)) (h1 : w.cell? ⟨b, 1, none⟩ = some (.slice Y ny cy)) :
    (Instr.loadAt 35 (.pointer (some ⟨b, 0, none⟩))).run Tryd.prog w = .ok (.agg #[.slice X nx cx, .slice Y ny cy]) w := by
  go_simp
theorem op_shape {ops : Array Oper} {i : Nat} {dst : Option Tmp} {op : Op} {ty : TypeId} {after : Array Edge} {guard : Option (Nat × Bool)} (h : (ops[i]?).map (fun o => (o.dst, o.op, o.type, o.after, o.guard)) = some (dst, op, ty, after, guard)) :
    ∃ pos, ops[i]? = some { dst := dst, op := op, type := ty, pos := pos, after := after, guard := guard } := by
  obtain ⟨o, ho, he⟩ := Option.map_eq_some_iff.1 h
  cases he
  exact ⟨o.pos, ho⟩
theorem load17 : ∃ pos, ops17[0]? = some { dst := some 6, op := .load 35 (.tmp 1), type := 35, pos := pos, after := #[], guard := none } := op_shape (by kernel_rfl)
theorem load4 : ∃ pos, (opsOf Z4)[0]? = some { dst := some 17, op := .load 35 (.tmp 5), type := 35, pos := pos, after := #[], guard := none } := op_shape (by kernel_rfl)
theorem fin17 (x p t6 v : Value) : (W17 x p t6 [1, 2, 3, 4, 5, 6, 7]).finish v = (base 17).at ⟨#[x, p, .bool false, undef, undef, undef, t6, v, undef, undef, undef, undef], []⟩ (.inRegion ops17 [2, 3, 4, 5, 6, 7] :: .code R17 :: []) := by kernel_rfl
theorem res17 {r : Bool} {a : Act} (h : a.tmps.getD 2 undef = .bool r) (w : World) : (results Tryd.f17 a.tmps).run Tryd.prog w = .ok (.bool r) w := by
  rw [results_tmp (t := 2) (by kernel_rfl)]
  rw [h]
section
variable {Shun : Loc → Prop} {D : DS} {W : World}
/-- From readConfig's end to ConfigSafe's return. -/
theorem cs_back (hS : ∀ l, Shun l → ∃ a, l = .cell a ∧ D a.block) {ev : Value} {r : Bool} {B : Nat} {w0 wp : World} {a : Act} {todo : List Item} {x p t6 : Value} {ca : Frame} {cs : List Frame} {gs : Array Goroutine} {w : World} {t : Trace} {q : Nat → Nat} (sl : Option (Nat × Nat)) {a0 a1 : Addr} (hE : EV wp a0 a1)
    (hsafe : ∀ w : World, EV w a0 a1 → Calls Tryd.prog 30 #[ev] w fun e w' => e = .returned (.bool r) ∧ w' = w)
    (hq : QE29 ev B w0 a wp) (hF : Fr Tryd.prog Shun D (G { (base 29).at a todo with mode := .returning } (W17 x p t6 [1, 2, 3, 4, 5, 6, 7] :: ca :: cs)) wp gs w t q) (hT : Truth W w wp)
    (hk : ∀ (gs' : Array Goroutine) (wp' w' : World) (sl' : Option (Nat × Nat)) (t' : Trace) (q' : Nat → Nat), Bel wp.heap.size wp wp' → Truth W w' wp' → Fr Tryd.prog Shun D (G (ca.finish (.bool r)) cs) wp' gs' w' t' q' → Ends W gs' w' sl' t') : Ends W gs w sl t := by
  obtain ⟨X, nx, cx, Y, ny, cy, hres⟩ := res29 hq
  obtain ⟨_, _, _, _, _, _, _, hd, _⟩ := hq
  refine walk_leave hS hd sl Tryd.func29 hres hF hT ?_
  intro gs1 w1 sl1 t1 q1 hT1 hF1
  rw [fin17] at hF1
  refine walk_ops hS (Qn := fun w0 => QF17 ev w0) (by kernel_rfl) hT1.size rfl plainO17 (fun a w T d h => QF17.tp a w T d h) (fun a w h => h.2.2)
    (fun T => safeB_ops x p t6 ev X nx cx Y ny cy wp T) sl1 hF1 hT1 ?_
  intro gs2 wp2 w2 sl2 t2 q2 a2 hq2 hT2 hF2
  obtain ⟨hd2, ⟨s0, s1, s3, s5, s6, s7, s8, s9, ht⟩, hb2⟩ := hq2
  obtain ⟨tmps, defers⟩ := a2
  have hd' : defers = [] := hd2
  have ht' : tmps = _ := ht
  subst hd' ht'
  have hE2 := hE.bel hb2
  refine walk_last hS (Qr := fun w0 => QR17 r w0) (by kernel_rfl) rfl plainR17 (fun a w T d h => QR17.tp a w T d h) (fun a w h => h.2.2)
    (fun T => wp_mono (safeC s0 s1 s3 ev s5 s6 s7 s8 s9 r (tp wp2 T 0) (hsafe _ (hE2.tp T 0))) (fun e a w h => h.imp (fun h => h) (fun ⟨h1, h2, h3, h4⟩ => ⟨h1, h2, h3, bel_base h4⟩))) sl2 hF2 hT2 ?_
  intro gs3 wp3 w3 sl3 t3 q3 a3 todo3 hq3 hT3 hF3
  obtain ⟨hd3, hv3, hb3⟩ := hq3
  refine walk_leave hS hd3 sl3 Tryd.func17 (fun T d => res17 hv3 _) hF3 hT3 ?_
  intro gs4 w4 sl4 t4 q4 hT4 hF4
  exact hk gs4 wp3 w4 sl4 t4 q4 (hb2.trans (hb3.mono hb2.size)) hT4 hF4
/-- ████ ConfigSafe, from its call to its return. ████ -/
theorem cs_run (hS : ∀ l, Shun l → ∃ a, l = .cell a ∧ D a.block) {g0 n : Nat} {zss : List (List Int)} {g1 n2 : Nat} {yss : List (List Int)} {ca : Frame} {cs : List Frame} {wp : World} {gs : Array Goroutine} {w : World} {t : Trace} {q : Nat → Nat} (sl : Option (Nat × Nat)) {a0 a1 : Addr} (hE : EV wp a0 a1) (C1 : CpM wp g0 n zss) (C2 : CpM wp g1 n2 yss)
    (hF : Fr Tryd.prog Shun D (G ((base 17).at ⟨#[.agg #[.slice (some ⟨g0, 0, none⟩) n n, .slice (some ⟨g1, 0, none⟩) n2 n2]] ++ Array.replicate (12 - 1) undef, []⟩ [.code (bodyOf 17)]) (ca :: cs)) wp gs w t q) (hT : Truth W w wp)
    (hk : ∀ (gs' : Array Goroutine) (wp' w' : World) (sl' : Option (Nat × Nat)) (t' : Trace) (q' : Nat → Nat) (D' : DS) (Shun' : Loc → Prop), (∀ l, Shun' l → ∃ a, l = .cell a ∧ D' a.block) → Bel wp.heap.size wp wp' → Truth W w' wp' →
      Fr Tryd.prog Shun' D' (G (ca.finish (.bool (safeB zss yss n n2))) cs) wp' gs' w' t' q' → Ends W gs' w' sl' t') : Ends W gs w sl t := by
  have hg1 : 2 ≤ wp.heap.size := by
    have := World.block_lt_of_cell? _ _ hE.c1
    simp only at this
    omega
  rw [← graft17] at hF
  refine walk_code hS (Z := Z17) (Qn := fun w0 => QC17 (.slice (some ⟨g0, 0, none⟩) n n) (.slice (some ⟨g1, 0, none⟩) n2 n2) w0) (Qr := fun _ _ _ => False) (by kernel_rfl) rfl plain17 (fun a w T d h => QC17.tp a w T d h) (fun _ _ _ _ h => h.elim) (fun a w h => h.2.2.2) (fun _ _ h => h.elim)
    (fun T => wp_mono (safeA (some ⟨g0, 0, none⟩) n n (some ⟨g1, 0, none⟩) n2 n2 (tp wp T 0)) (fun e a w h => h.imp (fun ⟨h0, h1, h2, h3, h4⟩ => ⟨h0, h1, h2, h3, bel_base h4⟩) (fun h => h))) sl hF hT ?_ (fun _ _ _ _ _ _ _ _ h => h.elim)
  intro gs1 wp1 w1 sl1 t1 q1 a1' hq1 hT1 hF1
  obtain ⟨rfl, k0, k1, hb1⟩ := hq1
  refine walk_quiet sl1 hF1 hT1 (quiet17a _ _ _) ?_
  intro gs2 w2 sl2 t2 q2 hT2 hF2
  obtain ⟨pos17, hl17⟩ := load17
  refine walk_op hS (v := .agg #[.slice (some ⟨g0, 0, none⟩) n n, .slice (some ⟨g1, 0, none⟩) n2 n2]) hl17 rfl rfl (fun T d => ?_) sl2 hF2 hT2 ?_
  · have e := loadCfg (w := tp wp1 T d) k0 k1
    show ((Instr.loadAt 35 (.pointer (some ⟨wp.heap.size, 0, none⟩))) >>= fun x => (Pure.pure (Next.value x) : Sem Next)).run Tryd.prog (tp wp1 T d) = _
    rw [Sem.run_bind, e]
    rfl
  intro gs3 w3 sl3 t3 q3 hT3 hF3
  refine walk_quiet sl3 hF3 hT3 (quiet17b _ _ _ _) ?_
  intro gs4 w4 sl4 t4 q4 hT4 hF4
  have hE1 := hE.bel hb1
  have C11 := C1.bel hb1
  have C21 := C2.bel hb1
  rw [← graft29] at hF4
  refine walk_code hS (Z := Z29) (Qn := fun w0 => QD g0 n zss g1 n2 yss w0) (Qr := fun w0 => QEi n zss n2 yss a0 w0) (by kernel_rfl) rfl plain29 (fun a w T d h => QD.tp _ _ _ _ _ _ a w T d h) (fun a w T d h => ⟨QE29.tp a w T d h.1, h.2⟩)
    (fun a w h => by obtain ⟨_, _, _, _, _, _, _, _, _, _, _, _, _, _, _, _, _, _, _, _, _, _, _, _, _, _, _, _, _, _, _, _, _, _, _, hb⟩ := h; exact hb) (fun a w h => by obtain ⟨⟨_, _, _, _, _, _, _, _, _, _, _, _, hb⟩, _⟩ := h; exact hb)
    (fun T => wp_mono (readA g0 n zss g1 n2 yss (tp wp1 T 0) (cpM_tp C11) (cpM_tp C21) a0 a1 (hE1.tp T 0)) (fun e a w h => h.imp
      (fun ⟨h0, d1, d8, d9, d10, d11, d12, d13, d14, d15, d16, d17, d18, d19, d20, d21, d22, d23, d24, d25, d26, d27, d28, d29, d30, d31, d32, d33, v1, v2, b2, b7, h1, h2, h3, h4, h5⟩ => ⟨h0, d1, d8, d9, d10, d11, d12, d13, d14, d15, d16, d17, d18, d19, d20, d21, d22, d23, d24, d25, d26, d27, d28, d29, d30, d31, d32, d33, v1, v2, b2, b7, h1, h2, h3, h4, bel_base h5⟩)
      (fun ⟨h0, ⟨b2, X, nx, cx, Y, ny, cy, h1, h2, h3, h4, h5, h6⟩, h7⟩ => ⟨h0, ⟨b2, X, nx, cx, Y, ny, cy, h1, h2, h3, h4, h5, bel_base h6⟩, h7⟩))) sl4 hF4 hT4 ?_ ?_
  rotate_left
  · -- incomplete
    intro gs5 wp5 w5 sl5 t5 q5 a5 todo5 hq5 hT5 hF5
    obtain ⟨hq5, hc5⟩ := hq5
    have hb5 : Bel wp1.heap.size wp1 wp5 := by obtain ⟨_, _, _, _, _, _, _, _, _, _, _, _, hb⟩ := hq5; exact hb
    have hs : safeB zss yss n n2 = false := by unfold safeB; rw [hc5]; rfl
    refine cs_back hS sl5 (hE1.bel hb5) (fun w h => safe_incomplete w h) hq5 hF5 hT5 ?_
    intro gs6 wp6 w6 sl6 t6 q6 hb6 hT6 hF6
    rw [← hs] at hF6
    exact hk gs6 wp6 w6 sl6 t6 q6 D Shun hS ((hb1.trans (hb5.mono hb1.size)).trans (hb6.mono (Nat.le_trans hb1.size hb5.size))) hT6 hF6
  intro gs5 wp5 w5 sl5 t5 q5 a5 hq5 hT5 hF5
  obtain ⟨d1, d8, d9, d10, d11, d12, d13, d14, d15, d16, d17, d18, d19, d20, d21, d22, d23, d24, d25, d26, d27, d28, d29, d30, d31, d32, d33, v1, v2, b2, b7, rfl, ⟨A1, c1, A3, c3, rfl, rfl, _, _, hx, hy⟩, ⟨z0, z1, s0, s1, hne, f0, f1, hb2⟩, hfam, hb5⟩ := hq5
  have hRd : RdSt b2 b7 (.slice A1 n c1) (.slice A3 n2 c3) wp5 := ⟨z0, z1, s0, s1, hne, f0, f1⟩
  have hE5 := hE1.bel hb5
  have hb2' : wp.heap.size ≤ b2 := Nat.le_trans hb1.size hb2
  clear z0 z1 s0 s1 f0 f1
  have hfam2 := hfam
  simp only [Bool.and_eq_true, decide_eq_true_eq] at hfam2
  have hn : n ≤ 20 := by have := (famB_to hfam2.1.1.1).1; have := C1.len; omega
  have hn2 : n2 ≤ 20 := by have := (famB_to hfam2.1.1.2).1; have := C2.len; omega
  refine walk_quiet sl5 hF5 hT5 (quiet29a _ _ _ _ _ _ _ _ _ _ _ _ _ _ _ _ _ _ _ _ _ _ _ _ _ _ _ _ _ _ _ _ _) ?_
  intro gs6 w6 sl6 t6 q6 hT6 hF6
  refine walk_common hS (xs := mI zss n) (ys := mI yss n2) sl6 hn hn2 (by rw [← mv_map]; exact hx) (mi_len _ _) (by rw [← mv_map]; exact hy) (mi_len _ _) hF6 hT6 ?_
  intro gs7 wp7 w7 sl7 t7 q7 D7 Sh7 C hS7 hrows hb7 hT7 hF7
  refine walk_quiet sl7 hF7 hT7 (quiet29b _ _ _ _ _ _ _ _ _ _ _ _ _ _ _ _ _ _ _ _ _ _ _ _ _ _ _ _ _ _ _ _ _ _) ?_
  intro gs8 w8 sl8 t8 q8 hT8 hF8
  refine walk_concat hS7 sl8 hrows hn hF8 hT8 ?_
  intro gs9 wp9 w9 sl9 t9 q9 v9 hown hb9 hT9 hF9
  obtain ⟨A5, c5, rfl, _, _, hrow5⟩ := owns_row hown
  refine walk_quiet sl9 hF9 hT9 (quiet29c _ _ _ _ _ _ _ _ _ _ _ _ _ _ _ _ _ _ _ _ _ _ _ _ _ _ _ _ _ _ _ _ _ _ _) ?_
  intro gs10 w10 sl10 t10 q10 hT10 hF10
  have hlen : (catR (rowsF (mI zss n) (mI yss n2) n2) n).length ≤ 1000000 := by
    have := catR_len hrows.len n (Nat.le_refl _)
    omega
  refine walk_contains hS7 sl10 hrow5 hlen hF10 hT10 ?_
  intro gs11 wp11 w11 sl11 t11 q11 hb11 hT11 hF11
  have hmeet := meet_law C1.len C2.len hfam2.1.1.1 hfam2.1.1.2
  have hsb : safeB zss yss n n2 = !(hasZ (catR (rowsF (mI zss n) (mI yss n2) n2) n) (catR (rowsF (mI zss n) (mI yss n2) n2) n).length) := by
    rw [← hmeet]
    unfold safeB meetB
    rw [hfam, hfam2.1.1.1, hfam2.1.1.2]
    rfl
  have hb7' : Bel wp5.heap.size wp5 wp11 := (hb7.trans (hb9.mono hb7.size)).trans (hb11.mono (Nat.le_trans hb7.size hb9.size))
  have hRd11 := hRd.bel hb7'
  have hE11 := hE5.bel hb7'
  have hbe : Bel wp.heap.size wp wp11 := (hb1.trans (hb5.mono hb1.size)).trans (hb7'.mono (Nat.le_trans hb1.size hb5.size))
  generalize hasZ (catR (rowsF (mI zss n) (mI yss n2) n2) n) (catR (rowsF (mI zss n) (mI yss n2) n2) n).length = z at hF11 hsb
  refine walk_quiet sl11 hF11 hT11 (quiet29d _ _ _ _ _ _ _ _ _ _ _ _ _ _ _ _ _ _ _ _ _ _ _ _ _ _ _ _ _ _ _ _ _ _ _ _) ?_
  intro gs12 w12 sl12 t12 q12 hT12 hF12
  cases z
  · -- safe
    refine walk_quiet sl12 hF12 hT12 (quiet29e _ _ _ _ _ _ _ _ _ _ _ _ _ _ _ _ _ _ _ _ _ _ _ _ _ _ _ _ _ _ _ _ _ _ _) ?_
    intro gs13 w13 sl13 t13 q13 hT13 hF13
    refine walk_lastB hS7 (Qr := fun w0 => QE29 .nilIface wp.heap.size w0) (B := wp.heap.size) (by kernel_rfl) hT.size rfl plainR29 (fun a w T d h => QE29.tp a w T d h) (fun a w h => by obtain ⟨_, _, _, _, _, _, _, _, _, _, _, _, hb⟩ := h; exact hb)
      (fun T => wp_mono (readF g0 n g1 n2 _ _ _ _ _ _ _ _ _ _ _ _ _ _ _ _ _ _ _ _ _ _ _ _ _ _ _ _ _ A1 c1 A3 c3 b2 b7 wp.heap.size (tp wp11 T 0) (hRd11.tp T 0) hb2') (fun e a w h => h.imp (fun h => h)
        (fun ⟨h0, b2, X, nx, cx, Y, ny, cy, h1, h2, h3, h4, h5, h6⟩ => ⟨h0, b2, X, nx, cx, Y, ny, cy, h1, h2, h3, h4, h5, bel_base h6⟩))) sl13 hF13 hT13 ?_
    intro gs14 wp14 w14 sl14 t14 q14 a14 todo14 hq14 hT14 hF14
    have hb14 : Bel wp.heap.size wp11 wp14 := by obtain ⟨_, _, _, _, _, _, _, _, _, _, _, _, hb⟩ := hq14; exact hb
    have hE14 : EV wp14 a0 a1 := hE.bel (hbe.trans hb14)
    refine cs_back hS7 sl14 hE14 (fun w h => safe_nil w h) hq14 hF14 hT14 ?_
    intro gs15 wp15 w15 sl15 t15 q15 hb15 hT15 hF15
    have hr : safeB zss yss n n2 = true := by rw [hsb]; rfl
    rw [← hr] at hF15
    exact hk gs15 wp15 w15 sl15 t15 q15 D7 Sh7 hS7 ((hbe.trans hb14).trans (hb15.mono (Nat.le_trans hbe.size hb14.size))) hT15 hF15
  · -- unsafe
    refine walk_lastB hS7 (Qr := fun w0 => QE29 (.iface 126 (.pointer (some a1))) wp.heap.size w0) (B := wp.heap.size) (by kernel_rfl) hT.size rfl plainK29 (fun a w T d h => QE29.tp a w T d h) (fun a w h => by obtain ⟨_, _, _, _, _, _, _, _, _, _, _, _, hb⟩ := h; exact hb)
      (fun T => wp_mono (readT g0 n g1 n2 _ _ _ _ _ _ _ _ _ _ _ _ _ _ _ _ _ _ _ _ _ _ _ _ _ _ _ _ _ A1 c1 A3 c3 b2 b7 wp.heap.size (tp wp11 T 0) a0 a1 (hE11.tp T 0) (hRd11.tp T 0) (by omega) hb2') (fun e a w h => h.imp (fun h => h)
        (fun ⟨h0, b2, X, nx, cx, Y, ny, cy, h1, h2, h3, h4, h5, h6⟩ => ⟨h0, b2, X, nx, cx, Y, ny, cy, h1, h2, h3, h4, h5, bel_base h6⟩))) sl12 hF12 hT12 ?_
    intro gs14 wp14 w14 sl14 t14 q14 a14 todo14 hq14 hT14 hF14
    have hb14 : Bel wp.heap.size wp11 wp14 := by obtain ⟨_, _, _, _, _, _, _, _, _, _, _, _, hb⟩ := hq14; exact hb
    have hE14 : EV wp14 a0 a1 := hE.bel (hbe.trans hb14)
    refine cs_back hS7 sl14 hE14 (fun w h => safe_unsafe w h) hq14 hF14 hT14 ?_
    intro gs15 wp15 w15 sl15 t15 q15 hb15 hT15 hF15
    have hr : safeB zss yss n n2 = false := by rw [hsb]; rfl
    rw [← hr] at hF15
    exact hk gs15 wp15 w15 sl15 t15 q15 D7 Sh7 hS7 ((hbe.trans hb14).trans (hb15.mono (Nat.le_trans hbe.size hb14.size))) hT15 hF15
end
end Go.Proofs.YtafhpbghogdipaaDoor

/- FnExactConfigSafe: the law's run, from its start. -/
namespace Go.Proofs.YtafhpbghogdipaaDoor
open Go.Conc Go.RowKit
open Go.ConcR (DC0)
open Go.ConcN (sumTo upd sumTo_upd upd_ne upd_same)
set_option maxHeartbeats 8000000
set_option maxRecDepth 100000
set_option linter.unusedVariables false
set_option linter.unusedSimpArgs false

theorem ev_psn {W : World} {a0 a1 : Addr} (h : EV W a0 a1) : EV (psn (Dd (fun _ => False) W) W) a0 a1 :=
  h.keep fun b ⟨c, t, f, hc⟩ => psn_out (by
    rintro (h2 | ⟨c', e', h2⟩)
    · exact h2
    · rw [hc] at h2
      cases h2)
theorem enter4 (x : Value) : Frame.enter Tryd.prog 4 #[x] .normal = (base 4).at ⟨#[x] ++ Array.replicate (27 - 1) undef, []⟩ [.code (graft (headN 5 (bodyOf 4)) Z4)] := by
  have hb : Tryd.f4.body = some (bodyOf 4) := by kernel_rfl
  have h := enter_base (P := Tryd.prog) #[x] Tryd.func4 hb
  rw [Tryd.ntmps4] at h
  have hZ : graft (headN 5 (bodyOf 4)) Z4 = bodyOf 4 := graft4
  rw [h, hZ]
  rfl
theorem start_cs (A : Option Addr) (n c : Nat) (zss : List (List Int)) (A2 : Option Addr) (n2 c2 : Nat) (yss : List (List Int)) (W : World) (hM : ArgM W A n c zss) (hN : ArgM W A2 n2 c2 yss) (hEV : ∃ a0 a1, EV W a0 a1) :
    Ends W #[G (Frame.enter Tryd.prog 4 #[.agg #[.slice A n c, .slice A2 n2 c2]] .normal) []] W none #[] := by
  obtain ⟨a0, a1, hE⟩ := hEV
  have hS : ∀ l : Loc, (fun _ : Loc => False) l → ∃ a, l = .cell a ∧ (Dd (fun _ => False) W).dead a.block := fun l h => h.elim
  have hF := fr_first Tryd.prog (G (Frame.enter Tryd.prog 4 #[.agg #[.slice A n c, .slice A2 n2 c2]] .normal) []) W
  have hu0 : (psn (Dd (fun _ => False) W) W).heap.size = W.heap.size := psn_size
  have hR : Truth W W (psn (Dd (fun _ => False) W) W) := ⟨rfl, rfl, by rw [hu0]; exact Nat.le_refl _, fun b hb => rfl⟩
  replace hM := argM_psn hM
  replace hN := argM_psn hN
  replace hE := ev_psn hE
  generalize psn (Dd (fun _ => False) W) W = u0 at hF hR hM hN hu0 hE
  rw [enter4] at hF ⊢
  refine walk_code hS (Z := Z4) (Qn := fun w0 => QA4 A n c zss A2 n2 c2 yss w0) (Qr := fun w0 => QR4 w0) (by kernel_rfl) rfl plain4 (fun a w T d h => QA4.tp _ _ _ _ _ _ _ _ a w T d h) (fun a w T d h => QR4.tp a w T d h)
    (fun a w h => by obtain ⟨_, _, _, _, _, _, _, _, _, _, _, _, _, _, _, _, _, _, _, hb⟩ := h; exact hb) (fun a w h => h.2.2)
    (fun T => wp_mono (lawA A n c zss A2 n2 c2 yss (tp u0 T 0) (argM_tp hM) (argM_tp hN)) (fun e a w h => h.imp
      (fun ⟨h0, v3, d7, d8, d9, d10, d11, d12, d13, d14, d15, d16, b1, b5, g0, g1, h1, h2, h3, h4, h5⟩ => ⟨h0, v3, d7, d8, d9, d10, d11, d12, d13, d14, d15, d16, b1, b5, g0, g1, h1, h2, h3, h4, bel_base h5⟩) (fun ⟨h1, h2, h3, h4⟩ => ⟨h1, h2, h3, bel_base h4⟩))) none hF hR ?_ ?_
  rotate_left
  · intro gs1 wp1 w1 sl1 t1 q1 a1 todo1 hq1 hT1 hF1
    exact end_of Tryd.func4 (by kernel_rfl) (by decide) sl1 hq1.1 hq1.2.1 hF1 hT1
  intro gs1 wp1 w1 sl1 t1 q1 a1 hq1 hT1 hF1
  obtain ⟨v3, d7, d8, d9, d10, d11, d12, d13, d14, d15, d16, b1, b5, g0, g1, rfl, hSt, hz, hz2, hb1⟩ := hq1
  have hM1 := hM.bel hb1
  have hN1 := hN.bel hb1
  have hE1 := hE.bel hb1
  refine walk_quiet sl1 hF1 hT1 (quiet4a _ _ _ _ _ _ _ _ _ _ _ _ _ _ _ _) ?_
  intro gs2 w2 sl2 t2 q2 hT2 hF2
  obtain ⟨pos4, hl4⟩ := load4
  refine walk_op hS (v := .agg #[.slice (some ⟨g0, 0, none⟩) n n, .slice (some ⟨g1, 0, none⟩) n2 n2]) hl4 rfl rfl (fun T d => ?_) sl2 hF2 hT2 ?_
  · have e := loadCfg (w := tp wp1 T d) hSt.x0 hSt.x1
    show ((Instr.loadAt 35 (.pointer (some ⟨b5, 0, none⟩))) >>= fun x => (Pure.pure (Next.value x) : Sem Next)).run Tryd.prog (tp wp1 T d) = _
    rw [Sem.run_bind, e]
    rfl
  intro gs3 w3 sl3 t3 q3 hT3 hF3
  refine walk_quiet sl3 hF3 hT3 (quiet4b _ _ _ _ _ _ _ _ _ _ _ _ _ _ _ _ _) ?_
  intro gs4 w4 sl4 t4 q4 hT4 hF4
  refine cs_run hS sl4 hE1 hSt.C1 hSt.C2 hF4 hT4 ?_
  intro gs5 wp5 w5 sl5 t5 q5 D5 Sh5 hS5 hb5 hT5 hF5
  refine walk_quiet sl5 hF5 hT5 (quiet4c _ _ _ _ _ _ _ _ _ _ _ _ _ _ _ _ _ _) ?_
  intro gs6 w6 sl6 t6 q6 hT6 hF6
  refine walk_last hS5 (Qr := fun w0 => QR4 w0) (by kernel_rfl) rfl plainS4 (fun a w T d h => QR4.tp a w T d h) (fun a w h => h.2.2)
    (fun T => wp_mono (lawS A n c zss A2 n2 c2 yss b1 b5 g0 g1 _ _ _ _ _ _ _ _ _ _ _ _ _ _ (tp wp5 T 0) (argM_tp (hM1.bel hb5)) (argM_tp (hN1.bel hb5)) (CsSt.tp A n c zss A2 n2 c2 yss (CsSt.bel A n c zss A2 n2 c2 yss hSt hb5) T 0) hz hz2) (fun e a w h => h.imp (fun h => h) (fun ⟨h1, h2, h3, h4⟩ => ⟨h1, h2, h3, bel_base h4⟩))) sl6 hF6 hT6 ?_
  intro gs7 wp7 w7 sl7 t7 q7 a7 todo7 hq7 hT7 hF7
  exact end_of Tryd.func4 (by kernel_rfl) (by decide) sl7 hq7.1 hq7.2.1 hF7 hT7
end Go.Proofs.YtafhpbghogdipaaDoor
