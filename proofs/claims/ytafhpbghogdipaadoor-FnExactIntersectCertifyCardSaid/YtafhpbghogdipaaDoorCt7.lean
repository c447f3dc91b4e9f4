/- FnExactIntersectCertify: between the two calls; behind the second. -/
import Derived.Test.YtafhpbghogdipaaDoorCtX
namespace Go.Proofs.YtafhpbghogdipaaDoor
open Go.RowKit
set_option maxHeartbeats 16000000
set_option maxRecDepth 100000
set_option linter.unusedVariables false
set_option linter.unusedSimpArgs false

theorem own_mks {w w' : World} {lo hi B : Nat} {v : Value} {zs : List Int} (h : OwnI w B v zs) (hm : Mks lo hi w w') (hB : hi ≤ B) : OwnI w' B v zs := by
  refine ⟨h.1, ?_⟩
  rcases h.2 with h2 | ⟨g, cap, cur, h1, h2, h3, h4⟩
  · exact .inl h2
  · exact .inr ⟨g, cap, cur, h1, h2, (hm.blk g (.inr (by omega))).trans h3, h4⟩
theorem own_rowc {w : World} {B n c : Nat} {A : Option Addr} {zs : List Int} (h : OwnI w B (.slice A n c) zs) : Row w w.heap.size A (zs.map (Value.int .i64)) := by
  obtain ⟨A', c', e, _, _, hr⟩ := owns_row h
  cases e
  exact hr
/-- The marks stand. -/
def Held (w : World) (B : Option Addr) (l : Nat) : Prop := 0 < l → ∃ g, B = some ⟨g, 0, none⟩ ∧ ∀ i : Nat, i < l → w.cell? ⟨g, i, none⟩ = some (.int .i64 (1 + i))
theorem Held.bel {w w' : World} {B : Option Addr} {l : Nat} (h : Held w B l) (hb : Bel w.heap.size w w') : Held w' B l := fun hl => by
  obtain ⟨g, e, hc⟩ := h hl
  exact ⟨g, e, fun i hi => cell_belc hb (hc i hi)⟩
theorem Held.below {w w' : World} {B : Option Addr} {l : Nat} (h : Held w B l) (hb : Below w.heap.size w w') : Held w' B l := fun hl => by
  obtain ⟨g, e, hc⟩ := h hl
  exact ⟨g, e, fun i hi => (hb.cell (p := ⟨g, i, none⟩) (by have := World.block_lt_of_cell? _ _ (hc i hi); simpa using this)).trans (hc i hi)⟩
theorem mark_own {w : World} {lo : Nat} {B1 : Option Addr} {c1 : Nat} {zs : List Int} {z : Int} (h : OwnI w lo (.slice B1 zs.length c1) zs) (hlo : 0 < lo) (hn : zs.length ≤ 400) (hz : z = 1 + (zs.length : Int)) :
    Calls Tryd.prog 12 #[.slice B1 zs.length c1, .int .i64 1] w fun e w' => e = .returned (.int .i64 z) ∧ Below lo w w' ∧ Held w' B1 zs.length := by
  by_cases h0 : zs.length = 0
  · rw [h0] at hz ⊢
    refine (mark_zero B1 c1 1 w).mono ?_
    rintro e w' ⟨rfl, rfl⟩
    exact ⟨by rw [hz]; rfl, Below.refl _ _, fun h => absurd h (by omega)⟩
  · obtain ⟨_, h2⟩ := h
    rcases h2 with ⟨_, hl⟩ | ⟨g, cap, cur, hv, hb, hg, hle, hmx, hsz, htk⟩
    · exact absurd hl h0
    · cases hv
      have hcell : ∀ i : Nat, i < zs.length → ∃ u, w.cell? ⟨g, i, none⟩ = some (.int .i64 u) := by
        intro i hi
        refine ⟨zs.getD i 0, ?_⟩
        rw [cell_of_row w g i cur 3 (0, 0) hg]
        have e1 : (cur.toList.take (zs.length * 1))[i]? = (zs.map (Value.int .i64))[i]? := by rw [htk]
        rw [List.getElem?_take, if_pos (by omega)] at e1
        simpa [hi] using e1
      have hfrz : ∀ i : Nat, w.frozen? ⟨g, i, none⟩ = false := fun i => by simp [World.frozen?, hg]
      refine (mark_is (g - 1) (g + 1) g zs.length c1 1 w (by omega) (by omega) (by omega) (by omega) (by omega) hcell hfrz).mono ?_
      rintro e w' ⟨rfl, hm, hat⟩
      exact ⟨by rw [hz], ⟨hm.grw.os, hm.grw.tape, hm.grw.output, hm.grw.size, fun b hb' => hm.blk b (.inl (by omega))⟩, fun _ => ⟨g, rfl, hat⟩⟩
theorem held_own {w : World} {B1 : Option Addr} {c1 l : Nat} {z : Int} (h : Held w B1 l) (hn : l ≤ 400) (hz : z = 1 + (l : Int)) :
    Calls Tryd.prog 13 #[.slice B1 l c1, .int .i64 1] w fun e w' => e = .returned (.int .i64 z) ∧ w' = w := by
  by_cases h0 : l = 0
  · subst h0
    refine (held_zero B1 c1 1 w).mono ?_
    rintro e w' ⟨rfl, rfl⟩
    exact ⟨by rw [hz]; rfl, rfl⟩
  · obtain ⟨g, rfl, hc⟩ := h (by omega)
    refine (held_is g l c1 1 w (by omega) (by omega) (by omega) hc).mono ?_
    rintro e w' ⟨rfl, rfl⟩
    exact ⟨by rw [hz], rfl⟩

noncomputable def R3 : Code := restOf Z3
theorem plainM : plainCode SP (headN 10 R3) = true := by kernel_rfl
theorem graftM : graft (headN 10 R3) (tailN 10 R3) = R3 := by kernel_rfl
noncomputable def Z27 : Code := tailN 10 R3
noncomputable def C27 : Code := match Z27 with | .seq c _ => c | _ => .skip
noncomputable def Z29 : Code := restOf Z27
noncomputable def C29 : Code := match Z29 with | .seq c _ => c | _ => .skip
noncomputable def Z31 : Code := restOf Z29
theorem plain27 : plainCode SP C27 = true := by kernel_rfl
theorem plain29 : plainCode SP C29 = true := by kernel_rfl
noncomputable def R31 : Code := restOf Z31
theorem plainS31 : plainCode SP R31 = true := by kernel_rfl
/-- The law stands ahead of the second call. -/
def QM3 (A : Option Addr) (n c : Nat) (A2 : Option Addr) (n2 c2 : Nat) (L : List Int) (m : Bool) (B0 : Option Addr) (c0 : Nat) (B1 : Option Addr) (c1 x0 x1 : Nat) (w0 : World) (a : Act) (w : World) : Prop :=
  ∃ (v5 v12 d17 d18 d19 d20 d21 d22 d23 d24 d25 d26 d27 d28 d29 d30 d31 d32 d33 d34 d35 d36 d37 d38 d39 d40 d41 d42 d43 d44 d45 d46 d47 d48 d49 d50 d51 d52 d53 d54 d55 d56 d57 d58 d59 d60 d61 d62 d63 d64 d65 d66 d67 d68 d69 d70 d71 d72 d73 d74 d75 d76 d77 d78 d79 d80 d81 d82 d83 d84 d85 d86 d87 d88 : Value) (z : Int), a = ⟨#[.slice A n c, .slice A2 n2 c2, undef, undef, .bool false, v5, .slice B0 L.length c0, .bool m, .slice (some ⟨x0, 0, none⟩) n n, .slice (some ⟨x1, 0, none⟩) n2 n2, .slice B1 L.length c1, .bool m, v12, .int .i64 z, .int .i64 z, undef, undef, d17, d18, d19, d20, d21, d22, d23, d24, d25, d26, d27, d28, d29, d30, d31, d32, d33, d34, d35, d36, d37, d38, d39, d40, d41, d42, d43, d44, d45, d46, d47, d48, d49, d50, d51, d52, d53, d54, d55, d56, d57, d58, d59, d60, d61, d62, d63, d64, d65, d66, d67, d68, d69, d70, d71, d72, d73, d74, d75, d76, d77, d78, d79, d80, d81, d82, d83, d84, d85, d86, d87, d88, undef, undef, undef, undef, undef, undef, undef, undef, undef, undef, undef, undef, undef, undef, undef, undef, undef, undef, undef, undef, undef, undef, undef, undef, undef, undef, undef, undef, undef, undef], []⟩ ∧ z = 1 + (L.length : Int) ∧ Row w x0 B0 (L.map (Value.int .i64)) ∧ Held w B1 L.length ∧ Bel x0 w0 w
theorem QM3.tp {A : Option Addr} {n c : Nat} {A2 : Option Addr} {n2 c2 : Nat} {L : List Int} {m : Bool} {B0 : Option Addr} {c0 : Nat} {B1 : Option Addr} {c1 x0 x1 : Nat} {w0 : World} (a : Act) (w : World) (T : Nat → Question → Nat) (d : Nat) (h : QM3 A n c A2 n2 c2 L m B0 c0 B1 c1 x0 x1 w0 a w) : QM3 A n c A2 n2 c2 L m B0 c0 B1 c1 x0 x1 w0 a (tp w T d) := by
  obtain ⟨v5, v12, d17, d18, d19, d20, d21, d22, d23, d24, d25, d26, d27, d28, d29, d30, d31, d32, d33, d34, d35, d36, d37, d38, d39, d40, d41, d42, d43, d44, d45, d46, d47, d48, d49, d50, d51, d52, d53, d54, d55, d56, d57, d58, d59, d60, d61, d62, d63, d64, d65, d66, d67, d68, d69, d70, d71, d72, d73, d74, d75, d76, d77, d78, d79, d80, d81, d82, d83, d84, d85, d86, d87, d88, z, e, h1, h2, h3, h4⟩ := h
  exact ⟨v5, v12, d17, d18, d19, d20, d21, d22, d23, d24, d25, d26, d27, d28, d29, d30, d31, d32, d33, d34, d35, d36, d37, d38, d39, d40, d41, d42, d43, d44, d45, d46, d47, d48, d49, d50, d51, d52, d53, d54, d55, d56, d57, d58, d59, d60, d61, d62, d63, d64, d65, d66, d67, d68, d69, d70, d71, d72, d73, d74, d75, d76, d77, d78, d79, d80, d81, d82, d83, d84, d85, d86, d87, d88, z, e, h1, h2, h3, h4.tp T d⟩
theorem lawM (A : Option Addr) (n c : Nat) (zss : List (List Int)) (A2 : Option Addr) (n2 c2 : Nat) (yss : List (List Int)) (L : List Int) (m : Bool) (B0 : Option Addr) (c0 : Nat) (B1 : Option Addr) (c1 x0 hi0 x1 hi1 lo : Nat) (v5 d17 d18 d19 d20 d21 d22 d23 d24 d25 d26 d27 d28 d29 d30 d31 d32 d33 d34 d35 d36 d37 d38 e39 e40 e41 e42 e43 e44 : Value) (w : World) (hM : ArgM w A n c zss) (hN : ArgM w A2 n2 c2 yss) (hz : SzOk zss n) (hz2 : SzOk yss n2)
    (hL : L.length ≤ 400) (hrow : Row w x0 B0 (L.map (Value.int .i64))) (R0 : RowsIn w x0 hi0 n zss) (R1 : RowsIn w x1 hi1 n2 yss) (le0 : hi0 ≤ x1) (lt0 : x0 < hi0) (lt1 : x1 < hi1) (le1 : hi1 ≤ lo) (hs : lo ≤ w.heap.size) (C0 : CpM w x0 n zss) (C1 : CpM w x1 n2 yss) (hown : OwnI w lo (.slice B1 L.length c1) L) :
    (headN 10 R3).wp Tryd.prog (QQ (QM3 A n c A2 n2 c2 L m B0 c0 B1 c1 x0 x1 w) (fun _ _ => False)) ⟨#[.slice A n c, .slice A2 n2 c2, undef, undef, .bool false, v5, .slice B0 L.length c0, .bool m, .slice (some ⟨x0, 0, none⟩) n n, .slice (some ⟨x1, 0, none⟩) n2 n2, .slice B1 L.length c1, .bool m, undef, undef, undef, undef, undef, d17, d18, d19, d20, d21, d22, d23, d24, d25, d26, d27, d28, d29, d30, d31, d32, d33, d34, d35, d36, d37, d38, e39, e40, e41, e42, e43, e44, undef, undef, undef, undef, undef, undef, undef, undef, undef, undef, undef, undef, undef, undef, undef, undef, undef, undef, undef, undef, undef, undef, undef, undef, undef, undef, undef, undef, undef, undef, undef, undef, undef, undef, undef, undef, undef, undef, undef, undef, undef, undef, undef, undef, undef, undef, undef, undef, undef, undef, undef, undef, undef, undef, undef, undef, undef, undef, undef, undef, undef, undef, undef, undef, undef, undef, undef, undef, undef, undef, undef, undef, undef, undef], []⟩ w := by
  obtain ⟨Q, hQ⟩ : ∃ Q, Q = QQ (QM3 A n c A2 n2 c2 L m B0 c0 B1 c1 x0 x1 w) (fun _ _ => False) := ⟨_, rfl⟩
  rw [← hQ]
  have HQ := Lib.hid hQ
  clear hQ
  obtain ⟨z, hzz⟩ : ∃ z, z = 1 + (L.length : Int) := ⟨_, rfl⟩
  have HZz := Lib.hid hzz
  have z0 : ¬ z < 0 := by omega
  have zq : (z != z) = false := by simp
  have mq : (m != m) = false := by simp
  have HM := Lib.hid hM
  have HN := Lib.hid hN
  have HZ := Lib.hid hz
  have HZ2 := Lib.hid hz2
  have HRow := Lib.hid hrow
  have HR0 := Lib.hid R0
  have HR1 := Lib.hid R1
  have HC0 := Lib.hid C0
  have HC1 := Lib.hid C1
  have HO := Lib.hid hown
  have HLe := Lib.hid hL
  have hxs : x0 ≤ w.heap.size := by omega
  clear hM hN hz hz2 hrow R0 R1 C0 C1 hown hzz hL
  have HE := Lib.hid (fun (W : World) (hr0 : Row W x0 B0 (L.map (Value.int .i64))) (hx : x0 ≤ W.heap.size) (ho : OwnI W lo (.slice B1 L.length c1) L) => eqIntS_same B1 B0 L.length c1 c0 L W (own_rowc ho) (hr0.more hx) rfl (by have := HLe.out; omega))
  generalize hLen : L.length = len at HE HO
  have HLen := Lib.hid hLen
  clear hLen
  simp only [R3, Z3, bodyOf, tailN, restOf, Tryd.func3, Tryd.f3, headN, Option.bind_some, Option.getD_some, Array.replicate, List.replicate, List.append_toArray, List.cons_append, List.nil_append, Nat.reduceSub]
  go_wp2_with fail
  refine (HE.out w HRow.out hxs HO.out).mono ?_
  rintro e w1 ⟨rfl, m1, hw1⟩
  have HB1 : Hid (Below w.heap.size w w1) := Lib.hid (by rw [hw1]; exact below_drewN (Below.refl _ _) _)
  clear hw1
  go_wp2_with fail
  refine (copySS HM.out HZ.out HB1.out).mono ?_
  rintro e w2 ⟨rfl, C2, hb12, hb2⟩
  have HC2 := Lib.hid C2
  have HB2 := Lib.hid hb2
  clear C2 hb12 hb2
  go_wp2_with fail
  refine (eqSS (HC0.out.below HB2.out) HC2.out HB2.out).mono ?_
  rintro e w3 ⟨rfl, -, hb3⟩
  have HB3 := Lib.hid hb3
  clear hb3 HC2
  go_wp2_with fail
  refine (copySS HN.out HZ2.out HB3.out).mono ?_
  rintro e w4 ⟨rfl, C4, hb34, hb4⟩
  have HC4 := Lib.hid C4
  have HB4 := Lib.hid hb4
  clear C4 hb34 hb4
  go_wp2_with fail
  refine (eqSS (HC1.out.below HB4.out) HC4.out HB4.out).mono ?_
  rintro e w5 ⟨rfl, -, hb5⟩
  have HB5 := Lib.hid hb5
  clear hb5 HC4
  go_wp2_with fail
  refine (markSS_is x0 hi0 n n zss 1 w5 (HR0.out.below HB5.out (Nat.le_refl _)) HZ.out (by omega) (by omega)).mono ?_
  rintro e w6 ⟨r6, rfl, hr6a, hr6b, M6⟩
  have HM6 := Lib.hid M6
  clear M6
  go_wp2_with fail
  refine (markSS_is x1 hi1 n2 n2 yss r6 w6 ((HR1.out.below HB5.out (Nat.le_refl _)).mks HM6.out (.inr le0)) HZ2.out hr6a (by omega)).mono ?_
  rintro e w7 ⟨r7, rfl, hr7a, hr7b, M7⟩
  have HM7 := Lib.hid M7
  clear M7
  have hr7 : ¬ r7 < 0 := by omega
  have HB7 : Hid (Below x0 w w7) := Lib.hid ((HB5.out.mono hxs).trans (HM6.out.grw.trans (HM7.out.grw.mono (by omega))))
  have HO7 := Lib.hid (own_mks (own_mks (own_keepc HO.out HB5.out (Nat.le_refl _)) HM6.out (by omega)) HM7.out le1)
  have HR7 := Lib.hid (HRow.out.below HB7.out)
  have hxs7 : x0 ≤ w7.heap.size := Nat.le_trans hxs HB7.out.size
  go_wp2_with fail
  refine (HE.out w7 HR7.out hxs7 HO7.out).mono ?_
  rintro e w8 ⟨rfl, m8, hw8⟩
  have HB8 : Hid (Below x0 w w8) := Lib.hid (by rw [hw8]; exact below_drewN HB7.out _)
  have HO8 : Hid (OwnI w8 lo (.slice B1 len c1) L) := Lib.hid (by rw [hw8]; exact HO7.out)
  have HMk := Lib.hid (mark_own (z := z) (by rw [HLen.out]; exact HO8.out) (by omega) HLe.out HZz.out)
  have HHd := Lib.hid (fun (W : World) (h : Held W B1 L.length) => held_own (c1 := c1) h HLe.out HZz.out)
  rw [HLen.out] at HMk HHd
  clear hw8
  go_wp2_with fail
  refine HMk.out.mono ?_
  rintro e w9 ⟨rfl, hb9, hh9⟩
  have HB9 := Lib.hid (HB8.out.trans (hb9.mono (by omega)))
  have HR9 := Lib.hid (HRow.out.below HB9.out)
  have HH9 := Lib.hid hh9
  clear hb9 hh9
  go_wp2_with fail
  refine (HHd.out w9 HH9.out).mono ?_
  rintro e w10 ⟨rfl, rfl⟩
  go_wp2_with fail
  rw [HQ.out]
  have e := HLen.out
  subst e
  exact .inl ⟨rfl, _, _, _, _, _, _, _, _, _, _, _, _, _, _, _, _, _, _, _, _, _, _, _, _, _, _, _, _, _, _, _, _, _, _, _, _, _, _, _, _, _, _, _, _, _, _, _, _, _, _, _, _, _, _, _, _, _, _, _, _, _, _, _, _, _, _, _, _, _, _, _, _, _, _, z, rfl, HZz.out, HR9.out, HH9.out, Bel.of' HB9.out⟩
theorem lawC27 (A : Option Addr) (n c : Nat) (A2 : Option Addr) (n2 c2 : Nat) (L : List Int) (m : Bool) (B0 : Option Addr) (c0 : Nat) (B1 : Option Addr) (c1 x0 x1 : Nat) (v5 v12 d17 d18 d19 d20 d21 d22 d23 d24 d25 d26 d27 d28 d29 d30 d31 d32 d33 d34 d35 d36 d37 d38 d39 d40 d41 d42 d43 d44 d45 d46 d47 d48 d49 d50 d51 d52 d53 d54 d55 d56 d57 d58 d59 d60 d61 d62 d63 d64 d65 d66 d67 d68 d69 d70 d71 d72 d73 d74 d75 d76 d77 d78 d79 d80 d81 d82 d83 d84 d85 d86 d87 d88 : Value) (z : Int) (w : World) (h0 : 0 ≤ z) :
    C27.wp Tryd.prog (QQ (QB8 ⟨#[.slice A n c, .slice A2 n2 c2, undef, undef, .bool false, v5, .slice B0 L.length c0, .bool m, .slice (some ⟨x0, 0, none⟩) n n, .slice (some ⟨x1, 0, none⟩) n2 n2, .slice B1 L.length c1, .bool m, v12, .int .i64 z, .int .i64 z, undef, undef, d17, d18, d19, d20, d21, d22, d23, d24, d25, d26, d27, d28, d29, d30, d31, d32, d33, d34, d35, d36, d37, d38, d39, d40, d41, d42, d43, d44, d45, d46, d47, d48, d49, d50, d51, d52, d53, d54, d55, d56, d57, d58, d59, d60, d61, d62, d63, d64, d65, d66, d67, d68, d69, d70, d71, d72, d73, d74, d75, d76, d77, d78, d79, d80, d81, d82, d83, d84, d85, d86, d87, d88, .int .i64 z, .bool false, undef, undef, undef, undef, undef, undef, undef, undef, undef, undef, undef, undef, undef, undef, undef, undef, undef, undef, undef, undef, undef, undef, undef, undef, undef, undef, undef, undef], []⟩ w) (fun _ _ => False)) ⟨#[.slice A n c, .slice A2 n2 c2, undef, undef, .bool false, v5, .slice B0 L.length c0, .bool m, .slice (some ⟨x0, 0, none⟩) n n, .slice (some ⟨x1, 0, none⟩) n2 n2, .slice B1 L.length c1, .bool m, v12, .int .i64 z, .int .i64 z, undef, undef, d17, d18, d19, d20, d21, d22, d23, d24, d25, d26, d27, d28, d29, d30, d31, d32, d33, d34, d35, d36, d37, d38, d39, d40, d41, d42, d43, d44, d45, d46, d47, d48, d49, d50, d51, d52, d53, d54, d55, d56, d57, d58, d59, d60, d61, d62, d63, d64, d65, d66, d67, d68, d69, d70, d71, d72, d73, d74, d75, d76, d77, d78, d79, d80, d81, d82, d83, d84, d85, d86, d87, d88, undef, undef, undef, undef, undef, undef, undef, undef, undef, undef, undef, undef, undef, undef, undef, undef, undef, undef, undef, undef, undef, undef, undef, undef, undef, undef, undef, undef, undef, undef], []⟩ w := by
  obtain ⟨Q, hQ⟩ : ∃ Q, Q = QQ (QB8 ⟨#[.slice A n c, .slice A2 n2 c2, undef, undef, .bool false, v5, .slice B0 L.length c0, .bool m, .slice (some ⟨x0, 0, none⟩) n n, .slice (some ⟨x1, 0, none⟩) n2 n2, .slice B1 L.length c1, .bool m, v12, .int .i64 z, .int .i64 z, undef, undef, d17, d18, d19, d20, d21, d22, d23, d24, d25, d26, d27, d28, d29, d30, d31, d32, d33, d34, d35, d36, d37, d38, d39, d40, d41, d42, d43, d44, d45, d46, d47, d48, d49, d50, d51, d52, d53, d54, d55, d56, d57, d58, d59, d60, d61, d62, d63, d64, d65, d66, d67, d68, d69, d70, d71, d72, d73, d74, d75, d76, d77, d78, d79, d80, d81, d82, d83, d84, d85, d86, d87, d88, .int .i64 z, .bool false, undef, undef, undef, undef, undef, undef, undef, undef, undef, undef, undef, undef, undef, undef, undef, undef, undef, undef, undef, undef, undef, undef, undef, undef, undef, undef, undef, undef], []⟩ w) (fun _ _ => False) := ⟨_, rfl⟩
  rw [← hQ]
  have HQ := Lib.hid hQ
  clear hQ
  have z0 : ¬ z < 0 := by omega
  simp only [C27, Z27, R3, Z3, bodyOf, tailN, restOf, Tryd.func3, Tryd.f3, Option.bind_some, Option.getD_some, Array.replicate, List.replicate, List.append_toArray, List.cons_append, List.nil_append, Nat.reduceSub]
  go_wp2_with fail
  rw [HQ.out]
  exact .inl ⟨rfl, rfl, Bel.refl _ _⟩
theorem lawC29 (A : Option Addr) (n c : Nat) (A2 : Option Addr) (n2 c2 : Nat) (L : List Int) (m : Bool) (B0 : Option Addr) (c0 : Nat) (B1 : Option Addr) (c1 x0 x1 : Nat) (v5 v12 d17 d18 d19 d20 d21 d22 d23 d24 d25 d26 d27 d28 d29 d30 d31 d32 d33 d34 d35 d36 d37 d38 d39 d40 d41 d42 d43 d44 d45 d46 d47 d48 d49 d50 d51 d52 d53 d54 d55 d56 d57 d58 d59 d60 d61 d62 d63 d64 d65 d66 d67 d68 d69 d70 d71 d72 d73 d74 d75 d76 d77 d78 d79 d80 d81 d82 d83 d84 d85 d86 d87 d88 : Value) (z : Int) (w : World) :
    C29.wp Tryd.prog (QQ (QB8 ⟨#[.slice A n c, .slice A2 n2 c2, undef, undef, .bool false, v5, .slice B0 L.length c0, .bool m, .slice (some ⟨x0, 0, none⟩) n n, .slice (some ⟨x1, 0, none⟩) n2 n2, .slice B1 L.length c1, .bool m, v12, .int .i64 z, .int .i64 z, undef, undef, d17, d18, d19, d20, d21, d22, d23, d24, d25, d26, d27, d28, d29, d30, d31, d32, d33, d34, d35, d36, d37, d38, d39, d40, d41, d42, d43, d44, d45, d46, d47, d48, d49, d50, d51, d52, d53, d54, d55, d56, d57, d58, d59, d60, d61, d62, d63, d64, d65, d66, d67, d68, d69, d70, d71, d72, d73, d74, d75, d76, d77, d78, d79, d80, d81, d82, d83, d84, d85, d86, d87, d88, .int .i64 z, .bool false, .int .i64 z, .int .i64 z, .bool false, undef, undef, undef, undef, undef, undef, undef, undef, undef, undef, undef, undef, undef, undef, undef, undef, undef, undef, undef, undef, undef, undef, undef, undef, undef], []⟩ w) (fun _ _ => False)) ⟨#[.slice A n c, .slice A2 n2 c2, undef, undef, .bool false, v5, .slice B0 L.length c0, .bool m, .slice (some ⟨x0, 0, none⟩) n n, .slice (some ⟨x1, 0, none⟩) n2 n2, .slice B1 L.length c1, .bool m, v12, .int .i64 z, .int .i64 z, undef, undef, d17, d18, d19, d20, d21, d22, d23, d24, d25, d26, d27, d28, d29, d30, d31, d32, d33, d34, d35, d36, d37, d38, d39, d40, d41, d42, d43, d44, d45, d46, d47, d48, d49, d50, d51, d52, d53, d54, d55, d56, d57, d58, d59, d60, d61, d62, d63, d64, d65, d66, d67, d68, d69, d70, d71, d72, d73, d74, d75, d76, d77, d78, d79, d80, d81, d82, d83, d84, d85, d86, d87, d88, .int .i64 z, .bool false, undef, undef, undef, undef, undef, undef, undef, undef, undef, undef, undef, undef, undef, undef, undef, undef, undef, undef, undef, undef, undef, undef, undef, undef, undef, undef, undef, undef], []⟩ w := by
  obtain ⟨Q, hQ⟩ : ∃ Q, Q = QQ (QB8 ⟨#[.slice A n c, .slice A2 n2 c2, undef, undef, .bool false, v5, .slice B0 L.length c0, .bool m, .slice (some ⟨x0, 0, none⟩) n n, .slice (some ⟨x1, 0, none⟩) n2 n2, .slice B1 L.length c1, .bool m, v12, .int .i64 z, .int .i64 z, undef, undef, d17, d18, d19, d20, d21, d22, d23, d24, d25, d26, d27, d28, d29, d30, d31, d32, d33, d34, d35, d36, d37, d38, d39, d40, d41, d42, d43, d44, d45, d46, d47, d48, d49, d50, d51, d52, d53, d54, d55, d56, d57, d58, d59, d60, d61, d62, d63, d64, d65, d66, d67, d68, d69, d70, d71, d72, d73, d74, d75, d76, d77, d78, d79, d80, d81, d82, d83, d84, d85, d86, d87, d88, .int .i64 z, .bool false, .int .i64 z, .int .i64 z, .bool false, undef, undef, undef, undef, undef, undef, undef, undef, undef, undef, undef, undef, undef, undef, undef, undef, undef, undef, undef, undef, undef, undef, undef, undef, undef], []⟩ w) (fun _ _ => False) := ⟨_, rfl⟩
  rw [← hQ]
  have HQ := Lib.hid hQ
  clear hQ
  have zq : (z != z) = false := by simp
  simp only [C29, Z29, Z27, R3, Z3, bodyOf, tailN, restOf, Tryd.func3, Tryd.f3, Option.bind_some, Option.getD_some, Array.replicate, List.replicate, List.append_toArray, List.cons_append, List.nil_append, Nat.reduceSub]
  go_wp2_with fail
  rw [HQ.out]
  exact .inl ⟨rfl, rfl, Bel.refl _ _⟩
theorem lawS31 (A : Option Addr) (n c : Nat) (A2 : Option Addr) (n2 c2 : Nat) (L : List Int) (m : Bool) (B0 : Option Addr) (c0 : Nat) (B1 : Option Addr) (c1 x0 x1 : Nat) (v5 v12 d17 d18 d19 d20 d21 d22 d23 d24 d25 d26 d27 d28 d29 d30 d31 d32 d33 d34 d35 d36 d37 d38 d39 d40 d41 d42 d43 d44 d45 d46 d47 d48 d49 d50 d51 d52 d53 d54 d55 d56 d57 d58 d59 d60 d61 d62 d63 d64 d65 d66 d67 d68 d69 d70 d71 d72 d73 d74 d75 d76 d77 d78 d79 d80 d81 d82 d83 d84 d85 d86 d87 d88 d89 d90 d91 d92 d93 d94 e95 e96 e97 e98 e99 e100 e101 : Value) (B2 : Option Addr) (c3 : Nat) (z : Int) (w : World) (hzz : z = 1 + (L.length : Int)) (hL : L.length ≤ 400) (hrow : Row w w.heap.size B0 (L.map (Value.int .i64))) (hrow2 : Row w w.heap.size B2 (L.map (Value.int .i64))) (hH : Held w B1 L.length) :
    R31.wp Tryd.prog (QQ (fun _ _ => False) (QR3 w.heap.size w)) ⟨#[.slice A n c, .slice A2 n2 c2, undef, undef, .bool false, v5, .slice B0 L.length c0, .bool m, .slice (some ⟨x0, 0, none⟩) n n, .slice (some ⟨x1, 0, none⟩) n2 n2, .slice B1 L.length c1, .bool m, v12, .int .i64 z, .int .i64 z, .slice B2 L.length c3, .bool m, d17, d18, d19, d20, d21, d22, d23, d24, d25, d26, d27, d28, d29, d30, d31, d32, d33, d34, d35, d36, d37, d38, d39, d40, d41, d42, d43, d44, d45, d46, d47, d48, d49, d50, d51, d52, d53, d54, d55, d56, d57, d58, d59, d60, d61, d62, d63, d64, d65, d66, d67, d68, d69, d70, d71, d72, d73, d74, d75, d76, d77, d78, d79, d80, d81, d82, d83, d84, d85, d86, d87, d88, d89, d90, d91, d92, d93, d94, e95, e96, e97, e98, e99, e100, e101, undef, undef, undef, undef, undef, undef, undef, undef, undef, undef, undef, undef, undef, undef, undef, undef, undef], []⟩ w := by
  obtain ⟨Q, hQ⟩ : ∃ Q, Q = QQ (fun _ _ => False) (QR3 w.heap.size w) := ⟨_, rfl⟩
  rw [← hQ]
  have HQ := Lib.hid hQ
  clear hQ
  have z0 : ¬ z < 0 := by omega
  have zq : (z != z) = false := by simp
  have mq : (m != m) = false := by simp
  have HE := Lib.hid (eqIntS_same B2 B0 L.length c3 c0 L w hrow2 hrow rfl (by omega))
  have HHd := Lib.hid (fun (W : World) (hb : Below w.heap.size w W) => held_own (c1 := c1) (hH.below hb) hL hzz)
  clear hzz hL hrow hrow2 hH
  generalize L.length = len at HE HHd
  simp only [R31, Z31, Z29, Z27, R3, Z3, bodyOf, tailN, restOf, Tryd.func3, Tryd.f3, Option.bind_some, Option.getD_some, Array.replicate, List.replicate, List.append_toArray, List.cons_append, List.nil_append, Nat.reduceSub]
  go_wp2_with fail
  refine HE.out.mono ?_
  rintro e w1 ⟨rfl, m1, hw1⟩
  have HB1 : Hid (Below w.heap.size w w1) := Lib.hid (by rw [hw1]; exact below_drewN (Below.refl _ _) _)
  clear hw1
  go_wp2_with fail
  refine (HHd.out w1 HB1.out).mono ?_
  rintro e w2 ⟨rfl, rfl⟩
  go_wp2_with fail
  rw [HQ.out]
  exact .inr ⟨rfl, rfl, rfl, Bel.of' HB1.out⟩
end Go.Proofs.YtafhpbghogdipaaDoor
