/- FnExactIntersectCertify: the law's run, from its start. -/
import Derived.Test.YtafhpbghogdipaaDoorCt7
namespace Go.Proofs.YtafhpbghogdipaaDoor
open Go.Conc Go.ConcN Go.RowKit Go.Conc.Lib Go.ConcR.Gen Go.ConcN.Gen
open Go.ConcR (DC0)
set_option maxHeartbeats 16000000
set_option maxRecDepth 100000
set_option linter.unusedVariables false
set_option linter.unusedSimpArgs false

theorem toIntSS_wp (A : Option Addr) (n c : Nat) (zss : List (List Int)) (w : World) (h : Mat w w.heap.size A n zss) (hz : SzOk zss n) :
    ∃ cd, Tryd.f7.body = some cd ∧ cd.wp Tryd.prog (bodyPost Tryd.prog Tryd.f7 fun e w' => e = .returned (.slice (some ⟨w.heap.size, 0, none⟩) n n) ∧ MatP w' w.heap.size zss n n ∧ Below w.heap.size w w') { tmps := #[.slice A n c] ++ Array.replicate (Tryd.f7.ntmps - (#[Value.slice A n c]).size) undef, defers := [] } w := by
  obtain ⟨i0, hi, hz0, hz1, hz2⟩ := info_parts slices_info
  have hn := hz.1
  have hmk := make_rows 22 24 i0 Tryd.underlying22 hi hz0 hz1 hz2 n hn
  clear hi hz0 hz1 hz2
  have HM := Lib.hid h
  have HZ := Lib.hid hz
  clear h hz
  refine ⟨_, rfl, ?_⟩
  simp only [Tryd.ntmps7, List.size_toArray, List.length_cons, List.length_nil, Nat.reduceAdd, Nat.reduceSub, Array.replicate_succ, Array.replicate_zero, List.push_toArray, List.append_toArray, List.nil_append, List.cons_append]
  go_wp2
  go_loopw [4] (fun i wr => ∃ k : Nat, k ≤ n ∧ i = .int .i64 k ∧ MatP wr w.heap.size zss n k ∧ Below w.heap.size w wr) (fun i _ => n - (intOf i).toNat)
  case atStart => exact ⟨0, Nat.zero_le _, rfl, MatP.made w zss n, (Below.refl _ _).alloc (Nat.le_refl _) _⟩
  case round =>
    obtain ⟨k, hk, rfl, hP, hB⟩ := hrel
    have HP := Lib.hid hP
    have hlt := hP.lt
    have hBs := hB.size
    clear hP
    by_cases hkn : k < n
    · have i1 : (k : Int) < n := by omega
      have hMr := HM.out.below hB
      have HMr := Lib.hid hMr
      clear hMr
      obtain ⟨b, off, C, cc, g⟩ := HMr.out.get hkn
      have G := Lib.hid g
      obtain rfl := g.adr
      have hcell := g.cell
      have hI := HMr.out.ints hkn g hB.size
      have HI := Lib.hid hI
      have hsl := HP.out.slot hkn
      obtain ⟨hs1, hs2⟩ := hsl
      clear g hI
      go_wp2_with fail
      refine (toIntS_any _ _ _ _ _ HI.out (HZ.out.2 k hkn)).mono ?_
      rintro e w1 ⟨rfl, hg1, hz1, hb1⟩
      have HP1 := Lib.hid (HP.out.below hb1 (Nat.le_refl _))
      obtain ⟨hs1', hs2'⟩ := HP1.out.slot hkn
      have HN := Lib.hid (HP1.out.put hkn hlt hg1)
      have hB1 : Below w.heap.size w w1 := hB.trans (hb1.mono hBs)
      clear hg1 hs1 hs2
      go_wp2
      go_roundw
      case rel => exact ⟨k + 1, by omega, by go_num, HN.out, hB1.setCell (Nat.le_refl _) _⟩
      case measure => simp [intOf]; omega
    · obtain rfl : k = n := by omega
      go_wp2
      go_ret
      exact ⟨rfl, HP.out, hB⟩


/-- The law waits for its first, its second call. -/
noncomputable def W3 (y0 y1 v5 y6 y7 y8 y9 d17 d18 d19 d20 d21 d22 d23 d24 d25 d26 d27 d28 d29 d30 d31 d32 d33 d34 d35 d36 d37 d38 : Value) (l : List Nat) : Frame := (base 3).at ⟨#[y0, y1, undef, undef, .bool false, v5, y6, y7, y8, y9, undef, undef, undef, undef, undef, undef, undef, d17, d18, d19, d20, d21, d22, d23, d24, d25, d26, d27, d28, d29, d30, d31, d32, d33, d34, d35, d36, d37, d38, undef, y8, y9, undef, undef, undef, undef, undef, undef, undef, undef, undef, undef, undef, undef, undef, undef, undef, undef, undef, undef, undef, undef, undef, undef, undef, undef, undef, undef, undef, undef, undef, undef, undef, undef, undef, undef, undef, undef, undef, undef, undef, undef, undef, undef, undef, undef, undef, undef, undef, undef, undef, undef, undef, undef, undef, undef, undef, undef, undef, undef, undef, undef, undef, undef, undef, undef, undef, undef, undef, undef, undef, undef, undef, undef, undef, undef, undef, undef, undef], []⟩ (.inRegion (opsOf Z3) l :: .code R3 :: [])
noncomputable def W31 (y0 y1 v5 y6 y7 y8 y9 y10 y11 v12 y13 y14 d17 d18 d19 d20 d21 d22 d23 d24 d25 d26 d27 d28 d29 d30 d31 d32 d33 d34 d35 d36 d37 d38 d39 d40 d41 d42 d43 d44 d45 d46 d47 d48 d49 d50 d51 d52 d53 d54 d55 d56 d57 d58 d59 d60 d61 d62 d63 d64 d65 d66 d67 d68 d69 d70 d71 d72 d73 d74 d75 d76 d77 d78 d79 d80 d81 d82 d83 d84 d85 d86 d87 d88 d89 d90 d91 d92 d93 t95 t96 t97 t98 : Value) (l : List Nat) : Frame := (base 3).at ⟨#[y0, y1, undef, undef, .bool false, v5, y6, y7, y8, y9, y10, y11, v12, y13, y14, undef, undef, d17, d18, d19, d20, d21, d22, d23, d24, d25, d26, d27, d28, d29, d30, d31, d32, d33, d34, d35, d36, d37, d38, d39, d40, d41, d42, d43, d44, d45, d46, d47, d48, d49, d50, d51, d52, d53, d54, d55, d56, d57, d58, d59, d60, d61, d62, d63, d64, d65, d66, d67, d68, d69, d70, d71, d72, d73, d74, d75, d76, d77, d78, d79, d80, d81, d82, d83, d84, d85, d86, d87, d88, d89, d90, d91, d92, d93, undef, t95, t96, t97, t98, undef, undef, undef, undef, undef, undef, undef, undef, undef, undef, undef, undef, undef, undef, undef, undef, undef, undef, undef, undef], []⟩ (.inRegion (opsOf Z31) l :: .code R31 :: [])
set_option maxRecDepth 100000 in
theorem quiet3a (y0 y1 v5 y6 y7 y8 y9 d17 d18 d19 d20 d21 d22 d23 d24 d25 d26 d27 d28 d29 d30 d31 d32 d33 d34 d35 d36 d37 d38 : Value) (cs : List Frame) : ∀ w, True → Goes Tryd.prog true AtRel DC0 (fun g1 _ => g1 = G ((base 8).at ⟨#[y8, y9] ++ Array.replicate (40 - 2) undef, []⟩ [.code (bodyOf 8)]) (W3 y0 y1 v5 y6 y7 y8 y9 d17 d18 d19 d20 d21 d22 d23 d24 d25 d26 d27 d28 d29 d30 d31 d32 d33 d34 d35 d36 d37 d38 [2, 3, 4, 5, 6, 7] :: cs)) 7
    (G ((base 3).at ⟨#[y0, y1, undef, undef, .bool false, v5, y6, y7, y8, y9, undef, undef, undef, undef, undef, undef, undef, d17, d18, d19, d20, d21, d22, d23, d24, d25, d26, d27, d28, d29, d30, d31, d32, d33, d34, d35, d36, d37, d38, undef, undef, undef, undef, undef, undef, undef, undef, undef, undef, undef, undef, undef, undef, undef, undef, undef, undef, undef, undef, undef, undef, undef, undef, undef, undef, undef, undef, undef, undef, undef, undef, undef, undef, undef, undef, undef, undef, undef, undef, undef, undef, undef, undef, undef, undef, undef, undef, undef, undef, undef, undef, undef, undef, undef, undef, undef, undef, undef, undef, undef, undef, undef, undef, undef, undef, undef, undef, undef, undef, undef, undef, undef, undef, undef, undef, undef, undef, undef, undef], []⟩ (.code Z3 :: [])) cs) w := by
  intro w hF
  unfold W3
  simp only [R31, Z31, Z29, Z27, R3, Z3, C27, C29, bodyOf, tailN, opsOf, restOf, Tryd.func3, Tryd.f3, Option.bind_some, Option.getD_some, Array.replicate, List.replicate, List.append_toArray, List.cons_append, List.nil_append, Nat.reduceSub, Tryd.func8, Tryd.f8]
  u_c stepG_seq no_rely hF
  u_reg no_rely hF
  u_op no_rely hF
  u_op no_rely hF
  u_call Tryd.func8 (by decide) Tryd.f8 no_rely hF
  refine Goes.stop (fun w₁ h₁ => ?_)
  rfl
set_option maxRecDepth 100000 in
theorem quiet3b (y0 y1 v5 y6 y7 y8 y9 d17 d18 d19 d20 d21 d22 d23 d24 d25 d26 d27 d28 d29 d30 d31 d32 d33 d34 d35 d36 d37 d38 v b : Value) (cs : List Frame) : ∀ w, True → Goes Tryd.prog true AtRel DC0 (fun g1 _ => g1 = G ((base 3).at ⟨#[y0, y1, undef, undef, .bool false, v5, y6, y7, y8, y9, v, b, undef, undef, undef, undef, undef, d17, d18, d19, d20, d21, d22, d23, d24, d25, d26, d27, d28, d29, d30, d31, d32, d33, d34, d35, d36, d37, d38, .tuple #[v, b], y8, y9, .tuple #[v, b], v, b, undef, undef, undef, undef, undef, undef, undef, undef, undef, undef, undef, undef, undef, undef, undef, undef, undef, undef, undef, undef, undef, undef, undef, undef, undef, undef, undef, undef, undef, undef, undef, undef, undef, undef, undef, undef, undef, undef, undef, undef, undef, undef, undef, undef, undef, undef, undef, undef, undef, undef, undef, undef, undef, undef, undef, undef, undef, undef, undef, undef, undef, undef, undef, undef, undef, undef, undef, undef, undef, undef, undef, undef, undef, undef], []⟩ (.code R3 :: [])) cs) 9
    (G ((W3 y0 y1 v5 y6 y7 y8 y9 d17 d18 d19 d20 d21 d22 d23 d24 d25 d26 d27 d28 d29 d30 d31 d32 d33 d34 d35 d36 d37 d38 [2, 3, 4, 5, 6, 7]).finish (.tuple #[v, b])) cs) w := by
  intro w hF
  unfold W3
  simp only [R31, Z31, Z29, Z27, R3, Z3, C27, C29, bodyOf, tailN, opsOf, restOf, Tryd.func3, Tryd.f3, Option.bind_some, Option.getD_some, Array.replicate, List.replicate, List.append_toArray, List.cons_append, List.nil_append, Nat.reduceSub]
  show Goes _ _ _ _ _ _ (G ((base 3).at ⟨#[y0, y1, undef, undef, .bool false, v5, y6, y7, y8, y9, undef, undef, undef, undef, undef, undef, undef, d17, d18, d19, d20, d21, d22, d23, d24, d25, d26, d27, d28, d29, d30, d31, d32, d33, d34, d35, d36, d37, d38, undef, y8, y9, .tuple #[v, b], undef, undef, undef, undef, undef, undef, undef, undef, undef, undef, undef, undef, undef, undef, undef, undef, undef, undef, undef, undef, undef, undef, undef, undef, undef, undef, undef, undef, undef, undef, undef, undef, undef, undef, undef, undef, undef, undef, undef, undef, undef, undef, undef, undef, undef, undef, undef, undef, undef, undef, undef, undef, undef, undef, undef, undef, undef, undef, undef, undef, undef, undef, undef, undef, undef, undef, undef, undef, undef, undef, undef, undef, undef, undef, undef, undef], []⟩ (.inRegion _ [3, 4, 5, 6, 7] :: _)) cs) w
  u_op no_rely hF
  u_op no_rely hF
  u_op no_rely hF
  u_op no_rely hF
  u_op no_rely hF
  u_c stepG_region_end no_rely hF
  refine Goes.stop (fun w₁ h₁ => ?_)
  rfl
theorem quiet27 (a : Act) (cs : List Frame) : ∀ w, True → Goes Tryd.prog true AtRel DC0 (fun g1 _ => g1 = G ((base 3).at a (.code C27 :: .code Z29 :: [])) cs) 3
    (G ((base 3).at a (.code Z27 :: [])) cs) w := by
  intro w hF
  have e : Z27 = .seq C27 Z29 := by kernel_rfl
  rw [e]
  u_c stepG_seq no_rely hF
  refine Goes.stop (fun w₁ h₁ => ?_)
  rfl
theorem quiet29 (a : Act) (cs : List Frame) : ∀ w, True → Goes Tryd.prog true AtRel DC0 (fun g1 _ => g1 = G ((base 3).at a (.code C29 :: .code Z31 :: [])) cs) 3
    (G ((base 3).at a (.code Z29 :: [])) cs) w := by
  intro w hF
  have e : Z29 = .seq C29 Z31 := by kernel_rfl
  rw [e]
  u_c stepG_seq no_rely hF
  refine Goes.stop (fun w₁ h₁ => ?_)
  rfl
set_option maxRecDepth 100000 in
theorem quiet31a (y0 y1 v5 y6 y7 y8 y9 y10 y11 v12 y13 y14 d17 d18 d19 d20 d21 d22 d23 d24 d25 d26 d27 d28 d29 d30 d31 d32 d33 d34 d35 d36 d37 d38 d39 d40 d41 d42 d43 d44 d45 d46 d47 d48 d49 d50 d51 d52 d53 d54 d55 d56 d57 d58 d59 d60 d61 d62 d63 d64 d65 d66 d67 d68 d69 d70 d71 d72 d73 d74 d75 d76 d77 d78 d79 d80 d81 d82 d83 d84 d85 d86 d87 d88 d89 d90 d91 d92 d93 : Value) (cs : List Frame) : ∀ w, True → Goes Tryd.prog true AtRel DC0 (fun g1 _ => g1 = G (Frame.enter Tryd.prog 7 #[y0] .normal) (W31 y0 y1 v5 y6 y7 y8 y9 y10 y11 v12 y13 y14 d17 d18 d19 d20 d21 d22 d23 d24 d25 d26 d27 d28 d29 d30 d31 d32 d33 d34 d35 d36 d37 d38 d39 d40 d41 d42 d43 d44 d45 d46 d47 d48 d49 d50 d51 d52 d53 d54 d55 d56 d57 d58 d59 d60 d61 d62 d63 d64 d65 d66 d67 d68 d69 d70 d71 d72 d73 d74 d75 d76 d77 d78 d79 d80 d81 d82 d83 d84 d85 d86 d87 d88 d89 d90 d91 d92 d93 y0 undef undef undef [1, 2, 3, 4, 5, 6, 7, 8, 9] :: cs)) 6
    (G ((base 3).at ⟨#[y0, y1, undef, undef, .bool false, v5, y6, y7, y8, y9, y10, y11, v12, y13, y14, undef, undef, d17, d18, d19, d20, d21, d22, d23, d24, d25, d26, d27, d28, d29, d30, d31, d32, d33, d34, d35, d36, d37, d38, d39, d40, d41, d42, d43, d44, d45, d46, d47, d48, d49, d50, d51, d52, d53, d54, d55, d56, d57, d58, d59, d60, d61, d62, d63, d64, d65, d66, d67, d68, d69, d70, d71, d72, d73, d74, d75, d76, d77, d78, d79, d80, d81, d82, d83, d84, d85, d86, d87, d88, d89, d90, d91, d92, d93, undef, undef, undef, undef, undef, undef, undef, undef, undef, undef, undef, undef, undef, undef, undef, undef, undef, undef, undef, undef, undef, undef, undef, undef, undef], []⟩ (.code Z31 :: [])) cs) w := by
  intro w hF
  rw [enter_base (P := Tryd.prog) #[y0] Tryd.func7 rfl]
  unfold W31
  simp only [R31, Z31, Z29, Z27, R3, Z3, C27, C29, bodyOf, tailN, opsOf, restOf, Tryd.func3, Tryd.f3, Option.bind_some, Option.getD_some, Array.replicate, List.replicate, List.append_toArray, List.cons_append, List.nil_append, Nat.reduceSub]
  u_c stepG_seq no_rely hF
  u_reg no_rely hF
  u_op no_rely hF
  u_call Tryd.func7 (by decide) Tryd.f7 no_rely hF
  refine Goes.stop (fun w₁ h₁ => ?_)
  rfl
set_option maxRecDepth 100000 in
theorem quiet31b (y0 y1 v5 y6 y7 y8 y9 y10 y11 v12 y13 y14 d17 d18 d19 d20 d21 d22 d23 d24 d25 d26 d27 d28 d29 d30 d31 d32 d33 d34 d35 d36 d37 d38 d39 d40 d41 d42 d43 d44 d45 d46 d47 d48 d49 d50 d51 d52 d53 d54 d55 d56 d57 d58 d59 d60 d61 d62 d63 d64 d65 d66 d67 d68 d69 d70 d71 d72 d73 d74 d75 d76 d77 d78 d79 d80 d81 d82 d83 d84 d85 d86 d87 d88 d89 d90 d91 d92 d93 r : Value) (cs : List Frame) : ∀ w, True → Goes Tryd.prog true AtRel DC0 (fun g1 _ => g1 = G (Frame.enter Tryd.prog 7 #[y1] .normal) (W31 y0 y1 v5 y6 y7 y8 y9 y10 y11 v12 y13 y14 d17 d18 d19 d20 d21 d22 d23 d24 d25 d26 d27 d28 d29 d30 d31 d32 d33 d34 d35 d36 d37 d38 d39 d40 d41 d42 d43 d44 d45 d46 d47 d48 d49 d50 d51 d52 d53 d54 d55 d56 d57 d58 d59 d60 d61 d62 d63 d64 d65 d66 d67 d68 d69 d70 d71 d72 d73 d74 d75 d76 d77 d78 d79 d80 d81 d82 d83 d84 d85 d86 d87 d88 d89 d90 d91 d92 d93 y0 r y1 undef [3, 4, 5, 6, 7, 8, 9] :: cs)) 5
    (G ((W31 y0 y1 v5 y6 y7 y8 y9 y10 y11 v12 y13 y14 d17 d18 d19 d20 d21 d22 d23 d24 d25 d26 d27 d28 d29 d30 d31 d32 d33 d34 d35 d36 d37 d38 d39 d40 d41 d42 d43 d44 d45 d46 d47 d48 d49 d50 d51 d52 d53 d54 d55 d56 d57 d58 d59 d60 d61 d62 d63 d64 d65 d66 d67 d68 d69 d70 d71 d72 d73 d74 d75 d76 d77 d78 d79 d80 d81 d82 d83 d84 d85 d86 d87 d88 d89 d90 d91 d92 d93 y0 undef undef undef [1, 2, 3, 4, 5, 6, 7, 8, 9]).finish r) cs) w := by
  intro w hF
  rw [enter_base (P := Tryd.prog) #[y1] Tryd.func7 rfl]
  unfold W31
  simp only [R31, Z31, Z29, Z27, R3, Z3, C27, C29, bodyOf, tailN, opsOf, restOf, Tryd.func3, Tryd.f3, Option.bind_some, Option.getD_some, Array.replicate, List.replicate, List.append_toArray, List.cons_append, List.nil_append, Nat.reduceSub]
  show Goes _ _ _ _ _ _ (G ((base 3).at ⟨#[y0, y1, undef, undef, .bool false, v5, y6, y7, y8, y9, y10, y11, v12, y13, y14, undef, undef, d17, d18, d19, d20, d21, d22, d23, d24, d25, d26, d27, d28, d29, d30, d31, d32, d33, d34, d35, d36, d37, d38, d39, d40, d41, d42, d43, d44, d45, d46, d47, d48, d49, d50, d51, d52, d53, d54, d55, d56, d57, d58, d59, d60, d61, d62, d63, d64, d65, d66, d67, d68, d69, d70, d71, d72, d73, d74, d75, d76, d77, d78, d79, d80, d81, d82, d83, d84, d85, d86, d87, d88, d89, d90, d91, d92, d93, undef, y0, r, undef, undef, undef, undef, undef, undef, undef, undef, undef, undef, undef, undef, undef, undef, undef, undef, undef, undef, undef, undef, undef, undef], []⟩ (.inRegion _ [2, 3, 4, 5, 6, 7, 8, 9] :: _)) cs) w
  u_op no_rely hF
  u_call Tryd.func7 (by decide) Tryd.f7 no_rely hF
  refine Goes.stop (fun w₁ h₁ => ?_)
  rfl
set_option maxRecDepth 100000 in
theorem quiet31c (y0 y1 v5 y6 y7 y8 y9 y10 y11 v12 y13 y14 d17 d18 d19 d20 d21 d22 d23 d24 d25 d26 d27 d28 d29 d30 d31 d32 d33 d34 d35 d36 d37 d38 d39 d40 d41 d42 d43 d44 d45 d46 d47 d48 d49 d50 d51 d52 d53 d54 d55 d56 d57 d58 d59 d60 d61 d62 d63 d64 d65 d66 d67 d68 d69 d70 d71 d72 d73 d74 d75 d76 d77 d78 d79 d80 d81 d82 d83 d84 d85 d86 d87 d88 d89 d90 d91 d92 d93 r r2 : Value) (cs : List Frame) : ∀ w, True → Goes Tryd.prog true AtRel DC0 (fun g1 _ => g1 = G ((base 8).at ⟨#[r, r2] ++ Array.replicate (40 - 2) undef, []⟩ [.code (bodyOf 8)]) (W31 y0 y1 v5 y6 y7 y8 y9 y10 y11 v12 y13 y14 d17 d18 d19 d20 d21 d22 d23 d24 d25 d26 d27 d28 d29 d30 d31 d32 d33 d34 d35 d36 d37 d38 d39 d40 d41 d42 d43 d44 d45 d46 d47 d48 d49 d50 d51 d52 d53 d54 d55 d56 d57 d58 d59 d60 d61 d62 d63 d64 d65 d66 d67 d68 d69 d70 d71 d72 d73 d74 d75 d76 d77 d78 d79 d80 d81 d82 d83 d84 d85 d86 d87 d88 d89 d90 d91 d92 d93 y0 r y1 r2 [4, 5, 6, 7, 8, 9] :: cs)) 5
    (G ((W31 y0 y1 v5 y6 y7 y8 y9 y10 y11 v12 y13 y14 d17 d18 d19 d20 d21 d22 d23 d24 d25 d26 d27 d28 d29 d30 d31 d32 d33 d34 d35 d36 d37 d38 d39 d40 d41 d42 d43 d44 d45 d46 d47 d48 d49 d50 d51 d52 d53 d54 d55 d56 d57 d58 d59 d60 d61 d62 d63 d64 d65 d66 d67 d68 d69 d70 d71 d72 d73 d74 d75 d76 d77 d78 d79 d80 d81 d82 d83 d84 d85 d86 d87 d88 d89 d90 d91 d92 d93 y0 r y1 undef [3, 4, 5, 6, 7, 8, 9]).finish r2) cs) w := by
  intro w hF
  unfold W31
  simp only [R31, Z31, Z29, Z27, R3, Z3, C27, C29, bodyOf, tailN, opsOf, restOf, Tryd.func3, Tryd.f3, Option.bind_some, Option.getD_some, Array.replicate, List.replicate, List.append_toArray, List.cons_append, List.nil_append, Nat.reduceSub, Tryd.func8, Tryd.f8]
  show Goes _ _ _ _ _ _ (G ((base 3).at ⟨#[y0, y1, undef, undef, .bool false, v5, y6, y7, y8, y9, y10, y11, v12, y13, y14, undef, undef, d17, d18, d19, d20, d21, d22, d23, d24, d25, d26, d27, d28, d29, d30, d31, d32, d33, d34, d35, d36, d37, d38, d39, d40, d41, d42, d43, d44, d45, d46, d47, d48, d49, d50, d51, d52, d53, d54, d55, d56, d57, d58, d59, d60, d61, d62, d63, d64, d65, d66, d67, d68, d69, d70, d71, d72, d73, d74, d75, d76, d77, d78, d79, d80, d81, d82, d83, d84, d85, d86, d87, d88, d89, d90, d91, d92, d93, undef, y0, r, y1, r2, undef, undef, undef, undef, undef, undef, undef, undef, undef, undef, undef, undef, undef, undef, undef, undef, undef, undef, undef, undef], []⟩ (.inRegion _ [4, 5, 6, 7, 8, 9] :: _)) cs) w
  u_call Tryd.func8 (by decide) Tryd.f8 no_rely hF
  refine Goes.stop (fun w₁ h₁ => ?_)
  rfl
set_option maxRecDepth 100000 in
theorem quiet31d (y0 y1 v5 y6 y7 y8 y9 y10 y11 v12 y13 y14 d17 d18 d19 d20 d21 d22 d23 d24 d25 d26 d27 d28 d29 d30 d31 d32 d33 d34 d35 d36 d37 d38 d39 d40 d41 d42 d43 d44 d45 d46 d47 d48 d49 d50 d51 d52 d53 d54 d55 d56 d57 d58 d59 d60 d61 d62 d63 d64 d65 d66 d67 d68 d69 d70 d71 d72 d73 d74 d75 d76 d77 d78 d79 d80 d81 d82 d83 d84 d85 d86 d87 d88 d89 d90 d91 d92 d93 r r2 v b : Value) (cs : List Frame) : ∀ w, True → Goes Tryd.prog true AtRel DC0 (fun g1 _ => g1 = G ((base 3).at ⟨#[y0, y1, undef, undef, .bool false, v5, y6, y7, y8, y9, y10, y11, v12, y13, y14, v, b, d17, d18, d19, d20, d21, d22, d23, d24, d25, d26, d27, d28, d29, d30, d31, d32, d33, d34, d35, d36, d37, d38, d39, d40, d41, d42, d43, d44, d45, d46, d47, d48, d49, d50, d51, d52, d53, d54, d55, d56, d57, d58, d59, d60, d61, d62, d63, d64, d65, d66, d67, d68, d69, d70, d71, d72, d73, d74, d75, d76, d77, d78, d79, d80, d81, d82, d83, d84, d85, d86, d87, d88, d89, d90, d91, d92, d93, .tuple #[v, b], y0, r, y1, r2, .tuple #[v, b], v, b, undef, undef, undef, undef, undef, undef, undef, undef, undef, undef, undef, undef, undef, undef, undef, undef, undef], []⟩ (.code R31 :: [])) cs) 9
    (G ((W31 y0 y1 v5 y6 y7 y8 y9 y10 y11 v12 y13 y14 d17 d18 d19 d20 d21 d22 d23 d24 d25 d26 d27 d28 d29 d30 d31 d32 d33 d34 d35 d36 d37 d38 d39 d40 d41 d42 d43 d44 d45 d46 d47 d48 d49 d50 d51 d52 d53 d54 d55 d56 d57 d58 d59 d60 d61 d62 d63 d64 d65 d66 d67 d68 d69 d70 d71 d72 d73 d74 d75 d76 d77 d78 d79 d80 d81 d82 d83 d84 d85 d86 d87 d88 d89 d90 d91 d92 d93 y0 r y1 r2 [4, 5, 6, 7, 8, 9]).finish (.tuple #[v, b])) cs) w := by
  intro w hF
  unfold W31
  simp only [R31, Z31, Z29, Z27, R3, Z3, C27, C29, bodyOf, tailN, opsOf, restOf, Tryd.func3, Tryd.f3, Option.bind_some, Option.getD_some, Array.replicate, List.replicate, List.append_toArray, List.cons_append, List.nil_append, Nat.reduceSub]
  show Goes _ _ _ _ _ _ (G ((base 3).at ⟨#[y0, y1, undef, undef, .bool false, v5, y6, y7, y8, y9, y10, y11, v12, y13, y14, undef, undef, d17, d18, d19, d20, d21, d22, d23, d24, d25, d26, d27, d28, d29, d30, d31, d32, d33, d34, d35, d36, d37, d38, d39, d40, d41, d42, d43, d44, d45, d46, d47, d48, d49, d50, d51, d52, d53, d54, d55, d56, d57, d58, d59, d60, d61, d62, d63, d64, d65, d66, d67, d68, d69, d70, d71, d72, d73, d74, d75, d76, d77, d78, d79, d80, d81, d82, d83, d84, d85, d86, d87, d88, d89, d90, d91, d92, d93, undef, y0, r, y1, r2, .tuple #[v, b], undef, undef, undef, undef, undef, undef, undef, undef, undef, undef, undef, undef, undef, undef, undef, undef, undef, undef, undef], []⟩ (.inRegion _ [5, 6, 7, 8, 9] :: _)) cs) w
  u_op no_rely hF
  u_op no_rely hF
  u_op no_rely hF
  u_op no_rely hF
  u_op no_rely hF
  u_c stepG_region_end no_rely hF
  refine Goes.stop (fun w₁ h₁ => ?_)
  rfl

theorem enter3 (x y : Value) : Frame.enter Tryd.prog 3 #[x, y] .normal = (base 3).at ⟨#[x, y] ++ Array.replicate (119 - 2) undef, []⟩ [.code (graft (headN 8 (bodyOf 3)) Z3)] := by
  have hb : Tryd.f3.body = some (bodyOf 3) := by kernel_rfl
  have h := enter_base (P := Tryd.prog) #[x, y] Tryd.func3 hb
  rw [Tryd.ntmps3] at h
  have hZ : graft (headN 8 (bodyOf 3)) Z3 = bodyOf 3 := graft3
  rw [h, hZ]
  rfl
section
variable {Shun : Loc → Prop} {D : DS} {W : World}
/-- Plain code ahead of a rest that is not, some blocks of ours turned. -/
theorem walk_codeB (hS : ∀ l, Shun l → ∃ a, l = .cell a ∧ D a.block) {f : FuncId} (hr : resOk Tryd.prog f = true) {a : Act} {c Z : Code} {k : List Item} {cs : List Frame} {wp : World} {Qn : World → Act → World → Prop} {B : Nat} (hB : W.heap.size ≤ B) (hd : a.defers = []) (hp : plainCode SP c = true)
    (hQn : ∀ a w T d, Qn wp a w → Qn wp a (tp w T d)) (hbn : ∀ a w, Qn wp a w → Bel B wp w)
    (hwp : ∀ T, c.wp Tryd.prog (QQ (Qn wp) (fun _ _ => False)) a (tp wp T 0))
    {gs : Array Goroutine} {w : World} (sl : Option (Nat × Nat)) {t : Trace} {q : Nat → Nat} (hF : Fr Tryd.prog Shun D (G ((base f).at a (.code (graft c Z) :: k)) cs) wp gs w t q) (hT : Truth W w wp)
    (hk : ∀ (gs' : Array Goroutine) (wp' w' : World) (sl' : Option (Nat × Nat)) (t' : Trace) (q' : Nat → Nat) (a' : Act), Qn wp a' wp' → Truth W w' wp' → Fr Tryd.prog Shun D (G ((base f).at a' (.code Z :: k)) cs) wp' gs' w' t' q' → Ends W gs' w' sl' t') : Ends W gs w sl t := by
  refine (lift_code (b := base f) (Qn := Qn wp) (Qr := fun _ _ => False) hSP hS rfl hr hd hp hQn (fun _ _ _ _ h => h.elim) hwp sl hF).ends ?_
  rintro gs1 g1' wp1 w1 sl1 tt1 q1 (⟨a', rfl, h⟩ | ⟨a', todo, _, h⟩) hF1
  · exact hk gs1 wp1 w1 sl1 tt1 q1 a' h (hT.next hF.pz hF1.pz (hbn _ _ h) hB) hF1
  · exact h.elim
/-- toIntSS, carried out. -/
theorem walk_toSS (hS : ∀ l, Shun l → ∃ a, l = .cell a ∧ D a.block) {A : Option Addr} {n c : Nat} {zss : List (List Int)} {ca : Frame} {cs : List Frame} {wp : World} {gs : Array Goroutine} {w : World} {t : Trace} {q : Nat → Nat} (sl : Option (Nat × Nat)) (hM : ArgM wp A n c zss) (hz : SzOk zss n)
    (hF : Fr Tryd.prog Shun D (G (Frame.enter Tryd.prog 7 #[.slice A n c] .normal) (ca :: cs)) wp gs w t q) (hT : Truth W w wp)
    (hk : ∀ (gs' : Array Goroutine) (wp' w' : World) (sl' : Option (Nat × Nat)) (t' : Trace) (q' : Nat → Nat), CpM wp' wp.heap.size n zss → Bel wp.heap.size wp wp' → Truth W w' wp' → Fr Tryd.prog Shun D (G (ca.finish (.slice (some ⟨wp.heap.size, 0, none⟩) n n)) cs) wp' gs' w' t' q' → Ends W gs' w' sl' t') : Ends W gs w sl t := by
  obtain ⟨cd, hcd, _⟩ := toIntSS_wp A n c zss wp hM.1 hz
  refine lift_plain (R := fun v w' => v = .slice (some ⟨wp.heap.size, 0, none⟩) n n ∧ CpM w' wp.heap.size n zss) hS Tryd.func7 hcd (by kernel_rfl) (fun v w T d h => ⟨h.1, cpM_tp h.2⟩) (fun T => ?_) sl hF hT (fun gs' wp' w' sl' t' q' v hv hb hT' hF' => by obtain ⟨rfl, hc⟩ := hv; exact hk gs' wp' w' sl' t' q' hc hb hT' hF')
  obtain ⟨cd', hcd', hw⟩ := toIntSS_wp A n c zss (tp wp T 0) (argM_tp hM).1 hz
  obtain rfl : cd' = cd := Option.some.inj (hcd'.symm.trans hcd)
  refine wp_mono hw (fun e a w h => ?_)
  have key : ∀ e' w', (e' = Ending.returned (.slice (some ⟨(tp wp T 0).heap.size, 0, none⟩) n n) ∧ MatP w' (tp wp T 0).heap.size zss n n ∧ Below (tp wp T 0).heap.size (tp wp T 0) w') → ∃ v, e' = .returned v ∧ (v = .slice (some ⟨wp.heap.size, 0, none⟩) n n ∧ CpM w' wp.heap.size n zss) ∧ Below wp.heap.size (tp wp T 0) w' :=
    fun e' w' ⟨h1, h2, h3⟩ => ⟨_, h1, ⟨rfl, ⟨h2, hM.1.len, hM.1.fit, hz⟩⟩, h3⟩
  cases e with
  | normal => obtain ⟨p1, v, p2, p3⟩ := h; exact ⟨p1, v, p2, key _ _ p3⟩
  | ret => obtain ⟨p1, v, p2, p3⟩ := h; exact ⟨p1, v, p2, key _ _ p3⟩
  | panic ch => obtain ⟨p1, p3, _⟩ := h; cases p3
  | outgrown => obtain ⟨p3, _⟩ := h; cases p3
  | exit _ => exact h.elim
  | goto _ => exact h.elim
end
theorem start_ic (A : Option Addr) (n c : Nat) (zss : List (List Int)) (A2 : Option Addr) (n2 c2 : Nat) (yss : List (List Int)) (W : World) (hM : ArgM W A n c zss) (hN : ArgM W A2 n2 c2 yss) (hTab : TabAt 3 Lib.deBruijn64tab W) :
    Ends W #[G (Frame.enter Tryd.prog 3 #[.slice A n c, .slice A2 n2 c2] .normal) []] W none #[] := by
  have hS : ∀ l : Loc, (fun _ : Loc => False) l → ∃ a, l = .cell a ∧ (Dd (fun _ => False) W).dead a.block := fun l h => h.elim
  have hF := fr_first Tryd.prog (G (Frame.enter Tryd.prog 3 #[.slice A n c, .slice A2 n2 c2] .normal) []) W
  have hu0 : (psn (Dd (fun _ => False) W) W).heap.size = W.heap.size := psn_size
  have hR : Truth W W (psn (Dd (fun _ => False) W) W) := ⟨rfl, rfl, by rw [hu0]; exact Nat.le_refl _, fun b hb => rfl⟩
  replace hM := argM_psn hM
  replace hN := argM_psn hN
  have hT0 : TabAt 3 Lib.deBruijn64tab (psn (Dd (fun _ => False) W) W) := fun j hj => cell_psn (hTab j hj)
  generalize psn (Dd (fun _ => False) W) W = u0 at hF hR hM hN hu0 hT0
  rw [enter3] at hF ⊢
  refine walk_code hS (Z := Z3) (Qn := fun w0 => QA3 A n c zss A2 n2 c2 yss w0) (Qr := fun w0 => QR3 w0.heap.size w0) (by kernel_rfl) rfl plain3 (fun a w T d h => QA3.tp A n c zss A2 n2 c2 yss a w T d h) (fun a w T d h => QR3.tp a w T d h)
    (fun a w h => by obtain ⟨_, _, _, _, _, _, _, _, _, _, _, _, _, _, _, _, _, _, _, _, _, _, _, _, _, _, _, _, _, _, _, _, _, _, hb⟩ := h; exact hb) (fun a w h => h.2.2)
    (fun T => wp_mono (lawA3 A n c zss A2 n2 c2 yss (tp u0 T 0) (argM_tp hM) (argM_tp hN)) (fun e a w h => h.imp
      (fun ⟨h0, v5, d17, d18, d19, d20, d21, d22, d23, d24, d25, d26, d27, d28, d29, d30, d31, d32, d33, d34, d35, d36, d37, d38, B0, c0, x0, hi0, x1, hi1, h1, h2, h3, h4, h5, h6⟩ => ⟨h0, v5, d17, d18, d19, d20, d21, d22, d23, d24, d25, d26, d27, d28, d29, d30, d31, d32, d33, d34, d35, d36, d37, d38, B0, c0, x0, hi0, x1, hi1, h1, h2, h3, h4, h5, bel_base h6⟩) (fun ⟨h1, h2, h3, h4⟩ => ⟨h1, h2, h3, bel_base h4⟩))) none hF hR ?_ ?_
  rotate_left
  · intro gs1 wp1 w1 sl1 t1 q1 a1 todo1 hq1 hT1 hF1
    exact end_of Tryd.func3 (by kernel_rfl) (by decide) sl1 hq1.1 hq1.2.1 hF1 hT1
  intro gs1 wp1 w1 sl1 t1 q1 a1 hq1 hT1 hF1
  obtain ⟨v5, d17, d18, d19, d20, d21, d22, d23, d24, d25, d26, d27, d28, d29, d30, d31, d32, d33, d34, d35, d36, d37, d38, B0, c0, x0, hi0, x1, hi1, rfl, hSt, C0, C1, hx0, hb1⟩ := hq1
  refine walk_quiet sl1 hF1 hT1 (quiet3a _ _ _ _ _ _ _ _ _ _ _ _ _ _ _ _ _ _ _ _ _ _ _ _ _ _ _ _ _ _) ?_
  intro gs2 w2 sl2 t2 q2 hT2 hF2
  refine ic_run hS sl2 (tab_bel hT0 hb1) C0 C1 hF2 hT2 ?_
  intro gs3 wp3 w3 sl3 t3 q3 D3 Sh3 v3 hS3 ho3 hb3 hT3 hF3
  obtain ⟨B1, c1, rfl, _, _, hrow3⟩ := owns_row ho3
  refine walk_quiet sl3 hF3 hT3 (quiet3b _ _ _ _ _ _ _ _ _ _ _ _ _ _ _ _ _ _ _ _ _ _ _ _ _ _ _ _ _ _ _ _) ?_
  intro gs4 w4 sl4 t4 q4 hT4 hF4
  have hb13 : Bel u0.heap.size u0 wp3 := hb1.trans (hb3.mono hb1.size)
  have hSt3 := CtSt.bel n zss n2 yss hSt hb3
  have C03 := C0.bel hb3
  have C13 := C1.bel hb3
  have hlen : (certL zss yss n n2).length ≤ 400 := cert_len C0.len C1.len
  have hx3 : W.heap.size ≤ x0 := by omega
  have hzF := C0.ok
  have hzG := C1.ok
  have hs3 := hb3.size
  have hle1 := hSt.le1
  have hrw0 := hSt3.row
  clear hrow3
  obtain ⟨m, hm⟩ : ∃ m, m = meetB zss yss n n2 := ⟨_, rfl⟩
  rw [← hm] at hF4
  obtain ⟨L, hL⟩ : ∃ L, L = certL zss yss n n2 := ⟨_, rfl⟩
  rw [← hL] at hF4 ho3 hlen hrw0
  rw [← graftM] at hF4
  refine walk_codeB hS3 (Z := Z27) (B := x0) (Qn := fun w0 => QM3 A n c A2 n2 c2 L m B0 c0 B1 c1 x0 x1 w0) (by kernel_rfl) hx3 rfl plainM (fun a w T d h => QM3.tp a w T d h)
    (fun a w h => by obtain ⟨_, _, _, _, _, _, _, _, _, _, _, _, _, _, _, _, _, _, _, _, _, _, _, _, _, _, _, _, _, _, _, _, _, _, _, _, _, _, _, _, _, _, _, _, _, _, _, _, _, _, _, _, _, _, _, _, _, _, _, _, _, _, _, _, _, _, _, _, _, _, _, _, _, _, _, _, _, _, _, hb⟩ := h; exact hb)
    (fun T => wp_mono (lawM A n c zss A2 n2 c2 yss L m B0 c0 B1 c1 x0 hi0 x1 hi1 wp1.heap.size _ _ _ _ _ _ _ _ _ _ _ _ _ _ _ _ _ _ _ _ _ _ _ _ _ _ _ _ _ (tp wp3 T 0) (argM_tp (hM.bel hb13)) (argM_tp (hN.bel hb13)) hzF hzG hlen (row_tp hrw0) hSt3.R0 hSt3.R1 hSt3.le0 hSt3.lt0 hSt3.lt1 hle1 hs3 (cpM_tp C03) (cpM_tp C13) ho3) (fun e a w h => h.imp
      (fun ⟨h0, v5, v12, d17, d18, d19, d20, d21, d22, d23, d24, d25, d26, d27, d28, d29, d30, d31, d32, d33, d34, d35, d36, d37, d38, d39, d40, d41, d42, d43, d44, d45, d46, d47, d48, d49, d50, d51, d52, d53, d54, d55, d56, d57, d58, d59, d60, d61, d62, d63, d64, d65, d66, d67, d68, d69, d70, d71, d72, d73, d74, d75, d76, d77, d78, d79, d80, d81, d82, d83, d84, d85, d86, d87, d88, z, h1, h2, h3, h4, h5⟩ => ⟨h0, v5, v12, d17, d18, d19, d20, d21, d22, d23, d24, d25, d26, d27, d28, d29, d30, d31, d32, d33, d34, d35, d36, d37, d38, d39, d40, d41, d42, d43, d44, d45, d46, d47, d48, d49, d50, d51, d52, d53, d54, d55, d56, d57, d58, d59, d60, d61, d62, d63, d64, d65, d66, d67, d68, d69, d70, d71, d72, d73, d74, d75, d76, d77, d78, d79, d80, d81, d82, d83, d84, d85, d86, d87, d88, z, h1, h2, h3, h4, bel_base h5⟩) (fun h => h))) sl4 hF4 hT4 ?_
  intro gs5 wp5 w5 sl5 t5 q5 a5 hq5 hT5 hF5
  obtain ⟨v5, v12, d17, d18, d19, d20, d21, d22, d23, d24, d25, d26, d27, d28, d29, d30, d31, d32, d33, d34, d35, d36, d37, d38, d39, d40, d41, d42, d43, d44, d45, d46, d47, d48, d49, d50, d51, d52, d53, d54, d55, d56, d57, d58, d59, d60, d61, d62, d63, d64, d65, d66, d67, d68, d69, d70, d71, d72, d73, d74, d75, d76, d77, d78, d79, d80, d81, d82, d83, d84, d85, d86, d87, d88, z, rfl, hz, hrw5, hH5, hb5⟩ := hq5
  have hxu : u0.heap.size ≤ x0 := hx0
  have hb15 : Bel u0.heap.size u0 wp5 := hb13.trans (hb5.mono hxu)
  have hx5 : x0 ≤ wp5.heap.size := by have := hb5.size; have := hSt3.lt0; have := hSt3.le0; have := hSt3.lt1; have := hSt3.le1; omega
  refine walk_quiet sl5 hF5 hT5 (quiet27 _ _) ?_
  intro gs6 w6 sl6 t6 q6 hT6 hF6
  refine walk_mid hS3 (B := wp5.heap.size) (Qn := fun w0 => QB8 _ w0) (Qr := fun _ _ _ => False) (by kernel_rfl) hT6.size rfl plain27 (fun a w T d h => QB8.tp a w T d h) (fun _ _ _ _ h => h.elim) (fun a w h => h.2) (fun _ _ h => h.elim)
    (fun T => wp_mono (lawC27 A n c A2 n2 c2 L m B0 c0 B1 c1 x0 x1 _ _ _ _ _ _ _ _ _ _ _ _ _ _ _ _ _ _ _ _ _ _ _ _ _ _ _ _ _ _ _ _ _ _ _ _ _ _ _ _ _ _ _ _ _ _ _ _ _ _ _ _ _ _ _ _ _ _ _ _ _ _ _ _ _ _ _ _ _ _ _ _ _ _ z (tp wp5 T 0) (by omega)) (fun e a w h => h.imp (fun ⟨h1, h2, h3⟩ => ⟨h1, h2, bel_base h3⟩) (fun h => h))) sl6 hF6 hT6 ?_ (fun _ _ _ _ _ _ _ _ h => h.elim)
  rintro gs7 wp7 w7 sl7 t7 q7 a7 ⟨rfl, hb7⟩ hT7 hF7
  refine walk_quiet sl7 hF7 hT7 (quiet29 _ _) ?_
  intro gs8 w8 sl8 t8 q8 hT8 hF8
  refine walk_mid hS3 (B := wp7.heap.size) (Qn := fun w0 => QB8 _ w0) (Qr := fun _ _ _ => False) (by kernel_rfl) hT8.size rfl plain29 (fun a w T d h => QB8.tp a w T d h) (fun _ _ _ _ h => h.elim) (fun a w h => h.2) (fun _ _ h => h.elim)
    (fun T => wp_mono (lawC29 A n c A2 n2 c2 L m B0 c0 B1 c1 x0 x1 _ _ _ _ _ _ _ _ _ _ _ _ _ _ _ _ _ _ _ _ _ _ _ _ _ _ _ _ _ _ _ _ _ _ _ _ _ _ _ _ _ _ _ _ _ _ _ _ _ _ _ _ _ _ _ _ _ _ _ _ _ _ _ _ _ _ _ _ _ _ _ _ _ _ z (tp wp7 T 0)) (fun e a w h => h.imp (fun ⟨h1, h2, h3⟩ => ⟨h1, h2, bel_base h3⟩) (fun h => h))) sl8 hF8 hT8 ?_ (fun _ _ _ _ _ _ _ _ h => h.elim)
  rintro gs9 wp9 w9 sl9 t9 q9 a9 ⟨rfl, hb9⟩ hT9 hF9
  have hb59 : Bel wp5.heap.size wp5 wp9 := hb7.trans (hb9.mono hb7.size)
  have hb19 : Bel u0.heap.size u0 wp9 := hb15.trans (hb59.mono (by have := hb15.size; omega))
  refine walk_quiet sl9 hF9 hT9 (quiet31a _ _ _ _ _ _ _ _ _ _ _ _ _ _ _ _ _ _ _ _ _ _ _ _ _ _ _ _ _ _ _ _ _ _ _ _ _ _ _ _ _ _ _ _ _ _ _ _ _ _ _ _ _ _ _ _ _ _ _ _ _ _ _ _ _ _ _ _ _ _ _ _ _ _ _ _ _ _ _ _ _ _ _ _ _ _ _ _ _ _) ?_
  intro gs10 w10 sl10 t10 q10 hT10 hF10
  refine walk_toSS hS3 sl10 (hM.bel hb19) hzF hF10 hT10 ?_
  intro gs11 wp11 w11 sl11 t11 q11 Ca hb11 hT11 hF11
  have hb111 : Bel u0.heap.size u0 wp11 := hb19.trans (hb11.mono hb19.size)
  refine walk_quiet sl11 hF11 hT11 (quiet31b _ _ _ _ _ _ _ _ _ _ _ _ _ _ _ _ _ _ _ _ _ _ _ _ _ _ _ _ _ _ _ _ _ _ _ _ _ _ _ _ _ _ _ _ _ _ _ _ _ _ _ _ _ _ _ _ _ _ _ _ _ _ _ _ _ _ _ _ _ _ _ _ _ _ _ _ _ _ _ _ _ _ _ _ _ _ _ _ _ _ _) ?_
  intro gs12 w12 sl12 t12 q12 hT12 hF12
  refine walk_toSS hS3 sl12 (hN.bel hb111) hzG hF12 hT12 ?_
  intro gs13 wp13 w13 sl13 t13 q13 Cb hb13' hT13 hF13
  have hb113 : Bel u0.heap.size u0 wp13 := hb111.trans (hb13'.mono hb111.size)
  refine walk_quiet sl13 hF13 hT13 (quiet31c _ _ _ _ _ _ _ _ _ _ _ _ _ _ _ _ _ _ _ _ _ _ _ _ _ _ _ _ _ _ _ _ _ _ _ _ _ _ _ _ _ _ _ _ _ _ _ _ _ _ _ _ _ _ _ _ _ _ _ _ _ _ _ _ _ _ _ _ _ _ _ _ _ _ _ _ _ _ _ _ _ _ _ _ _ _ _ _ _ _ _ _) ?_
  intro gs14 w14 sl14 t14 q14 hT14 hF14
  refine ic_run hS3 sl14 (tab_bel hT0 hb113) (Ca.bel hb13') Cb hF14 hT14 ?_
  intro gs15 wp15 w15 sl15 t15 q15 D15 Sh15 v15 hS15 ho15 hb15' hT15 hF15
  obtain ⟨B2, c3, rfl, _, _, hrow15⟩ := owns_row ho15
  rw [← hL] at hF15 hrow15
  rw [← hm] at hF15
  have hbe : Bel wp5.heap.size wp5 wp15 := (hb59.trans ((hb11.trans (hb13'.mono hb11.size)).mono hb59.size)).trans (hb15'.mono (by have := hb59.size; have := hb11.size; have := hb13'.size; omega))
  refine walk_quiet sl15 hF15 hT15 (quiet31d _ _ _ _ _ _ _ _ _ _ _ _ _ _ _ _ _ _ _ _ _ _ _ _ _ _ _ _ _ _ _ _ _ _ _ _ _ _ _ _ _ _ _ _ _ _ _ _ _ _ _ _ _ _ _ _ _ _ _ _ _ _ _ _ _ _ _ _ _ _ _ _ _ _ _ _ _ _ _ _ _ _ _ _ _ _ _ _ _ _ _ _ _ _) ?_
  intro gs16 w16 sl16 t16 q16 hT16 hF16
  refine walk_last hS15 (Qr := fun w0 => QR3 w0.heap.size w0) (by kernel_rfl) rfl plainS31 (fun a w T d h => QR3.tp a w T d h) (fun a w h => h.2.2)
    (fun T => wp_mono (lawS31 A n c A2 n2 c2 L m B0 c0 B1 c1 x0 x1 _ _ _ _ _ _ _ _ _ _ _ _ _ _ _ _ _ _ _ _ _ _ _ _ _ _ _ _ _ _ _ _ _ _ _ _ _ _ _ _ _ _ _ _ _ _ _ _ _ _ _ _ _ _ _ _ _ _ _ _ _ _ _ _ _ _ _ _ _ _ _ _ _ _ _ _ _ _ _ _ _ _ _ _ _ _ _ B2 c3 z (tp wp15 T 0) hz hlen (row_tp (row_belc (hrw5.more hx5) hbe)) (row_tp hrow15) (hH5.bel hbe)) (fun e a w h => h.imp (fun h => h) (fun ⟨h1, h2, h3, h4⟩ => ⟨h1, h2, h3, bel_base h4⟩))) sl16 hF16 hT16 ?_
  intro gs17 wp17 w17 sl17 t17 q17 a17 todo17 hq17 hT17 hF17
  exact end_of Tryd.func3 (by kernel_rfl) (by decide) sl17 hq17.1 hq17.2.1 hF17 hT17
end Go.Proofs.YtafhpbghogdipaaDoor
