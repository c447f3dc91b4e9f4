/- wg.Wait by the starter, while workers make memory. -/
import Derived.Test.YtafhpbghogdipaaGreatDoorCw7
namespace Go.Proofs.YtafhpbghogdipaaGreatDoor
open Go.Conc Go.ConcN Go.RowKit Go.Conc.Lib Go.ConcR.Gen Go.ConcN.Gen
open Go.ConcR (KK wgBlock WgAt stA smA rd wr mk Payload DC0 Bk)
set_option linter.unusedVariables false

section
variable [Payload] (L : WgLink) (Wg : Nat) (o mc : Nat → Prop) (F : World → Prop) (P : Program)
/-- Behind the acquire: on the way out of Wait. -/
def PostW (rec : Goroutine) (_γ : Gh) (g : Goroutine) (w : World) : Prop := F w ∧ ∃ m, Goes P true AtRel DC0 (fun g _ => g = rec) m g w
/-- At the head of Wait's loop. -/
def AnchX (c : Frame) (cs : List Frame) (γ : Gh) (g : Goroutine) (w : World) : Prop :=
  γ = ⟨o, mc, 1⟩ ∧ ∃ T : Array Value, g = G ((base L.wait).at ⟨T, []⟩ [.code (L7 L), .inLoop (L7 L), .inBlock 0]) (c :: cs) ∧ T.size = 84 ∧ T[0]? = some (.pointer (some ⟨Wg, 0, none⟩)) ∧ F w ∧ WgLive L.tWg Wg w
end

section
variable [Payload] {L : WgLink} {Shun : Loc → Prop} {Wg C n Low : Nat} {o mc : Nat → Prop} {F : World → Prop}
  {b₀ : Frame} {a₀ : Act} {ops₀ : Array Oper} {i₀ : Nat} {rest₀ : List Nat} {k₀ : List Item} {cs : List Frame}
set_option maxRecDepth 100000 in
set_option maxHeartbeats 16000000 in
theorem waitRoundX {P : Program} (H : WgLib P L) (hCW : C ≠ Wg) (ho : ∀ b, o b → b ≠ Wg) (hF2 : ∀ d w w₁, RX L.tWg Wg C n Low ⟨o, mc, d⟩ w w₁ → F w → F w₁)
    (γ : Gh) (g : Goroutine) (w : World) (h : AnchX L Wg o mc F (b₀.at a₀ (.inRegion ops₀ (i₀ :: rest₀) :: k₀)) cs γ g w) :
    ∃ m, GX P true (RX L.tWg Wg C n Low) (DX Shun L.tWg Wg C n Low true) (StW1 P Shun L.tWg Wg C n Low (AnchX L Wg o mc F (b₀.at a₀ (.inRegion ops₀ (i₀ :: rest₀) :: k₀)) cs) (PostW F P (G (b₀.at (a₀.put ((ops₀[i₀]?).bind (·.dst)) (.tuple #[])) (.inRegion ops₀ rest₀ :: k₀)) cs))) m γ g w := by
  lib_facts
  obtain ⟨rfl, T, rfl, hT84, t0, hF⟩ := h
  obtain ⟨v0, v1, v2, v3, v4, v5, v6, v7, v8, v9, v10, v11, v12, v13, v14, v15, v16, v17, v18, v19, v20, v21, v22, v23, v24, v25, v26, v27, v28, v29, v30, v31, v32, v33, v34, v35, v36, v37, v38, v39, v40, v41, v42, v43, v44, v45, v46, v47, v48, v49, v50, v51, v52, v53, v54, v55, v56, v57, v58, v59, v60, v61, v62, v63, v64, v65, v66, v67, v68, v69, v70, v71, v72, v73, v74, v75, v76, v77, v78, v79, v80, v81, v82, v83, rfl⟩ := array84 T hT84
  simp only [List.getElem?_toArray, List.getElem?_cons_zero, Option.some.injEq] at t0
  subst t0
  refine ⟨60, ?_⟩
  simp only [L7, body_wait, waitFn, Option.getD_some]
  refine GX.le (GX.silent (k := 18) (m := 42) ?_) (by omega)
  u_c stepG_block (fx_rely hF2) hF
  u_c stepG_seq (fx_rely hF2) hF
  u_reg (fx_rely hF2) hF
  u_op (fx_rely hF2) hF
  u_op (fx_rely hF2) hF
  u_op (fx_rely hF2) hF
  u_call H.f_uLoad (nm_uLoad L) uLoadFn (fx_rely hF2) hF
  u_c stepG_seq (fx_rely hF2) hF
  u_reg (fx_rely hF2) hF
  u_op (fx_rely hF2) hF
  u_c stepG_region_end (fx_rely hF2) hF
  u_c stepG_seq (fx_rely hF2) hF
  u_reg (fx_rely hF2) hF
  u_op (fx_rely hF2) hF
  u_op (fx_rely hF2) hF
  u_op (fx_rely hF2) hF
  refine Goes.stop (fun w₁ h₁ => ?_)
  replace hF := (fx_rely hF2) hF h₁
  clear h₁
  refine GX.stop (fun w₂ h₂ => ?_)
  replace hF := (fx_rely hF2) hF h₂
  clear h₂
  refine ⟨rfl, fun v hv hw => ?_⟩
  rcases Nat.eq_zero_or_pos v with rfl | hvp
  · replace hw : WgAt L.tWg Wg w₂ 0 0 := by simpa using hw
    refine ⟨_, stepG_load_atomic (v := 0) rfl rfl (by k_ne) rfl H.f_loadU64 (x_loadU64_n L) (x_loadU64_b L) (x_loadU64_x L) .u64 (x_loadU64_f L) rfl hw.cellSt, fun _ => ⟨200, ?_⟩, fun h => absurd rfl h⟩
    clear hw
    walk_nrm
    refine GX.le (GX.silent (k := 33) (m := 167) ?_) (by omega)
    u_op (fx_rely hF2) hF
    u_c stepG_region_end (fx_rely hF2) hF
    u_c stepG_ret' (fx_rely hF2) hF
    u_leave1 H.f_uLoad (fx_rely hF2) hF
    u_op (fx_rely hF2) hF
    u_c stepG_region_end (fx_rely hF2) hF
    u_c stepG_seq (fx_rely hF2) hF
    u_reg (fx_rely hF2) hF
    u_op (fx_rely hF2) hF
    u_op (fx_rely hF2) hF
    u_op (fx_rely hF2) hF
    u_op (fx_rely hF2) hF
    u_c stepG_region_end (fx_rely hF2) hF
    u_c stepG_seq (fx_rely hF2) hF
    u_reg (fx_rely hF2) hF
    u_op (fx_rely hF2) hF
    u_op (fx_rely hF2) hF
    u_op (fx_rely hF2) hF
    u_op (fx_rely hF2) hF
    u_c stepG_region_end (fx_rely hF2) hF
    u_c stepG_seq (fx_rely hF2) hF
    u_c stepG_seq (fx_rely hF2) hF
    u_reg (fx_rely hF2) hF
    u_op (fx_rely hF2) hF
    u_op (fx_rely hF2) hF
    u_c stepG_region_end (fx_rely hF2) hF
    u_cond true (fx_rely hF2) hF
    u_c stepG_seq (fx_rely hF2) hF
    u_cond true (fx_rely hF2) hF
    u_c stepG_seq (fx_rely hF2) hF
    u_reg (fx_rely hF2) hF
    refine Goes.stop (fun w₁ h₁ => ?_)
    replace hF := (fx_rely hF2) hF h₁
    clear h₁
    refine GX.step rfl (fun w₁ h₁ => ?_)
    replace hF := (fx_rely hF2) hF h₁
    clear h₁
    rw [stepG_mark0 .enable (by simp) rfl rfl (by k_ne) rfl H.f_enable (x_enable_n L) (x_enable_b L) (x_enable_x L) (x_enable_f L)]
    simp only [goes_go]
    refine ⟨⟨o, mc, 0⟩, DX.quiet rfl rfl rfl (fun e he => by rw [Array.mem_singleton] at he; subst he; exact evX_mute rfl (by simp)), ?_⟩
    walk_nrm
    refine GX.le (GX.silent (k := 6) (m := 160) ?_) (by omega)
    u_c stepG_region_end (fx_rely hF2) hF
    u_reg (fx_rely hF2) hF
    u_op (fx_rely hF2) hF
    u_conv H.underlying_tWgP H.room_tWg (WgLive.cell0 hF.2).choose_spec (fx_rely hF2) hF
    refine Goes.stop (fun w₁ h₁ => ?_)
    replace hF := (fx_rely hF2) hF h₁
    clear h₁
    refine GX.stop (fun w₂ h₂ => ?_)
    replace hF := (fx_rely hF2) hF h₂
    clear h₂
    refine ⟨rfl, rfl, _, stepG_markAt .acquire (by simp) rfl rfl (by k_ne) rfl H.f_acquire (x_acquire_n L) (x_acquire_b L) (x_acquire_x L) (x_acquire_f L) (by simp [Act.eval, stA]), rfl, hF.1, 22, ?_⟩
    walk_nrm
    clear hF
    have hF : True := trivial
    u_c stepG_region_end (fun (h : True) (_ : AtRel _ _) => h) hF
    u_c stepG_seq (fun (h : True) (_ : AtRel _ _) => h) hF
    u_c stepG_seq (fun (h : True) (_ : AtRel _ _) => h) hF
    u_reg (fun (h : True) (_ : AtRel _ _) => h) hF
    u_op (fun (h : True) (_ : AtRel _ _) => h) hF
    u_op (fun (h : True) (_ : AtRel _ _) => h) hF
    u_op (fun (h : True) (_ : AtRel _ _) => h) hF
    u_op (fun (h : True) (_ : AtRel _ _) => h) hF
    u_op (fun (h : True) (_ : AtRel _ _) => h) hF
    u_op (fun (h : True) (_ : AtRel _ _) => h) hF
    u_op (fun (h : True) (_ : AtRel _ _) => h) hF
    u_op (fun (h : True) (_ : AtRel _ _) => h) hF
    u_skip (fun (h : True) (_ : AtRel _ _) => h) hF
    u_skip (fun (h : True) (_ : AtRel _ _) => h) hF
    u_op (fun (h : True) (_ : AtRel _ _) => h) hF
    u_c stepG_region_end (fun (h : True) (_ : AtRel _ _) => h) hF
    u_cond false (fun (h : True) (_ : AtRel _ _) => h) hF
    u_c stepG_skip (fun (h : True) (_ : AtRel _ _) => h) hF
    u_c stepG_ret' (fun (h : True) (_ : AtRel _ _) => h) hF
    u_leave0 H.f_wait (fun (h : True) (_ : AtRel _ _) => h) hF
    exact Goes.stop (fun _ _ => rfl)
  · obtain ⟨S, hS⟩ : ∃ S : Int, (v : Int) * KK = S := ⟨_, rfl⟩
    have a1 : S / 4294967296 = (v : Int) := by rw [← hS]; simp only [KK]; omega
    have b1 : bits .and .u64 S 2147483648 = 0 := by rw [← hS]; have := st_flag v 0 (by omega) (by omega); simpa [KK] using this
    have b2 : bits .and .u64 S 2147483647 = 0 := by rw [← hS]; have := st_waiters v 0 (by omega) (by omega); simpa [KK] using this
    have c1 : IntKind.i32.wrap (v : Int) = (v : Int) := by rw [IntKind.wrap_i32]; omega
    have w1 : IntKind.u64.wrap (S + 1) = S + 1 := by rw [IntKind.wrap_u64, ← hS]; simp only [KK]; omega
    have q3 : decide ((v : Int) < 0) = false := decide_eq_false (by omega)
    have q4 : decide (0 < (v : Int)) = true := decide_eq_true (by omega)
    have q5 : ((v : Int) == 0) = false := by simp; omega
    have q6 : decide ((v : Int) = 0) = false := decide_eq_false (by omega)
    rw [hS] at hw
    refine ⟨_, stepG_load_atomic (v := S) rfl rfl (by k_ne) rfl H.f_loadU64 (x_loadU64_n L) (x_loadU64_b L) (x_loadU64_x L) .u64 (x_loadU64_f L) rfl hw.cellSt, fun h0 => absurd h0 (by omega), fun _ => ⟨200, ?_⟩⟩
    clear hw
    walk_nrm
    refine GX.le (GX.silent (k := 50) (m := 150) ?_) (by omega)
    u_op (fx_rely hF2) hF
    u_c stepG_region_end (fx_rely hF2) hF
    u_c stepG_ret' (fx_rely hF2) hF
    u_leave1 H.f_uLoad (fx_rely hF2) hF
    u_op (fx_rely hF2) hF
    u_c stepG_region_end (fx_rely hF2) hF
    u_c stepG_seq (fx_rely hF2) hF
    u_reg (fx_rely hF2) hF
    u_op (fx_rely hF2) hF
    u_op (fx_rely hF2) hF
    u_op (fx_rely hF2) hF
    u_op (fx_rely hF2) hF
    u_c stepG_region_end (fx_rely hF2) hF
    u_c stepG_seq (fx_rely hF2) hF
    u_reg (fx_rely hF2) hF
    u_op (fx_rely hF2) hF
    u_op (fx_rely hF2) hF
    u_op (fx_rely hF2) hF
    u_op (fx_rely hF2) hF
    u_c stepG_region_end (fx_rely hF2) hF
    u_c stepG_seq (fx_rely hF2) hF
    u_c stepG_seq (fx_rely hF2) hF
    u_reg (fx_rely hF2) hF
    u_op (fx_rely hF2) hF
    u_op (fx_rely hF2) hF
    u_c stepG_region_end (fx_rely hF2) hF
    u_cnd false (fx_rely hF2) hF
    u_c stepG_skip (fx_rely hF2) hF
    u_c stepG_seq (fx_rely hF2) hF
    u_reg (fx_rely hF2) hF
    u_op (fx_rely hF2) hF
    u_op (fx_rely hF2) hF
    u_op (fx_rely hF2) hF
    u_op (fx_rely hF2) hF
    u_op (fx_rely hF2) hF
    u_op (fx_rely hF2) hF
    u_call H.f_uCas (nm_uCas L) uCasFn (fx_rely hF2) hF
    u_c stepG_seq (fx_rely hF2) hF
    u_reg (fx_rely hF2) hF
    u_op (fx_rely hF2) hF
    u_c stepG_region_end (fx_rely hF2) hF
    u_c stepG_seq (fx_rely hF2) hF
    u_reg (fx_rely hF2) hF
    u_op (fx_rely hF2) hF
    u_op (fx_rely hF2) hF
    u_op (fx_rely hF2) hF
    u_op (fx_rely hF2) hF
    u_op (fx_rely hF2) hF
    refine Goes.stop (fun w₁ h₁ => ?_)
    replace hF := (fx_rely hF2) hF h₁
    clear h₁
    refine GX.stop (fun w₂ h₂ => ?_)
    replace hF := (fx_rely hF2) hF h₂
    clear h₂
    refine ⟨rfl, fun v' hv' hw => ⟨fun e => ?_, fun e => ?_⟩⟩
    · subst e
      rw [hS] at hw ⊢
      refine ⟨_, (stepG_cas_hit (v := S) (n := S + 1) rfl rfl (by k_ne) rfl H.f_casU64 (x_casU64_n L) (x_casU64_b L) (x_casU64_x L) .u64 (x_casU64_f L) rfl rfl rfl hw.cellSt (hw.thaw 0)).trans (by rfl), 200, ?_⟩
      replace hF : F (w₂.setCell (stA Wg) (.int .u64 (S + 1))) ∧ WgLive L.tWg Wg (w₂.setCell (stA Wg) (.int .u64 (S + 1))) := fx_wg hF2 hCW ho hF.1 (aside_setCell w₂ (stA Wg) _) ⟨_, _, hw.setSt _⟩
      clear hw
      walk_nrm
      refine GX.le (GX.silent (k := 22) (m := 178) ?_) (by omega)
      u_op (fx_rely hF2) hF
      u_c stepG_region_end (fx_rely hF2) hF
      u_c stepG_ret' (fx_rely hF2) hF
      u_leave1 H.f_uCas (fx_rely hF2) hF
      u_c stepG_region_end (fx_rely hF2) hF
      u_cond true (fx_rely hF2) hF
      u_c stepG_seq (fx_rely hF2) hF
      u_c stepG_seq (fx_rely hF2) hF
      u_reg (fx_rely hF2) hF
      u_op (fx_rely hF2) hF
      u_op (fx_rely hF2) hF
      u_op (fx_rely hF2) hF
      u_op (fx_rely hF2) hF
      u_c stepG_region_end (fx_rely hF2) hF
      u_cond true (fx_rely hF2) hF
      u_reg (fx_rely hF2) hF
      u_op (fx_rely hF2) hF
      u_op (fx_rely hF2) hF
      u_op (fx_rely hF2) hF
      u_conv H.underlying_tPU32 H.room_tU32 (WgLive.cell1 hF.2).choose_spec (fx_rely hF2) hF
      refine Goes.stop (fun w₁ h₁ => ?_)
      replace hF := (fx_rely hF2) hF h₁
      clear h₁
      refine GX.step rfl (fun w₁ h₁ => ?_)
      replace hF := (fx_rely hF2) hF h₁
      clear h₁
      rw [stepG_markAt .write (by simp) rfl rfl (by k_ne) rfl H.f_raceWrite (x_raceWrite_n L) (x_raceWrite_b L) (x_raceWrite_x L) (x_raceWrite_f L) (ad := ⟨Wg, 1, none⟩) (by simp [Act.eval])]
      simp only [goes_go]
      refine ⟨⟨o, mc, 1⟩, DX.quiet rfl rfl rfl (fun e he => by rw [Array.mem_singleton] at he; subst he; exact evX_said_write _ rfl), ?_⟩
      walk_nrm
      refine GX.le (GX.silent (k := 25) (m := 152) ?_) (by omega)
      u_c stepG_region_end (fx_rely hF2) hF
      u_c stepG_seq (fx_rely hF2) hF
      u_reg (fx_rely hF2) hF
      u_op (fx_rely hF2) hF
      u_c stepG_region_end (fx_rely hF2) hF
      u_c stepG_seq (fx_rely hF2) hF
      u_c stepG_seq (fx_rely hF2) hF
      u_reg (fx_rely hF2) hF
      u_op (fx_rely hF2) hF
      u_op (fx_rely hF2) hF
      u_op (fx_rely hF2) hF
      u_op (fx_rely hF2) hF
      u_skip (fx_rely hF2) hF
      u_op (fx_rely hF2) hF
      u_c stepG_region_end (fx_rely hF2) hF
      u_cond false (fx_rely hF2) hF
      u_c stepG_skip (fx_rely hF2) hF
      u_c stepG_seq (fx_rely hF2) hF
      u_reg (fx_rely hF2) hF
      u_op (fx_rely hF2) hF
      u_op (fx_rely hF2) hF
      u_op (fx_rely hF2) hF
      u_op (fx_rely hF2) hF
      refine Goes.stop (fun w₁ h₁ => ?_)
      replace hF := (fx_rely hF2) hF h₁
      clear h₁
      refine GX.stop (fun w₃ h₃ => ?_)
      replace hF := (fx_rely hF2) hF h₃
      clear h₃
      refine ⟨rfl, rfl, fun ⟨st, hw⟩ => stepG_semacquire_wait rfl rfl rfl H.f_semacquire (x_semacquire_n L) (x_semacquire_b L) (x_semacquire_x L) (x_semacquire_f L) (by simp [Act.eval, smA]) hw.cellSm, fun hf => ?_⟩
      refine ⟨_, (stepG_semacquire (n := 1) rfl rfl (by k_ne) rfl H.f_semacquire (x_semacquire_n L) (x_semacquire_b L) (x_semacquire_x L) (x_semacquire_f L) (by simp [Act.eval, smA]) hf.cellSm (by k_ne) (hf.thaw 1)).trans (by rfl), 200, ?_⟩
      replace hF : F (w₃.setCell (smA Wg) (.int .u32 0)) ∧ WgLive L.tWg Wg (w₃.setCell (smA Wg) (.int .u32 0)) := fx_wg hF2 hCW ho hF.1 (aside_setCell w₃ (smA Wg) _) ⟨_, _, hf.setSm 0⟩
      clear hf
      walk_nrm
      refine GX.le (GX.silent (k := 18) (m := 182) ?_) (by omega)
      u_c stepG_region_end (fx_rely hF2) hF
      u_c stepG_seq (fx_rely hF2) hF
      u_reg (fx_rely hF2) hF
      u_op (fx_rely hF2) hF
      u_op (fx_rely hF2) hF
      u_op (fx_rely hF2) hF
      u_call H.f_uLoad (nm_uLoad L) uLoadFn (fx_rely hF2) hF
      u_c stepG_seq (fx_rely hF2) hF
      u_reg (fx_rely hF2) hF
      u_op (fx_rely hF2) hF
      u_c stepG_region_end (fx_rely hF2) hF
      u_c stepG_seq (fx_rely hF2) hF
      u_reg (fx_rely hF2) hF
      u_op (fx_rely hF2) hF
      u_op (fx_rely hF2) hF
      u_op (fx_rely hF2) hF
      refine Goes.stop (fun w₁ h₁ => ?_)
      replace hF := (fx_rely hF2) hF h₁
      clear h₁
      refine GX.stop (fun w₄ h₄ => ?_)
      replace hF := (fx_rely hF2) hF h₄
      clear h₄
      refine ⟨rfl, fun hw => ⟨_, stepG_load_atomic (v := 0) rfl rfl (by k_ne) rfl H.f_loadU64 (x_loadU64_n L) (x_loadU64_b L) (x_loadU64_x L) .u64 (x_loadU64_f L) rfl hw.cellSt, 200, ?_⟩⟩
      clear hw
      walk_nrm
      refine GX.le (GX.silent (k := 13) (m := 187) ?_) (by omega)
      u_op (fx_rely hF2) hF
      u_c stepG_region_end (fx_rely hF2) hF
      u_c stepG_ret' (fx_rely hF2) hF
      u_leave1 H.f_uLoad (fx_rely hF2) hF
      u_op (fx_rely hF2) hF
      u_op (fx_rely hF2) hF
      u_c stepG_region_end (fx_rely hF2) hF
      u_c stepG_seq (fx_rely hF2) hF
      u_cond true (fx_rely hF2) hF
      u_c stepG_seq (fx_rely hF2) hF
      u_reg (fx_rely hF2) hF
      refine Goes.stop (fun w₁ h₁ => ?_)
      replace hF := (fx_rely hF2) hF h₁
      clear h₁
      refine GX.step rfl (fun w₁ h₁ => ?_)
      replace hF := (fx_rely hF2) hF h₁
      clear h₁
      rw [stepG_mark0 .enable (by simp) rfl rfl (by k_ne) rfl H.f_enable (x_enable_n L) (x_enable_b L) (x_enable_x L) (x_enable_f L)]
      simp only [goes_go]
      refine ⟨⟨o, mc, 0⟩, DX.quiet rfl rfl rfl (fun e he => by rw [Array.mem_singleton] at he; subst he; exact evX_mute rfl (by simp)), ?_⟩
      walk_nrm
      refine GX.le (GX.silent (k := 6) (m := 180) ?_) (by omega)
      u_c stepG_region_end (fx_rely hF2) hF
      u_reg (fx_rely hF2) hF
      u_op (fx_rely hF2) hF
      u_conv H.underlying_tWgP H.room_tWg (WgLive.cell0 hF.2).choose_spec (fx_rely hF2) hF
      refine Goes.stop (fun w₁ h₁ => ?_)
      replace hF := (fx_rely hF2) hF h₁
      clear h₁
      refine GX.stop (fun w₂ h₂ => ?_)
      replace hF := (fx_rely hF2) hF h₂
      clear h₂
      refine ⟨rfl, rfl, _, stepG_markAt .acquire (by simp) rfl rfl (by k_ne) rfl H.f_acquire (x_acquire_n L) (x_acquire_b L) (x_acquire_x L) (x_acquire_f L) (by simp [Act.eval, stA]), rfl, hF.1, 12, ?_⟩
      walk_nrm
      clear hF
      have hF : True := trivial
      u_c stepG_region_end (fun (h : True) (_ : AtRel _ _) => h) hF
      u_c stepG_seq (fun (h : True) (_ : AtRel _ _) => h) hF
      u_c stepG_seq (fun (h : True) (_ : AtRel _ _) => h) hF
      u_reg (fun (h : True) (_ : AtRel _ _) => h) hF
      u_op (fun (h : True) (_ : AtRel _ _) => h) hF
      u_c stepG_region_end (fun (h : True) (_ : AtRel _ _) => h) hF
      u_cond false (fun (h : True) (_ : AtRel _ _) => h) hF
      u_c stepG_skip (fun (h : True) (_ : AtRel _ _) => h) hF
      u_c stepG_ret' (fun (h : True) (_ : AtRel _ _) => h) hF
      u_leave0 H.f_wait (fun (h : True) (_ : AtRel _ _) => h) hF
      exact Goes.stop (fun _ _ => rfl)
    · refine ⟨_, stepG_cas_miss (v := (v' : Int) * KK) (old := S) (n := S + 1) rfl rfl (by k_ne) rfl H.f_casU64 (x_casU64_n L) (x_casU64_b L) (x_casU64_x L) .u64 (x_casU64_f L) rfl rfl rfl hw.cellSt (hw.thaw 0) (by rw [← hS]; simp only [KK]; omega), 200, ?_⟩
      clear hw
      walk_nrm
      refine GX.le (GX.silent (k := 11) (m := 189) ?_) (by omega)
      u_op (fx_rely hF2) hF
      u_c stepG_region_end (fx_rely hF2) hF
      u_c stepG_ret' (fx_rely hF2) hF
      u_leave1 H.f_uCas (fx_rely hF2) hF
      u_c stepG_region_end (fx_rely hF2) hF
      u_cond false (fx_rely hF2) hF
      u_c stepG_skip (fx_rely hF2) hF
      u_c stepG_inBlock (fx_rely hF2) hF
      u_c stepG_inLoop (fx_rely hF2) hF
      refine Goes.stop (fun w₁ h₁ => ?_)
      replace hF := (fx_rely hF2) hF h₁
      clear h₁
      exact GX.stop (fun w₃ h₃ => ⟨rfl, _, rfl, by simp, by simp, (fx_rely hF2) hF h₃⟩)

set_option maxRecDepth 100000 in
theorem waitStartX {P : Program} (H : WgLib P L) (hF2 : ∀ d w w₁, RX L.tWg Wg C n Low ⟨o, mc, d⟩ w w₁ → F w → F w₁) (w : World) (hF : F w ∧ WgLive L.tWg Wg w) :
    GX P true (RX L.tWg Wg C n Low) (DX Shun L.tWg Wg C n Low true) (AnchX L Wg o mc F (b₀.at a₀ (.inRegion ops₀ (i₀ :: rest₀) :: k₀)) cs) 30 ⟨o, mc, 0⟩
      (G ((base L.wait).at ⟨#[.pointer (some ⟨Wg, 0, none⟩), undef, undef, undef, undef, undef, undef, undef, undef, undef, undef, undef, undef, undef, undef, undef, undef, undef, undef, undef, undef, undef, undef, undef, undef, undef, undef, undef, undef, undef, undef, undef, undef, undef, undef, undef, undef, undef, undef, undef, undef, undef, undef, undef, undef, undef, undef, undef, undef, undef, undef, undef, undef, undef, undef, undef, undef, undef, undef, undef, undef, undef, undef, undef, undef, undef, undef, undef, undef, undef, undef, undef, undef, undef, undef, undef, undef, undef, undef, undef, undef, undef, undef, undef], []⟩ [.code (body_wait L)]) (b₀.at a₀ (.inRegion ops₀ (i₀ :: rest₀) :: k₀) :: cs)) w := by
  lib_facts
  simp only [body_wait, waitFn, Option.getD_some]
  refine GX.le (GX.silent (k := 5) (m := 25) ?_) (by omega)
  u_c stepG_seq (fx_rely hF2) hF
  u_cond true (fx_rely hF2) hF
  u_reg (fx_rely hF2) hF
  refine Goes.stop (fun w₁ h₁ => ?_)
  replace hF := (fx_rely hF2) hF h₁
  clear h₁
  refine GX.step rfl (fun w₁ h₁ => ?_)
  replace hF := (fx_rely hF2) hF h₁
  clear h₁
  rw [stepG_mark0 .disable (by simp) rfl rfl (by k_ne) rfl H.f_disable (x_disable_n L) (x_disable_b L) (x_disable_x L) (x_disable_f L)]
  simp only [goes_go]
  refine ⟨⟨o, mc, 1⟩, DX.quiet rfl rfl rfl (fun e he => by rw [Array.mem_singleton] at he; subst he; exact evX_mute rfl (by simp)), ?_⟩
  walk_nrm
  refine GX.le (GX.silent (k := 5) (m := 19) ?_) (by omega)
  u_c stepG_region_end (fx_rely hF2) hF
  u_c stepG_block (fx_rely hF2) hF
  u_c stepG_loop (fx_rely hF2) hF
  refine Goes.stop (fun w₁ h₁ => ?_)
  replace hF := (fx_rely hF2) hF h₁
  clear h₁
  exact GX.stop (fun w₃ h₃ => ⟨rfl, _, rfl, by simp, by simp, (fx_rely hF2) hF h₃⟩)
end
end Go.Proofs.YtafhpbghogdipaaGreatDoor
