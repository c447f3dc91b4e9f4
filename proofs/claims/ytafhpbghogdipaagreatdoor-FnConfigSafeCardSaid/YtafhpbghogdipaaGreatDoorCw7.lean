/- wg.Add(1) by the starter, while workers make memory. -/
import Derived.Test.YtafhpbghogdipaaGreatDoorCw6
import Derived.Conc.WgGenN3
namespace Go.Proofs.YtafhpbghogdipaaGreatDoor
open Go.Conc Go.ConcN Go.RowKit Go.Conc.Lib Go.ConcR.Gen Go.ConcN.Gen
open Go.ConcR (KK wgBlock WgAt stA smA rd wr mk Payload DC0 Bk)
set_option linter.unusedVariables false

section
variable [Payload] {Shun : Loc → Prop} {ty : TypeId} {Wg C n Low : Nat} {o mc : Nat → Prop} {F : World → Prop}
theorem GX.silent {P : Program} {main : Bool} {Stop : Gh → Goroutine → World → Prop} {γ : Gh} {k m : Nat} {g : Goroutine} {w : World}
    (h : Goes P main (RX ty Wg C n Low γ) DC0 (fun g w => GX P main (RX ty Wg C n Low) (DX Shun ty Wg C n Low main) Stop m γ g w) k g w) : GX P main (RX ty Wg C n Low) (DX Shun ty Wg C n Low main) Stop (k + m) γ g w :=
  GX.seq (fun γ w => RX.refl γ w) (GX.of_goes (F := fun _ => True) (fun _ _ h => h) (fun _ _ _ _ => trivial) (fun _ _ _ _ h => ⟨DX.of_dc0 h, trivial⟩) (fun _ _ _ h => h) trivial h)
omit [Payload] in
theorem goes_of_eq {s : GStep} {g : Goroutine} {w : World} {es : Array Event} {K : Goroutine → World → Array Event → Prop} (h : s = .go g w es) (hk : K g w es) : s.goes K := by rw [h]; exact hk
theorem fx_rely (hF2 : ∀ d w w₁, RX ty Wg C n Low ⟨o, mc, d⟩ w w₁ → F w → F w₁) {d : Nat} {w w₁ : World} (h : F w ∧ WgLive ty Wg w) (r : RX ty Wg C n Low ⟨o, mc, d⟩ w w₁) : F w₁ ∧ WgLive ty Wg w₁ := ⟨hF2 _ _ _ r h.1, r.live h.2⟩
theorem fx_wg (hF2 : ∀ d w w₁, RX ty Wg C n Low ⟨o, mc, d⟩ w w₁ → F w → F w₁) (hCW : C ≠ Wg) (ho : ∀ b, o b → b ≠ Wg) {w w₁ : World} (h : F w) (ha : Aside Wg w w₁) (hl : WgLive ty Wg w₁) : F w₁ ∧ WgLive ty Wg w₁ :=
  ⟨hF2 0 _ _ (RX.of_wg ha hl hCW ho) h, hl⟩
omit [Payload] in
theorem evX_said_read {γ : Gh} (a : Addr) (h : a.block = Wg) : EvX Shun Wg C Low true γ ⟨.mark (.read a), false, true⟩ := by
  refine ⟨fun x hx => ?_, by simp⟩
  simp only [MemAct.ofEvent, MemAct.touch?, Option.some.injEq] at hx
  subst hx
  exact .inl ⟨⟨a, rfl, h⟩, by simp, fun _ => rfl⟩
omit [Payload] in
theorem evX_said_write {γ : Gh} (a : Addr) (h : a.block = Wg) : EvX Shun Wg C Low true γ ⟨.mark (.write a), false, true⟩ := by
  refine ⟨fun x hx => ?_, by simp⟩
  simp only [MemAct.ofEvent, MemAct.touch?, Option.some.injEq] at hx
  subst hx
  exact .inl ⟨⟨a, rfl, h⟩, by simp, fun _ => rfl⟩
end

section
variable [Payload] {L : WgLink} {Shun : Loc → Prop} {Wg C n Low : Nat} {o mc : Nat → Prop} {F : World → Prop} {Fin : Nat → Gh → World → Prop} {j : Nat} {Next : Gh → Goroutine → World → Prop}
  {b₀ : Frame} {a₀ : Act} {ops₀ : Array Oper} {i₀ : Nat} {rest₀ : List Nat} {k₀ : List Item} {cs : List Frame} {mT : Nat}
set_option maxRecDepth 100000 in
set_option maxHeartbeats 16000000 in
theorem addX {P : Program} (H : WgLib P L) (hCW : C ≠ Wg) (ho : ∀ b, o b → b ≠ Wg) (hF2 : ∀ d w w₁, RX L.tWg Wg C n Low ⟨o, mc, d⟩ w w₁ → F w → F w₁)
    (hT : ∀ w, F w → WgLive L.tWg Wg w → GX P true (RX L.tWg Wg C n Low) (DX Shun L.tWg Wg C n Low true) (StGo P Shun L.tWg Wg C n Low Fin j Next) mT ⟨o, mc, 0⟩ (G (b₀.at (a₀.put ((ops₀[i₀]?).bind (·.dst)) (.tuple #[])) (.inRegion ops₀ rest₀ :: k₀)) cs) w)
    (w : World) (hF : F w ∧ WgLive L.tWg Wg w) :
    GX P true (RX L.tWg Wg C n Low) (DX Shun L.tWg Wg C n Low true) (StA1 P Shun L.tWg Wg C n Low Fin j Next) 100 ⟨o, mc, 0⟩
      (G ((base L.add).at ⟨#[.pointer (some ⟨Wg, 0, none⟩), .int .i64 1, undef, undef, undef, undef, undef, undef, undef, undef, undef, undef, undef, undef, undef, undef, undef, undef, undef, undef, undef, undef, undef, undef, undef, undef, undef, undef, undef, undef, undef, undef, undef, undef, undef, undef, undef, undef, undef, undef, undef, undef, undef, undef, undef, undef, undef, undef, undef, undef, undef, undef, undef, undef, undef, undef, undef, undef, undef, undef, undef, undef, undef, undef, undef, undef, undef, undef, undef, undef, undef, undef, undef, undef, undef, undef, undef, undef, undef, undef, undef, undef, undef, undef, undef, undef, undef, undef, undef, undef, undef, undef, undef, undef, undef, undef, undef, undef, undef, undef, undef, undef, undef, undef, undef, undef, undef, undef, undef, undef, undef, undef, undef, undef, undef, undef, undef], []⟩ [.code (body_add L)]) (b₀.at a₀ (.inRegion ops₀ (i₀ :: rest₀) :: k₀) :: cs)) w := by
  lib_facts
  simp only [body_add, addFn, Option.getD_some]
  refine GX.le (GX.silent (k := 14) (m := 86) ?_) (by omega)
  u_c stepG_seq (fx_rely hF2) hF
  u_cond true (fx_rely hF2) hF
  u_c stepG_seq (fx_rely hF2) hF
  u_c stepG_seq (fx_rely hF2) hF
  u_reg (fx_rely hF2) hF
  u_op (fx_rely hF2) hF
  u_op (fx_rely hF2) hF
  u_c stepG_region_end (fx_rely hF2) hF
  u_cond false (fx_rely hF2) hF
  u_c stepG_skip (fx_rely hF2) hF
  u_c stepG_seq (fx_rely hF2) hF
  u_reg (fx_rely hF2) hF
  refine Goes.stop (fun w₁ h₁ => ?_)
  replace hF := (fx_rely hF2) hF h₁
  clear h₁
  refine GX.step rfl (fun w₁ h₁ => ?_)
  replace hF := (fx_rely hF2) hF h₁
  clear h₁
  rw [stepG_mark0 .disable (by simp) rfl rfl (by k_ne) rfl H.f_disable (x_disable_n L) (x_disable_b L) (x_disable_x L) (x_disable_f L)]
  simp only [goes_go]
  refine ⟨⟨o, mc, 1⟩, DX.quiet rfl rfl rfl (fun e he => by rw [Array.mem_singleton] at he; subst he; exact evX_mute rfl (by simp)), ?_⟩
  walk_nrm
  refine GX.le (GX.silent (k := 36) (m := 49) ?_) (by omega)
  u_c stepG_region_end (fx_rely hF2) hF
  u_reg (fx_rely hF2) hF
  u_defer (fx_rely hF2) hF
  u_c stepG_region_end (fx_rely hF2) hF
  u_c stepG_seq (fx_rely hF2) hF
  u_reg (fx_rely hF2) hF
  u_op (fx_rely hF2) hF
  u_c stepG_region_end (fx_rely hF2) hF
  u_c stepG_seq (fx_rely hF2) hF
  u_c stepG_seq (fx_rely hF2) hF
  u_reg (fx_rely hF2) hF
  u_bub (fx_rely hF2) hF
  u_c stepG_region_end (fx_rely hF2) hF
  u_cond false (fx_rely hF2) hF
  u_c stepG_skip (fx_rely hF2) hF
  u_c stepG_seq (fx_rely hF2) hF
  u_reg (fx_rely hF2) hF
  u_op (fx_rely hF2) hF
  u_op (fx_rely hF2) hF
  u_op (fx_rely hF2) hF
  u_op (fx_rely hF2) hF
  u_op (fx_rely hF2) hF
  u_op (fx_rely hF2) hF
  u_call H.f_uAdd (nm_uAdd L) uAddFn (fx_rely hF2) hF
  u_c stepG_seq (fx_rely hF2) hF
  u_reg (fx_rely hF2) hF
  u_op (fx_rely hF2) hF
  u_c stepG_region_end (fx_rely hF2) hF
  u_c stepG_seq (fx_rely hF2) hF
  u_reg (fx_rely hF2) hF
  u_op (fx_rely hF2) hF
  u_op (fx_rely hF2) hF
  u_op (fx_rely hF2) hF
  u_op (fx_rely hF2) hF
  refine Goes.stop (fun w₁ h₁ => ?_)
  replace hF := (fx_rely hF2) hF h₁
  clear h₁
  refine GX.stop (fun w₂ h₂ => ?_)
  replace hF := (fx_rely hF2) hF h₂
  clear h₂
  refine ⟨rfl, fun v hv hw => ?_⟩
  rcases Nat.eq_zero_or_pos v with rfl | hvp
  · -- the count is now 1
    replace hw : WgAt L.tWg Wg w₂ 0 0 := by simpa using hw
    have z : (((0 : Nat) : Int) + 1) * KK = KK := by simp
    rw [z]
    have e0 : IntKind.u64.wrap (0 + 4294967296) = KK := by decide
    refine ⟨_, (stepG_add_atomic rfl rfl (by k_ne) rfl H.f_addU64 (x_addU64_n L) (x_addU64_b L) (x_addU64_x L) .u64 (x_addU64_f L) rfl rfl hw.cellSt (hw.thaw 0)).trans (by rw [e0]; rfl), mT + 400, ?_⟩
    replace hF : F (w₂.setCell (stA Wg) (.int .u64 KK)) ∧ WgLive L.tWg Wg (w₂.setCell (stA Wg) (.int .u64 KK)) := fx_wg hF2 hCW ho hF.1 (aside_setCell w₂ (stA Wg) _) ⟨_, _, hw.setSt _⟩
    clear hw
    simp only [KK] at hF ⊢
    walk_nrm
    refine GX.le (GX.silent (k := 55) (m := mT + 345) ?_) (by omega)
    u_op (fx_rely hF2) hF
    u_c stepG_region_end (fx_rely hF2) hF
    u_c stepG_ret' (fx_rely hF2) hF
    u_leave1 H.f_uAdd (fx_rely hF2) hF
    u_op (fx_rely hF2) hF
    u_c stepG_region_end (fx_rely hF2) hF
    u_c stepG_seq (fx_rely hF2) hF
    u_c stepG_seq (fx_rely hF2) hF
    u_reg (fx_rely hF2) hF
    u_op (fx_rely hF2) hF
    u_op (fx_rely hF2) hF
    u_op (fx_rely hF2) hF
    u_op (fx_rely hF2) hF
    u_skip (fx_rely hF2) hF
    u_skip (fx_rely hF2) hF
    u_op (fx_rely hF2) hF
    u_c stepG_region_end (fx_rely hF2) hF
    u_cond false (fx_rely hF2) hF
    u_c stepG_skip (fx_rely hF2) hF
    u_c stepG_seq (fx_rely hF2) hF
    u_reg (fx_rely hF2) hF
    u_op (fx_rely hF2) hF
    u_op (fx_rely hF2) hF
    u_op (fx_rely hF2) hF
    u_op (fx_rely hF2) hF
    u_c stepG_region_end (fx_rely hF2) hF
    u_c stepG_seq (fx_rely hF2) hF
    u_reg (fx_rely hF2) hF
    u_op (fx_rely hF2) hF
    u_op (fx_rely hF2) hF
    u_op (fx_rely hF2) hF
    u_op (fx_rely hF2) hF
    u_c stepG_region_end (fx_rely hF2) hF
    u_c stepG_seq (fx_rely hF2) hF
    u_c stepG_seq (fx_rely hF2) hF
    u_reg (fx_rely hF2) hF
    u_op (fx_rely hF2) hF
    u_op (fx_rely hF2) hF
    u_op (fx_rely hF2) hF
    u_op (fx_rely hF2) hF
    u_op (fx_rely hF2) hF
    u_op (fx_rely hF2) hF
    u_op (fx_rely hF2) hF
    u_op (fx_rely hF2) hF
    u_op (fx_rely hF2) hF
    u_op (fx_rely hF2) hF
    u_c stepG_region_end (fx_rely hF2) hF
    u_cond true (fx_rely hF2) hF
    u_reg (fx_rely hF2) hF
    u_op (fx_rely hF2) hF
    u_op (fx_rely hF2) hF
    u_op (fx_rely hF2) hF
    u_conv H.underlying_tPU32 H.room_tU32 (WgLive.cell1 hF.2).choose_spec (fx_rely hF2) hF
    refine Goes.stop (fun w₁ h₁ => ?_)
    replace hF := (fx_rely hF2) hF h₁
    clear h₁
    refine GX.step rfl (fun w₁ h₁ => ?_)
    replace hF := (fx_rely hF2) hF h₁
    clear h₁
    rw [stepG_markAt .read (by simp) rfl rfl (by k_ne) rfl H.f_raceRead (x_raceRead_n L) (x_raceRead_b L) (x_raceRead_x L) (x_raceRead_f L) (ad := ⟨Wg, 1, none⟩) (by simp [Act.eval])]
    simp only [goes_go]
    refine ⟨⟨o, mc, 1⟩, DX.quiet rfl rfl rfl (fun e he => by rw [Array.mem_singleton] at he; subst he; exact evX_said_read _ rfl), ?_⟩
    walk_nrm
    refine GX.le (GX.silent (k := 41) (m := mT + 303) ?_) (by omega)
    u_c stepG_region_end (fx_rely hF2) hF
    u_c stepG_seq (fx_rely hF2) hF
    u_c stepG_seq (fx_rely hF2) hF
    u_reg (fx_rely hF2) hF
    u_op (fx_rely hF2) hF
    u_op (fx_rely hF2) hF
    u_c stepG_region_end (fx_rely hF2) hF
    u_cond false (fx_rely hF2) hF
    u_c stepG_skip (fx_rely hF2) hF
    u_c stepG_seq (fx_rely hF2) hF
    u_c stepG_seq (fx_rely hF2) hF
    u_reg (fx_rely hF2) hF
    u_op (fx_rely hF2) hF
    u_op (fx_rely hF2) hF
    u_op (fx_rely hF2) hF
    u_skip (fx_rely hF2) hF
    u_skip (fx_rely hF2) hF
    u_op (fx_rely hF2) hF
    u_op (fx_rely hF2) hF
    u_skip (fx_rely hF2) hF
    u_skip (fx_rely hF2) hF
    u_skip (fx_rely hF2) hF
    u_skip (fx_rely hF2) hF
    u_op (fx_rely hF2) hF
    u_c stepG_region_end (fx_rely hF2) hF
    u_cond false (fx_rely hF2) hF
    u_c stepG_skip (fx_rely hF2) hF
    u_c stepG_seq (fx_rely hF2) hF
    u_c stepG_seq (fx_rely hF2) hF
    u_reg (fx_rely hF2) hF
    u_op (fx_rely hF2) hF
    u_op (fx_rely hF2) hF
    u_op (fx_rely hF2) hF
    u_skip (fx_rely hF2) hF
    u_skip (fx_rely hF2) hF
    u_op (fx_rely hF2) hF
    u_c stepG_region_end (fx_rely hF2) hF
    u_cond true (fx_rely hF2) hF
    u_c stepG_ret' (fx_rely hF2) hF
    refine Goes.stop (fun w₁ h₁ => ?_)
    replace hF := (fx_rely hF2) hF h₁
    clear h₁
    refine GX.step rfl (fun w₁ h₁ => ?_)
    replace hF := (fx_rely hF2) hF h₁
    clear h₁
    refine goes_of_eq (stepG_unwind_entry (v := .tuple #[]) (w' := w₁) (evs := #[mk .enable]) rfl H.f_enable (x_enable_n L) (x_enable_b L) (x_enable_x L) (x_enable_f L) (by simp [Extern.Race.none_]) (by simp [mk]) (by simp [mk])) ?_
    refine ⟨⟨o, mc, 0⟩, DX.quiet rfl rfl rfl (fun e he => by rw [Array.mem_singleton] at he; subst he; exact evX_mute rfl (by simp)), ?_⟩
    refine GX.le (GX.silent (k := 3) (m := mT + 299) ?_) (by omega)
    u_leave0 H.f_add (fx_rely hF2) hF
    refine Goes.stop (fun w₁ h₁ => ?_)
    replace hF := (fx_rely hF2) hF h₁
    clear h₁
    exact (hT _ hF.1 hF.2).le (by omega)
  · -- it is more
    obtain ⟨V, hV⟩ : ∃ V : Int, V = (v : Int) + 1 := ⟨_, rfl⟩
    obtain ⟨S, hS⟩ : ∃ S : Int, S = V * KK := ⟨_, rfl⟩
    have eS : IntKind.u64.wrap ((v : Int) * KK + 4294967296) = S := by rw [IntKind.wrap_u64, hS, hV]; simp only [KK]; omega
    rw [← hV, ← hS]
    have a1 : S / 4294967296 = V := by rw [hS]; simp only [KK]; omega
    have b1 : bits .and .u64 S 2147483648 = 0 := by rw [hS, hV]; have := st_flag (v + 1) 0 (by omega) (by omega); simpa [KK] using this
    have b2 : bits .and .u64 S 2147483647 = 0 := by rw [hS, hV]; have := st_waiters (v + 1) 0 (by omega) (by omega); simpa [KK] using this
    have c1 : IntKind.i32.wrap V = V := by rw [IntKind.wrap_i32]; omega
    have hV1 : 1 < V := by omega
    have hV2 : V < 2147483648 := by omega
    have q1 : (V == 1) = false := by simp; omega
    have q2 : decide (V = 1) = false := decide_eq_false (by omega)
    have q3 : decide (V < 0) = false := decide_eq_false (by omega)
    have q4 : decide (0 < V) = true := decide_eq_true (by omega)
    have q5 : (V == 0) = false := by simp; omega
    have q6 : decide (V = 0) = false := decide_eq_false (by omega)
    refine ⟨_, (stepG_add_atomic rfl rfl (by k_ne) rfl H.f_addU64 (x_addU64_n L) (x_addU64_b L) (x_addU64_x L) .u64 (x_addU64_f L) rfl rfl hw.cellSt (hw.thaw 0)).trans (by rw [eS]; rfl), mT + 400, ?_⟩
    replace hF : F (w₂.setCell (stA Wg) (.int .u64 S)) ∧ WgLive L.tWg Wg (w₂.setCell (stA Wg) (.int .u64 S)) := fx_wg hF2 hCW ho hF.1 (aside_setCell w₂ (stA Wg) _) ⟨_, _, hw.setSt _⟩
    clear hw hS hV eS
    walk_nrm
    refine GX.le (GX.silent (k := 89) (m := mT + 311) ?_) (by omega)
    u_op (fx_rely hF2) hF
    u_c stepG_region_end (fx_rely hF2) hF
    u_c stepG_ret' (fx_rely hF2) hF
    u_leave1 H.f_uAdd (fx_rely hF2) hF
    u_op (fx_rely hF2) hF
    u_c stepG_region_end (fx_rely hF2) hF
    u_c stepG_seq (fx_rely hF2) hF
    u_c stepG_seq (fx_rely hF2) hF
    u_reg (fx_rely hF2) hF
    u_op (fx_rely hF2) hF
    u_op (fx_rely hF2) hF
    u_op (fx_rely hF2) hF
    u_op (fx_rely hF2) hF
    u_skip (fx_rely hF2) hF
    u_skip (fx_rely hF2) hF
    u_op (fx_rely hF2) hF
    u_c stepG_region_end (fx_rely hF2) hF
    u_cnd false (fx_rely hF2) hF
    u_c stepG_skip (fx_rely hF2) hF
    u_c stepG_seq (fx_rely hF2) hF
    u_reg (fx_rely hF2) hF
    u_op (fx_rely hF2) hF
    u_op (fx_rely hF2) hF
    u_op (fx_rely hF2) hF
    u_op (fx_rely hF2) hF
    u_c stepG_region_end (fx_rely hF2) hF
    u_c stepG_seq (fx_rely hF2) hF
    u_reg (fx_rely hF2) hF
    u_op (fx_rely hF2) hF
    u_op (fx_rely hF2) hF
    u_op (fx_rely hF2) hF
    u_op (fx_rely hF2) hF
    u_c stepG_region_end (fx_rely hF2) hF
    u_c stepG_seq (fx_rely hF2) hF
    u_c stepG_seq (fx_rely hF2) hF
    u_reg (fx_rely hF2) hF
    u_op (fx_rely hF2) hF
    u_op (fx_rely hF2) hF
    u_op (fx_rely hF2) hF
    u_op (fx_rely hF2) hF
    u_op (fx_rely hF2) hF
    u_op (fx_rely hF2) hF
    u_op (fx_rely hF2) hF
    u_op (fx_rely hF2) hF
    u_op (fx_rely hF2) hF
    u_op (fx_rely hF2) hF
    u_c stepG_region_end (fx_rely hF2) hF
    u_cnd false (fx_rely hF2) hF
    u_c stepG_skip (fx_rely hF2) hF
    u_c stepG_seq (fx_rely hF2) hF
    u_c stepG_seq (fx_rely hF2) hF
    u_reg (fx_rely hF2) hF
    u_op (fx_rely hF2) hF
    u_op (fx_rely hF2) hF
    u_c stepG_region_end (fx_rely hF2) hF
    u_cnd false (fx_rely hF2) hF
    u_c stepG_skip (fx_rely hF2) hF
    u_c stepG_seq (fx_rely hF2) hF
    u_c stepG_seq (fx_rely hF2) hF
    u_reg (fx_rely hF2) hF
    u_op (fx_rely hF2) hF
    u_op (fx_rely hF2) hF
    u_op (fx_rely hF2) hF
    u_skip (fx_rely hF2) hF
    u_skip (fx_rely hF2) hF
    u_op (fx_rely hF2) hF
    u_op (fx_rely hF2) hF
    u_skip (fx_rely hF2) hF
    u_skip (fx_rely hF2) hF
    u_skip (fx_rely hF2) hF
    u_skip (fx_rely hF2) hF
    u_op (fx_rely hF2) hF
    u_c stepG_region_end (fx_rely hF2) hF
    u_cnd false (fx_rely hF2) hF
    u_c stepG_skip (fx_rely hF2) hF
    u_c stepG_seq (fx_rely hF2) hF
    u_c stepG_seq (fx_rely hF2) hF
    u_reg (fx_rely hF2) hF
    u_op (fx_rely hF2) hF
    u_op (fx_rely hF2) hF
    u_op (fx_rely hF2) hF
    u_skip (fx_rely hF2) hF
    u_skip (fx_rely hF2) hF
    u_op (fx_rely hF2) hF
    u_c stepG_region_end (fx_rely hF2) hF
    u_cnd true (fx_rely hF2) hF
    u_c stepG_ret' (fx_rely hF2) hF
    refine Goes.stop (fun w₁ h₁ => ?_)
    replace hF := (fx_rely hF2) hF h₁
    clear h₁
    refine GX.step rfl (fun w₁ h₁ => ?_)
    replace hF := (fx_rely hF2) hF h₁
    clear h₁
    refine goes_of_eq (stepG_unwind_entry (v := .tuple #[]) (w' := w₁) (evs := #[mk .enable]) rfl H.f_enable (x_enable_n L) (x_enable_b L) (x_enable_x L) (x_enable_f L) (by simp [Extern.Race.none_]) (by simp [mk]) (by simp [mk])) ?_
    refine ⟨⟨o, mc, 0⟩, DX.quiet rfl rfl rfl (fun e he => by rw [Array.mem_singleton] at he; subst he; exact evX_mute rfl (by simp)), ?_⟩
    refine GX.le (GX.silent (k := 3) (m := mT + 307) ?_) (by omega)
    u_leave0 H.f_add (fx_rely hF2) hF
    refine Goes.stop (fun w₁ h₁ => ?_)
    replace hF := (fx_rely hF2) hF h₁
    clear h₁
    exact (hT _ hF.1 hF.2).le (by omega)
end
end Go.Proofs.YtafhpbghogdipaaGreatDoor
