/- The worker from its birth to its release. -/
import Derived.Test.YtafhpbghogdipaaGreatDoorCw11
namespace Go.Proofs.YtafhpbghogdipaaGreatDoor
open Go.Conc Go.ConcN Go.RowKit Go.Conc.Lib Go.ConcR.Gen Go.ConcN.Gen
open Go.ConcR (KK wgBlock WgAt stA smA rd wr mk Payload DC0 Bk)
set_option maxHeartbeats 8000000
set_option maxRecDepth 100000
set_option linter.unusedVariables false

section
variable {Shun : Loc → Prop} {Wg C n Low Sz By Br Bi Ba : Nat} {A : Option Addr} {ny cy : Nat} {ys : List Int} {i : Nat} {av : Int} {γ : Gh} {w w₁ : World} {u : Value} {xs : List Int}
set_option maxRecDepth 100000 in
theorem worker_born (Gw : GeoW Shun Wg C n Low Sz By Br Bi Ba i) {rows : Nat → List Int} (hrow : rows i = rowK av ys ny) (hny : ny ≤ 1048576) (γ : Gh) (w : World) (hd : γ.deaf = 0) (hm : ∀ i', γ.mc i' → i' = i)
    (hF : WK Shun Wg C n Low Sz By Br Bi Ba A ny cy ys i av γ w ∧ w.cell? ⟨C, i, none⟩ = some u ∧ RowO Sz γ w u (rowK av ys 0)) :
    GX Tryz.prog false (RX Tryz.link.tWg Wg C n Low) (DX Shun Tryz.link.tWg Wg C n Low false) (StopR Tryz.prog Tryz.link.tWg Wg C n Low (FinR C Low rows) i) (ny * 100 + 150) γ (born Tryz.prog (call26 Wg By Br Bi Ba)) w := by
  have hloop := fun (w : World) (t5 t6 t10 t11 t12 t13 t14 t15 t16 t17 t18 t19 t20 t21 t22 t23 t24 t25 : Value) (hF : WK Shun Wg C n Low Sz By Br Bi Ba A ny cy ys i av γ w ∧ w.cell? ⟨C, i, none⟩ = some u ∧ RowO Sz γ w u (rowK av ys 0)) => worker_loop (Shun := Shun) (A := A) (cy := cy) (ys := ys) (av := av) Gw (rows := rows) hrow hny (fun _ h => h) ny 0 (by omega) γ w u t5 t6 t10 t11 t12 t13 t14 t15 t16 t17 t18 t19 t20 t21 t22 t23 t24 t25 hd hm hF
  have e1 : ny * 100 + 150 = (ny * 100 + 149) + 1 := by omega
  rw [e1]
  refine GX.step rfl (fun w₁ h₁ => ?_)
  replace hF := (wr_rely Gw) hF h₁
  clear h₁
  rw [born_step]
  simp only [goes_go]
  refine ⟨γ, DX.still _ _ _, ?_⟩
  simp only [L26, body26, Tryz.f29, Option.getD_some] at hloop ⊢
  refine GX.le (GX.silent (k := 10) (m := ny * 100 + 130) ?_) (by omega)
  u_c stepG_seq (wr_rely Gw) hF
  u_reg (wr_rely Gw) hF
  u_defer (wr_rely Gw) hF
  u_c stepG_region_end (wr_rely Gw) hF
  u_c stepG_seq (wr_rely Gw) hF
  u_reg (wr_rely Gw) hF
  refine Goes.stop (fun w₁ h₁ => ?_)
  replace hF := (wr_rely Gw) hF h₁
  clear h₁
  -- y is read
  refine GX.step rfl (fun w₁ h₁ => ?_)
  replace hF := (wr_rely Gw) hF h₁
  clear h₁
  have hce := hF.1.yb
  refine goes_oper_k rfl rfl (by decide) (fun K hK => ?_)
  go_simp
  refine hK _ _ ⟨γ, DX.reads fun e he => ?_, ?_⟩
  · have hm' := mem_listed he
    simp [go_sem, *] at hm'
    subst hm'
    exact evX_cell _ _ (.inr ⟨⟨_, rfl, Gw.y1⟩, rfl⟩)
  clear hK K hce
  refine GX.le (GX.silent (k := 10) (m := ny * 100 + 110) ?_) (by omega)
  u_op (wr_rely Gw) hF
  u_op (wr_rely Gw) hF
  u_c stepG_region_end (wr_rely Gw) hF
  u_c stepG_block (wr_rely Gw) hF
  u_c stepG_loop (wr_rely Gw) hF
  refine Goes.stop (fun w₁ h₁ => ?_)
  replace hF := (wr_rely Gw) hF h₁
  exact (hloop w₁ _ _ _ _ _ _ _ _ _ _ _ _ _ _ _ _ _ _ hF).le (by omega)
end
end Go.Proofs.YtafhpbghogdipaaGreatDoor
