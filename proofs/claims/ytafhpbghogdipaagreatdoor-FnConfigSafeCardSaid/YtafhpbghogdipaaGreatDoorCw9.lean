/- A region that draws its order, walked in company by a goroutine that makes memory: by an invariant over what has come up. -/
import Derived.Test.YtafhpbghogdipaaGreatDoorCw8
import Derived.Conc.CompanyDraw
namespace Go.Proofs.YtafhpbghogdipaaGreatDoor
open Go.Conc Go.ConcN Go.RowKit
open Go.ConcR (KK wgBlock WgAt stA smA rd wr mk Payload DC0 Bk)
set_option maxHeartbeats 4000000
set_option linter.unusedVariables false

section
variable (P : Program) (R : Gh → World → World → Prop) (D : Gh → World → World → Array Event → Gh → Prop) (fn : FuncId) (md : Region.Mode) (ops : Array Oper) (K : Gh → Act → World → Prop)
/-- Whatever comes up. -/
def AnyX : Nat → Array Bool → Gh → Act → World → Prop
  | 0, _, γ, a, w => K γ a w
  | fuel + 1, listed, γ, a, w =>
    (Region.ready md ops listed = [] → K γ a w) ∧
    ∀ i ∈ Region.ready md ops listed, ∃ o, ops[i]? = some o ∧ Region.wanted o (yielded ops a.tmps) = true ∧
      ∀ w₁, R γ w w₁ → uponK o a (fun a' w' => ∃ γ', D γ w₁ w' (Go.Conc.listed P fn a o w₁) γ' ∧ AnyX fuel (listed.setIfInBounds i true) γ' a' w') ((execOp a.eval o).run P w₁)
end

section
variable {P : Program} {main : Bool} {R : Gh → World → World → Prop} {D : Gh → World → World → Array Event → Gh → Prop} {Stop : Gh → Goroutine → World → Prop} {md : Region.Mode} {ops : Array Oper} {K : Gh → Act → World → Prop} {b : Frame} {k : List Item} {cs : List Frame} {m : Nat}
theorem uponK_goes {o : Oper} {a : Act} {i : Nat} {rest : List Nat} {w : World} {K' : Act → World → Prop} {K'' : Goroutine → World → Array Event → Prop} (ho : ops[i]? = some o) (hw : Region.wanted o (yielded ops a.tmps) = true) (hk : b.kind ≠ .early)
    (h : uponK o a K' ((execOp a.eval o).run P w)) (hK : ∀ a' w', K' a' w' → K'' (G (b.at a' (.inRegion ops rest :: k)) cs) w' (Go.Conc.listed P b.fn a o w)) :
    (stepG P main (G (b.at a (.inRegion ops (i :: rest) :: k)) cs) w).goes K'' := by
  refine goes_oper ho hw hk ?_
  generalize (execOp a.eval o).run P w = r at h
  cases r with
  | ok n w' => cases n <;> first | exact hK _ _ h | exact h.elim
  | halt x w' => exact h.elim
theorem anyX_sound (hk : b.kind ≠ .early) (hR : ∀ γ w, R γ w w) (hK : ∀ γ a w, K γ a w → GX P main R D Stop m γ (G (b.at a (.inRegion ops [] :: k)) cs) w) :
    ∀ (fuel t : Nat) (listed : Array Bool) (γ : Gh) (a : Act) (w : World), AnyX P R D b.fn md ops K fuel listed γ a w →
      GX P main R D Stop (fuel + m) γ (G (b.at a (.inRegion ops (Region.linearise.go md ops fuel t listed []) :: k)) cs) w := by
  intro fuel
  induction fuel with
  | zero => intro t listed γ a w h; simpa [Region.linearise.go] using hK _ _ _ h
  | succ fuel ih =>
    intro t listed γ a w h
    obtain ⟨h₀, h₁⟩ := h
    simp only [Region.linearise.go]
    change GX P main R D Stop (fuel + 1 + m) γ (G (b.at a (.inRegion ops (match (Region.ready md ops listed)[t % (Region.ready md ops listed).length]? with
      | some i => Region.linearise.go md ops fuel (t / (Region.ready md ops listed).length) (listed.setIfInBounds i true) [i]
      | none => [].reverse) :: k)) cs) w
    cases hi : (Region.ready md ops listed)[t % (Region.ready md ops listed).length]? with
    | none =>
      have hnil : Region.ready md ops listed = [] := by
        cases hr : Region.ready md ops listed with
        | nil => rfl
        | cons x xs =>
          rw [hr] at hi
          have hlt : t % (x :: xs).length < (x :: xs).length := Nat.mod_lt _ (by simp)
          simp at hi
          simp at hlt
          omega
      exact (hK _ _ _ (h₀ hnil)).le (by omega)
    | some i =>
      simp only []
      rw [linearise_go_acc, List.reverse_singleton, List.singleton_append]
      obtain ⟨o, ho, hw, hu⟩ := h₁ i (List.mem_of_getElem? hi)
      have e : fuel + 1 + m = fuel + m + 1 := by omega
      rw [e]
      refine GX.step rfl fun w₁ hw₁ => ?_
      exact uponK_goes ho hw hk (hu w₁ hw₁) fun a' w' ⟨γ', hd, hx⟩ => ⟨γ', hd, ih _ _ _ _ _ hx⟩

def unl : List Bool → Nat
  | [] => 0
  | b :: l => (if b then 0 else 1) + unl l
theorem unl_set : ∀ (l : List Bool) (i : Nat), l[i]? = some false → unl (l.set i true) + 1 = unl l
  | b :: l, 0, h => by simp at h; subst h; simp [unl]; omega
  | b :: l, i + 1, h => by
    have := unl_set l i (by simpa using h)
    simp only [List.set_cons_succ, unl]
    omega
theorem unl_zero : ∀ (l : List Bool), unl l = 0 → ∀ i : Nat, l[i]? ≠ some false
  | [], _, i => by simp
  | b :: l, h, 0 => by cases b <;> simp_all [unl]
  | b :: l, h, i + 1 => by simpa using unl_zero l (by simp only [unl] at h; omega) i
/-- An invariant over what has come up serves. -/
theorem anyX_of_inv {fn : FuncId} (Inv : Array Bool → Gh → Act → World → Prop) (hR : ∀ γ w, R γ w w)
    (hstep : ∀ listed γ a w i, Inv listed γ a w → i ∈ Region.ready md ops listed → ∃ o, ops[i]? = some o ∧ Region.wanted o (yielded ops a.tmps) = true ∧
      ∀ w₁, R γ w w₁ → uponK o a (fun a' w' => ∃ γ', D γ w₁ w' (Go.Conc.listed P fn a o w₁) γ' ∧ Inv (listed.setIfInBounds i true) γ' a' w') ((execOp a.eval o).run P w₁))
    (hend : ∀ listed γ a w, Inv listed γ a w → Region.ready md ops listed = [] → K γ a w) :
    ∀ (fuel : Nat) (listed : Array Bool) (γ : Gh) (a : Act) (w : World), unl listed.toList ≤ fuel → Inv listed γ a w → AnyX P R D fn md ops K fuel listed γ a w := by
  intro fuel
  induction fuel with
  | zero =>
    intro listed γ a w hu hi
    refine hend listed γ a w hi ?_
    cases hr : Region.ready md ops listed with
    | nil => rfl
    | cons i l =>
      have hm : i ∈ Region.ready md ops listed := by rw [hr]; exact List.mem_cons_self ..
      have h1 := (mem_ready.1 hm).1
      have h2 : listed.toList[i]? = some false := by
        rw [Array.getElem?_toList]
        rcases Nat.lt_or_ge i listed.size with h' | h'
        · simp [h'] at h1 ⊢; exact h1
        · simp [Nat.not_lt.2 h'] at h1
      exact absurd h2 (unl_zero _ (by omega) i)
  | succ fuel ih =>
    intro listed γ a w hu hi
    refine ⟨fun hr => hend listed γ a w hi hr, fun i hm => ?_⟩
    obtain ⟨o, ho, hw, h⟩ := hstep listed γ a w i hi hm
    refine ⟨o, ho, hw, fun w₁ h₁ => uponK_mono (fun a' w' ⟨γ', hd, hi'⟩ => ⟨γ', hd, ih _ _ _ _ ?_ hi'⟩) (h w₁ h₁)⟩
    have h1 := (mem_ready.1 hm).1
    have h2 : listed.toList[i]? = some false := by
      rw [Array.getElem?_toList]
      rcases Nat.lt_or_ge i listed.size with h' | h'
      · simp [h'] at h1 ⊢; exact h1
      · simp [Nat.not_lt.2 h'] at h1
    have := unl_set listed.toList i h2
    rw [Array.toList_setIfInBounds]
    omega
end

section
variable [Payload] {P : Program} {main : Bool} {Shun : Loc → Prop} {ty : TypeId} {Wg C n Low : Nat} {Stop : Gh → Goroutine → World → Prop} {ops : Array Oper} {K : Gh → Act → World → Prop} {b : Frame} {k : List Item} {cs : List Frame} {m : Nat} {γ γ' : Gh} {w w' : World} {es : Array Event}
theorem DX.draw (main : Bool) (γ : Gh) (w : World) : DX Shun ty Wg C n Low main γ w { w with drawn := w.drawn + 1 } #[] γ :=
  ⟨⟨rfl, rfl, rfl, Nat.le_refl _, fun _ _ _ _ _ => rfl, id, id, fun _ _ => rfl⟩, rfl, fun _ h => .inl h, rfl, rfl, fun e he => by simp at he⟩
/-- A region that asks the tape for its order. -/
theorem GX.region_draw {id : Nat} {a : Act} (hk : b.kind ≠ .early) (hK : ∀ γ a w, K γ a w → GX P main (RX ty Wg C n Low) (DX Shun ty Wg C n Low main) Stop m γ (G (b.at a (.inRegion ops [] :: k)) cs) w)
    (h : ∀ md w₁, RX ty Wg C n Low γ w w₁ → AnyX P (RX ty Wg C n Low) (DX Shun ty Wg C n Low main) b.fn md ops K ops.size (Array.replicate ops.size false) γ a { w₁ with drawn := w₁.drawn + 1 }) :
    GX P main (RX ty Wg C n Low) (DX Shun ty Wg C n Low main) Stop (ops.size + m + 1) γ (G (b.at a (.code (.region id ops true) :: k)) cs) w := by
  refine GX.step rfl fun w₁ h₁ => ?_
  rw [stepG_region_draw]
  refine ⟨γ, DX.draw main γ w₁, ?_⟩
  unfold Region.schedule Region.linearise
  split
  · exact anyX_sound hk (fun γ w => RX.refl γ w) hK _ _ _ _ _ _ (h _ _ h₁)
  · exact anyX_sound hk (fun γ w => RX.refl γ w) hK _ _ _ _ _ _ (h _ _ h₁)
/-- A step that only reads. -/
theorem DX.reads (h : ∀ e ∈ es, EvX Shun Wg C Low main γ e ∧ e.loc ≠ .mark .disable ∧ e.loc ≠ .mark .enable) : DX Shun ty Wg C n Low main γ w w es γ :=
  DX.quiet rfl rfl (deafBehind_still (fun e he => (h e he).2) _).symm fun e he => (h e he).1
omit [Payload] in
theorem evX_cell {γ : Gh} (a : Addr) (wr : Bool) (h : RtX C γ (.cell a) ∨ (RoX Shun Wg C Low (.cell a) ∧ wr = false)) : EvX Shun Wg C Low main γ ⟨.cell a, wr, false⟩ ∧ (⟨.cell a, wr, false⟩ : Event).loc ≠ .mark .disable ∧ (⟨.cell a, wr, false⟩ : Event).loc ≠ .mark .enable := by
  refine ⟨⟨fun x hx => ?_, by simp⟩, by simp, by simp⟩
  simp only [ofEvent_cell0, MemAct.touch?, Option.some.injEq] at hx
  subst hx
  exact .inr h
/-- A new block. -/
theorem DX.new (hC : C < w.heap.size) (hW : Wg < w.heap.size) (o : Obj) : DX Shun ty Wg C n Low main γ w (w.alloc o) #[] ⟨fun b => γ.own b ∨ b = w.heap.size, γ.mc, γ.deaf⟩ := by
  refine ⟨⟨rfl, rfl, rfl, by simp, fun b hb _ _ _ => Below.heap_alloc _ _ _ (by omega), fun ⟨st, sm, h⟩ => ⟨st, sm, h.of_block (Below.heap_alloc _ _ _ (by omega))⟩, fun ⟨cs, h1, h2⟩ => ⟨cs, (Below.heap_alloc _ _ _ (by omega)).trans h1, h2⟩, fun i _ => cell_of_block (Below.heap_alloc _ _ _ (by omega)) i⟩,
    Below.heap_alloc _ _ _ (by omega), fun b hb => hb.imp id fun e => ?_, rfl, rfl, fun e he => by simp at he⟩
  have e1 : b = w.heap.size := e
  subst e1
  simp
end
end Go.Proofs.YtafhpbghogdipaaGreatDoor
