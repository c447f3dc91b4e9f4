/- The reference's l3Minimize: it makes a short list of short rows. -/
import Derived.Test.YtiepoadnncnbkaaSqS
import Derived.Test.YtiepoadnncnbkaaFam5
namespace Go.Proofs.Ytiepoadnncnbkaa
open Go.RowKit
set_option maxHeartbeats 8000000
set_option linter.unusedVariables false

theorem own_emptyq {w : World} {H B : Nat} (hH : w.heap.size = H) (hB : B ≤ H) : OwnI (w.alloc (.cells #[] 3)) B (.slice (some ⟨H, 0, none⟩) 0 0) [] := by
  subst hH
  exact owns_empty w _ hB
/-- The call has made a short list of short rows. -/
def SmRes (w : World) (e : Ending) (w' : World) : Prop := ∃ v rows, e = .returned v ∧ OwnM w' w.heap.size v rows ∧ (rows.length ≤ 64 ∧ ∀ z ∈ rows, Short z) ∧ Below w.heap.size w w'
theorem short_snoc {rows : List (List Int)} {z : List Int} (h : ∀ y ∈ rows, Short y) (hz : Short z) : ∀ y ∈ rows ++ [z], Short y := by
  intro y hy
  rcases List.mem_append.1 hy with h1 | h1
  · exact h y h1
  · rw [List.mem_singleton.1 h1]; exact hz
theorem Hd.below {w w' : World} {B K : Nat} {v u : Value} {z : List Int} (h : Hd w B v u z) (hb : Below K w w') (hK : w.heap.size ≤ K) : Hd w' B v u z :=
  h.step (R := 0) (row := none) ⟨hb.os, hb.tape, hb.output, hb.size, fun i hi _ => hb.block i (by omega)⟩ (fun r e => by cases e) (.inl rfl)
theorem row_drop {w : World} {B b off : Nat} {z : List Int} {j : Nat} (h : Row w B (some ⟨b, off, none⟩) (z.map (Value.int .i64))) : Row w B (some ⟨b, off + j, none⟩) ((z.drop j).map (Value.int .i64)) := by
  intro hne
  obtain ⟨b', off', e, hlt, hc⟩ := h (by intro e; have : z = [] := by simpa using e
                                         rw [this] at hne; simp at hne)
  cases e
  refine ⟨b, off + j, rfl, hlt, fun i u hu => ?_⟩
  rw [List.getElem?_map, List.getElem?_drop] at hu
  have := hc (j + i) u (by rw [List.getElem?_map]; exact hu)
  rwa [Nat.add_assoc]

/-- Where the tail behind element j begins (behind the array's end it does not point). -/
def tailA (b off c j : Nat) : Option Addr := if c = j + 1 then some ⟨b, off, none⟩ else some ⟨b, off + (j + 1), none⟩
theorem tail_run (L c j b off : Nat) (h : j + 1 ≤ L) (w : World) : (Instr.slice 27 (.slice (some ⟨b, off, none⟩) L c) (some (.int .i64 ((j : Int) + 1))) none none).run Try.prog w = .ok (.slice (tailA b off c j) (L - (j + 1)) (c - (j + 1))) w := by
  have h0 : (0 : Int) ≤ (j : Int) + 1 := by omega
  have h1 : (j : Int) + 1 ≤ (L : Int) := by omega
  have h2 : ((j : Int) + 1).toNat = j + 1 := by omega
  rw [run_slice_l _ _ _ _ _ Try.underlying27 _ _ h0 h1]
  unfold tailA sliced
  rw [h2]
  by_cases hc : c = j + 1
  · rw [if_pos hc]
    simp only [if_pos hc]
    go_simp
  · rw [if_neg hc]
    simp only [if_neg hc, Option.map_some]
    go_simp
theorem tail_exec {ρ : Operand → Value} {x l : Operand} {L c j b off : Nat} {o : Oper} (ho : o.op = .slice 27 x (some l) none none) (hx : ρ x = .slice (some ⟨b, off, none⟩) L c) (hl : ρ l = .int .i64 ((j : Int) + 1)) (h : j + 1 ≤ L) (w : World) :
    (execOp ρ o).run Try.prog w = .ok (.value (.slice (tailA b off c j) (L - (j + 1)) (c - (j + 1)))) w := by
  have hr := tail_run L c j b off h w
  unfold execOp
  simp only [ho, Option.map_some, Option.map_none, hx, hl, Sem.run_bind, run_sliceAt_slice _ _ _ _ _ _ Try.underlying27, hr]
  rfl
theorem tail_some (b off c j : Nat) : ∃ o, tailA b off c j = some ⟨b, o, none⟩ := by
  unfold tailA
  split
  · exact ⟨_, rfl⟩
  · exact ⟨_, rfl⟩
theorem tail_row {w : World} {B b off c L : Nat} {z : List Int} {j : Nat} (h : Row w B (some ⟨b, off, none⟩) (z.map (Value.int .i64))) (hl : z.length = L) (hc : L ≤ c) : Row w B (tailA b off c j) ((z.drop (j + 1)).map (Value.int .i64)) := by
  unfold tailA
  split
  · rw [List.drop_of_length_le (by omega)]
    exact Row.empty
  · exact row_drop h

theorem l3Minimize_any (A : Option Addr) (n c : Nat) (zss : List (List Int)) (w : World) (h : Mat w w.heap.size A n zss) (hz : SzOk zss n) : Calls Try.prog 58 #[.slice A n c] w (SmRes w) := by
  have HM := Lib.hid h
  have HZ := Lib.hid hz
  clear h hz
  have HHas := Lib.hid (fun (W : World) (hb : Below w.heap.size w W) (ys : List Int) (A3 : Option Addr) (k3 c3 : Nat) (h3 : Row W W.heap.size A3 (ys.map (Value.int .i64))) (hl : ys.length = k3) (hk3 : k3 ≤ 1048576) =>
    l3Has_any A n c zss A3 k3 c3 ys W ((HM.out.below hb).more hb.size) HZ.out h3 hl hk3)
  go_enter Try.func58, Try.ntmps58
  go_wp2_with fail
  go_loopw [3, 4] (fun u i wr => ∃ (k : Nat) (rows : List (List Int)), k ≤ 64 ∧ i = .int .i64 k ∧ OwnM wr w.heap.size u rows ∧ rows.length ≤ k ∧ (∀ z ∈ rows, Short z) ∧ Below w.heap.size w wr) (fun _ i _ => 64 - (intOf i).toNat)
  case atStart => exact ⟨0, [], Nat.zero_le _, rfl, OwnM.empty w (Nat.le_refl _), Nat.le_refl _, (fun z h => by cases h), (Below.refl _ _).alloc (Nat.le_refl _) _⟩
  case round =>
    obtain ⟨k, rows, hk, rfl, hown, hrl, hsh, hB⟩ := hrel
    have HO := Lib.hid hown
    have HSh := Lib.hid hsh
    clear hown hsh
    go_wp2_with fail
    refine (l1Masks_any _).mono ?_
    rintro e wq ⟨rfl, rfl⟩
    by_cases hkn : k < 64
    · have i1 : (k : Int) < 64 := by omega
      go_wp2_with fail
      refine (l1OfMask_any k (by omega) _).mono ?_
      rintro e w2 ⟨s, rfl, ho2, hb2⟩
      have HO2 := Lib.hid (HO.out.below hb2 (Nat.le_refl _))
      have hlt := HO.out.lt
      have HHd := Lib.hid (Hd.of_own (v := _) ho2 hB.size hlt)
      replace hb2 := hB.trans (hb2.mono hB.size)
      obtain ⟨A3, c3, rfl, hcap, hmax, hr3⟩ := owns_row ho2
      have HR3 := Lib.hid hr3
      have hL6 := ofTo_len k 6
      obtain ⟨L, hL⟩ : ∃ L, (ofTo k 6).length = L := ⟨_, rfl⟩
      have HL := Lib.hid hL
      rw [hL] at hcap hL6 HHd ⊢
      clear ho2 hlt hr3 hL HO hB
      have HH1 := Lib.hid (HHas.out w2 hb2 (ofTo k 6) A3 L c3 HR3.out HL.out (by omega))
      go_wp2_with fail
      refine HH1.out.mono ?_
      rintro e wq ⟨rfl, rfl⟩
      go_wp2_with fail
      go_loopw [6, 7] (fun q i wr => ∃ (j : Nat) (p : Bool), j ≤ L ∧ i = .int .i64 j ∧ q = .bool p ∧ Below wq.heap.size wq wr) (fun _ i _ => L - (intOf i).toNat)
      case atStart => exact ⟨0, _, Nat.zero_le _, rfl, rfl, Below.refl _ _⟩
      case round =>
        obtain ⟨j, p, hj, rfl, rfl, hB3⟩ := hrel
        by_cases hjl : j < L
        · have j1 : (j : Int) < L := by omega
          cases p
          · go_wp2
            go_roundw
            case rel => exact ⟨k + 1, rows, by omega, by go_num, HO2.out.below hB3 (Nat.le_refl _), by omega, HSh.out, hb2.trans (hB3.mono hb2.size)⟩
            case measure => simp [intOf]; omega
          · obtain ⟨b, off, hAe, hblt, _⟩ := (HR3.out.src HL.out) j hjl
            subst hAe
            have q1 : (0 : Int) ≤ (j : Int) := by omega
            have q2 : (j : Int) ≤ (c3 : Int) := by omega
            have q3 : wrap64 ((j : Int) + 1) = (j : Int) + 1 := IntWalk.wrap64_in _ (by omega)
            have q3w : IntKind.i64.wrap ((j : Int) + 1) = (j : Int) + 1 := IntWalk.i64_in _ (by omega)
            have q4 : (0 : Int) ≤ (j : Int) + 1 := by omega
            have q5 : (j : Int) + 1 ≤ (L : Int) := by omega
            have q6 : j ≤ c3 := by omega
            obtain ⟨W, hW⟩ : ∃ W, W = wr := ⟨_, rfl⟩
            have hRW : Row W W.heap.size (some ⟨b, off, none⟩) ((ofTo k 6).map (Value.int .i64)) := by rw [hW]; exact (HR3.out.below hB3).more hB3.size
            have HBW : Hid (Below wq.heap.size wq W) := by rw [hW]; exact Lib.hid hB3
            have hT := hRW.take j
            rw [← List.map_take] at hT
            have HTake := Lib.hid hT
            have HLt : Hid (((ofTo k 6).take j).length = j) := Lib.hid (by rw [List.length_take, HL.out]; omega)
            have HLd : Hid (((ofTo k 6).drop (j + 1)).length = L - (j + 1)) := Lib.hid (by rw [List.length_drop, HL.out])
            rw [← hW]
            clear hW hT
            have q7 : j + 1 ≤ L := hjl
            have HDrop := Lib.hid (tail_row (j := j) hRW HL.out hcap)
            have HNd : Hid (tailA b off c3 j = none → L - (j + 1) = 0) := Lib.hid (fun e => by obtain ⟨o, ho⟩ := tail_some b off c3 j; rw [ho] at e; cases e)
            go_wp2_with fail
            refine wp_region_held_drew (S := fun y => Below W.heap.size W y) (by kernel_rfl) ?_ (fun hHeld0 => ?_)
            · (try dsimp only); (first | assumption | (first | assumption | (repeat (first | (with_reducible exact Below.refl _ _) | (with_reducible assumption) | (with_reducible refine below_drewN ?_ _) | (with_reducible refine Below.drew ?_) | (with_reducible refine Below.alloc ?_ (by (first | omega | (show _ < _; omega) | (simp; omega) | (simp; done))) _) | (with_reducible refine Below.setCell ?_ (by (first | omega | (show _ < _; omega) | (simp; omega) | (simp; done))) _) | (with_reducible refine Below.trans ?_ (Below.mono (by with_reducible assumption) (by (first | omega | (show _ < _; omega) | (simp; omega) | (simp; done))))) | (with_reducible refine below_grown ?_ (by with_reducible assumption) (by (first | omega | (show _ < _; omega) | (simp; omega) | (simp; done))) (by (first | omega | (show _ < _; omega) | (simp; omega) | (simp; done))))))))
            refine wpAnyH_take (i := 1) (oi := { dst := some 30, op := Op.move (Operand.tmp 5), type := 27, pos := "l3_family.go:37", after := #[], guard := none }) (v := ?_) rfl (by kernel_rfl) (by kernel_rfl) (by kernel_rfl) (fun _ _ _ h => h) (Or.inl ⟨by rfl, ?_⟩) (by assumption) ?_
            rotate_left
            · (intro w hSw; (try dsimp only at hSw); go_simp; try (with_reducible rfl))
            try simp only [Act.put, List.setIfInBounds_toArray, List.set_cons_zero, List.set_cons_succ]
            refine wpAnyH_take (i := 2) (oi := { dst := some 31, op := Op.move (Operand.tmp 7), type := 3, pos := "l3_family.go:37", after := #[], guard := none }) (v := ?_) rfl (by kernel_rfl) (by kernel_rfl) (by kernel_rfl) (fun _ _ _ h => h) (Or.inl ⟨by rfl, ?_⟩) (by assumption) ?_
            rotate_left
            · (intro w hSw; (try dsimp only at hSw); go_simp; try (with_reducible rfl))
            try simp only [Act.put, List.setIfInBounds_toArray, List.set_cons_zero, List.set_cons_succ]
            refine wpAnyH_take (i := 3) (oi := { dst := some 32, op := Op.slice 27 (Operand.tmp 30) none (some (Operand.tmp 31)) none, type := 27, pos := "l3_family.go:37", after := #[{ on := 1, ground := Ground.data }, { on := 2, ground := Ground.data }], guard := none }) (v := ?_) rfl (by kernel_rfl) (by kernel_rfl) (by kernel_rfl) (fun _ _ _ h => h) (Or.inl ⟨by rfl, ?_⟩) (by assumption) ?_
            rotate_left
            · (intro w hSw; (try dsimp only at hSw); go_simp; try (with_reducible rfl))
            try simp only [Act.put, List.setIfInBounds_toArray, List.set_cons_zero, List.set_cons_succ]
            refine wpAnyH_take (i := 5) (oi := { dst := some 34, op := Op.move (Operand.tmp 5), type := 27, pos := "l3_family.go:37", after := #[], guard := none }) (v := ?_) rfl (by kernel_rfl) (by kernel_rfl) (by kernel_rfl) (fun _ _ _ h => h) (Or.inl ⟨by rfl, ?_⟩) (by assumption) ?_
            rotate_left
            · (intro w hSw; (try dsimp only at hSw); go_simp; try (with_reducible rfl))
            try simp only [Act.put, List.setIfInBounds_toArray, List.set_cons_zero, List.set_cons_succ]
            refine wpAnyH_take (i := 6) (oi := { dst := some 35, op := Op.move (Operand.tmp 7), type := 3, pos := "l3_family.go:37", after := #[], guard := none }) (v := ?_) rfl (by kernel_rfl) (by kernel_rfl) (by kernel_rfl) (fun _ _ _ h => h) (Or.inl ⟨by rfl, ?_⟩) (by assumption) ?_
            rotate_left
            · (intro w hSw; (try dsimp only at hSw); go_simp; try (with_reducible rfl))
            try simp only [Act.put, List.setIfInBounds_toArray, List.set_cons_zero, List.set_cons_succ]
            refine wpAnyH_take (i := 7) (oi := { dst := some 36, op := Op.binOp BinOp.add 3 (Operand.tmp 35) (Operand.const (Value.int IntKind.i64 1)) 3, type := 3, pos := "l3_family.go:37", after := #[{ on := 6, ground := Ground.data }], guard := none }) (v := ?_) rfl (by kernel_rfl) (by kernel_rfl) (by kernel_rfl) (fun _ _ _ h => h) (Or.inl ⟨by rfl, ?_⟩) (by assumption) ?_
            rotate_left
            · (intro w hSw; (try dsimp only at hSw); go_simp; try (with_reducible rfl))
            try simp only [Act.put, List.setIfInBounds_toArray, List.set_cons_zero, List.set_cons_succ]
            refine wpAnyH_take (i := 8) (oi := { dst := some 37, op := Op.slice 27 (Operand.tmp 34) (some (Operand.tmp 36)) none none, type := 27, pos := "l3_family.go:37", after := #[{ on := 5, ground := Ground.data }, { on := 7, ground := Ground.data }], guard := none }) (v := .slice (tailA b off c3 j) (L - (j + 1)) (c3 - (j + 1))) rfl (by kernel_rfl) (by kernel_rfl) (by kernel_rfl) (fun _ _ _ h => h) (Or.inl ⟨by rfl, ?_⟩) (by assumption) ?_
            · (intro w hSw; exact tail_exec rfl (by rfl) (by first | rfl | exact congrArg (Value.int .i64) q3w) q7 w)
            try simp only [Act.put, List.setIfInBounds_toArray, List.set_cons_zero, List.set_cons_succ]
            refine wpAnyH_ready (rs := [0]) (by kernel_rfl) (by simp) ?_
            refine AllReadyH.cons (o := { dst := some 29, op := Op.buildSlice 27 0 #[], type := 27, pos := "l3_family.go:37", after := #[], guard := none }) rfl (fun K hK => ?_) ?_
            · skip -- [] 0
              go_simp
              refine hK.out _ _ ?_ (fun hHeld1 => ?_)
              · (try dsimp only); (first | assumption | (first | assumption | (repeat (first | (with_reducible exact Below.refl _ _) | (with_reducible assumption) | (with_reducible refine below_drewN ?_ _) | (with_reducible refine Below.drew ?_) | (with_reducible refine Below.alloc ?_ (by (first | omega | (show _ < _; omega) | (simp; omega) | (simp; done))) _) | (with_reducible refine Below.setCell ?_ (by (first | omega | (show _ < _; omega) | (simp; omega) | (simp; done))) _) | (with_reducible refine Below.trans ?_ (Below.mono (by with_reducible assumption) (by (first | omega | (show _ < _; omega) | (simp; omega) | (simp; done))))) | (with_reducible refine below_grown ?_ (by with_reducible assumption) (by (first | omega | (show _ < _; omega) | (simp; omega) | (simp; done))) (by (first | omega | (show _ < _; omega) | (simp; omega) | (simp; done))))))))
              clear hK K
              clear hHeld0
              try simp only [Act.put, List.setIfInBounds_toArray, List.set_cons_zero, List.set_cons_succ]
              refine wpAnyH_ready (rs := [4]) (by kernel_rfl) (by simp) ?_
              refine AllReadyH.cons (o := { dst := some 33, op := Op.call { callee := Callee.builtin Builtin.append, args := #[Operand.tmp 29, Operand.tmp 32], argTypes := #[27, 27] }, type := 27, pos := "l3_family.go:37", after := #[{ on := 0, ground := Ground.data }, { on := 3, ground := Ground.data }], guard := none }) rfl (fun K hK => ?_) ?_
              · skip -- [0] 4
                (apply step_append_ints (s := .tmp 29) (x := .tmp 32) (B := W.heap.size) (zs := []) (ys := (ofTo k 6).take j); (focus rfl); (focus rfl); (focus rfl); (focus (first | exact own_emptyq (by simp) (by first | (simp; done) | (simp; omega) | omega) | exact own_alloc (own_emptyq (by simp) (by first | (simp; done) | (simp; omega) | omega)) _)); (focus rfl); (focus (refine ⟨W.heap.size, HTake.out.below ?_⟩; (first | assumption | (repeat (first | (with_reducible exact Below.refl _ _) | (with_reducible assumption) | (with_reducible refine below_drewN ?_ _) | (with_reducible refine Below.drew ?_) | (with_reducible refine Below.alloc ?_ (by (first | omega | (show _ < _; omega) | (simp; omega) | (simp; done))) _) | (with_reducible refine Below.setCell ?_ (by (first | omega | (show _ < _; omega) | (simp; omega) | (simp; done))) _) | (with_reducible refine Below.trans ?_ (Below.mono (by with_reducible assumption) (by (first | omega | (show _ < _; omega) | (simp; omega) | (simp; done))))) | (with_reducible refine below_grown ?_ (by with_reducible assumption) (by (first | omega | (show _ < _; omega) | (simp; omega) | (simp; done))) (by (first | omega | (show _ < _; omega) | (simp; omega) | (simp; done))))))))); (focus (exact HLt.out)); (focus (exact (fun e => by cases e))); (focus (first | (simp; done) | omega | (simp; omega))); (focus (first | (simp; done) | omega | (simp; omega))); (focus (exact ((show Below W.heap.size W _ from (by (first | assumption | (repeat (first | (with_reducible exact Below.refl _ _) | (with_reducible assumption) | (with_reducible refine below_drewN ?_ _) | (with_reducible refine Below.drew ?_) | (with_reducible refine Below.alloc ?_ (by (first | omega | (show _ < _; omega) | (simp; omega) | (simp; done))) _) | (with_reducible refine Below.setCell ?_ (by (first | omega | (show _ < _; omega) | (simp; omega) | (simp; done))) _) | (with_reducible refine Below.trans ?_ (Below.mono (by with_reducible assumption) (by (first | omega | (show _ < _; omega) | (simp; omega) | (simp; done))))) | (with_reducible refine below_grown ?_ (by with_reducible assumption) (by (first | omega | (show _ < _; omega) | (simp; omega) | (simp; done))) (by (first | omega | (show _ < _; omega) | (simp; omega) | (simp; done))))))))).size))); intro v8 w8 hown8 hb8 hg8 hat8; have hbt8 : Below W.heap.size W w8 := Below.trans (by (first | assumption | (repeat (first | (with_reducible exact Below.refl _ _) | (with_reducible assumption) | (with_reducible refine below_drewN ?_ _) | (with_reducible refine Below.drew ?_) | (with_reducible refine Below.alloc ?_ (by (first | omega | (show _ < _; omega) | (simp; omega) | (simp; done))) _) | (with_reducible refine Below.setCell ?_ (by (first | omega | (show _ < _; omega) | (simp; omega) | (simp; done))) _) | (with_reducible refine Below.trans ?_ (Below.mono (by with_reducible assumption) (by (first | omega | (show _ < _; omega) | (simp; omega) | (simp; done))))) | (with_reducible refine below_grown ?_ (by with_reducible assumption) (by (first | omega | (show _ < _; omega) | (simp; omega) | (simp; done))) (by (first | omega | (show _ < _; omega) | (simp; omega) | (simp; done)))))))) hb8; have hsz8 := hbt8.size; simp only [List.nil_append] at hown8)
                refine hK.out _ _ ?_ (fun hHeld2 => ?_)
                · (try dsimp only); (first | assumption | (first | assumption | (repeat (first | (with_reducible exact Below.refl _ _) | (with_reducible assumption) | (with_reducible refine below_drewN ?_ _) | (with_reducible refine Below.drew ?_) | (with_reducible refine Below.alloc ?_ (by (first | omega | (show _ < _; omega) | (simp; omega) | (simp; done))) _) | (with_reducible refine Below.setCell ?_ (by (first | omega | (show _ < _; omega) | (simp; omega) | (simp; done))) _) | (with_reducible refine Below.trans ?_ (Below.mono (by with_reducible assumption) (by (first | omega | (show _ < _; omega) | (simp; omega) | (simp; done))))) | (with_reducible refine below_grown ?_ (by with_reducible assumption) (by (first | omega | (show _ < _; omega) | (simp; omega) | (simp; done))) (by (first | omega | (show _ < _; omega) | (simp; omega) | (simp; done))))))))
                clear hK K
                clear hHeld1
                try simp only [Act.put, List.setIfInBounds_toArray, List.set_cons_zero, List.set_cons_succ]
                refine wpAnyH_ready (rs := [9]) (by kernel_rfl) (by simp) ?_
                refine AllReadyH.cons (o := { dst := some 38, op := Op.call { callee := Callee.builtin Builtin.append, args := #[Operand.tmp 33, Operand.tmp 37], argTypes := #[27, 27] }, type := 27, pos := "l3_family.go:37", after := #[{ on := 4, ground := Ground.data }, { on := 8, ground := Ground.data }, { on := 4, ground := Ground.chain }], guard := none }) rfl (fun K hK => ?_) ?_
                · skip -- [0, 4] 9
                  (apply step_append_ints (s := .tmp 33) (x := .tmp 37) (B := W.heap.size) (zs := (ofTo k 6).take j) (ys := (ofTo k 6).drop (j + 1)); (focus rfl); (focus rfl); (focus rfl); (focus (first | exact hown8 | exact own_alloc hown8 _)); (focus rfl); (focus (refine ⟨W.heap.size, HDrop.out.below ?_⟩; (first | assumption | (repeat (first | (with_reducible exact Below.refl _ _) | (with_reducible assumption) | (with_reducible refine below_drewN ?_ _) | (with_reducible refine Below.drew ?_) | (with_reducible refine Below.alloc ?_ (by (first | omega | (show _ < _; omega) | (simp; omega) | (simp; done))) _) | (with_reducible refine Below.setCell ?_ (by (first | omega | (show _ < _; omega) | (simp; omega) | (simp; done))) _) | (with_reducible refine Below.trans ?_ (Below.mono (by with_reducible assumption) (by (first | omega | (show _ < _; omega) | (simp; omega) | (simp; done))))) | (with_reducible refine below_grown ?_ (by with_reducible assumption) (by (first | omega | (show _ < _; omega) | (simp; omega) | (simp; done))) (by (first | omega | (show _ < _; omega) | (simp; omega) | (simp; done))))))))); (focus (exact HLd.out)); (focus (exact HNd.out)); (focus (first | (simp; done) | omega | (simp; omega))); (focus (first | (simp; done) | omega | (simp; omega))); (focus (exact ((show Below W.heap.size W _ from (by (first | assumption | (repeat (first | (with_reducible exact Below.refl _ _) | (with_reducible assumption) | (with_reducible refine below_drewN ?_ _) | (with_reducible refine Below.drew ?_) | (with_reducible refine Below.alloc ?_ (by (first | omega | (show _ < _; omega) | (simp; omega) | (simp; done))) _) | (with_reducible refine Below.setCell ?_ (by (first | omega | (show _ < _; omega) | (simp; omega) | (simp; done))) _) | (with_reducible refine Below.trans ?_ (Below.mono (by with_reducible assumption) (by (first | omega | (show _ < _; omega) | (simp; omega) | (simp; done))))) | (with_reducible refine below_grown ?_ (by with_reducible assumption) (by (first | omega | (show _ < _; omega) | (simp; omega) | (simp; done))) (by (first | omega | (show _ < _; omega) | (simp; omega) | (simp; done))))))))).size))); intro v9 w9 hown9 hb9 hg9 hat9; have hbt9 : Below W.heap.size W w9 := Below.trans (by (first | assumption | (repeat (first | (with_reducible exact Below.refl _ _) | (with_reducible assumption) | (with_reducible refine below_drewN ?_ _) | (with_reducible refine Below.drew ?_) | (with_reducible refine Below.alloc ?_ (by (first | omega | (show _ < _; omega) | (simp; omega) | (simp; done))) _) | (with_reducible refine Below.setCell ?_ (by (first | omega | (show _ < _; omega) | (simp; omega) | (simp; done))) _) | (with_reducible refine Below.trans ?_ (Below.mono (by with_reducible assumption) (by (first | omega | (show _ < _; omega) | (simp; omega) | (simp; done))))) | (with_reducible refine below_grown ?_ (by with_reducible assumption) (by (first | omega | (show _ < _; omega) | (simp; omega) | (simp; done))) (by (first | omega | (show _ < _; omega) | (simp; omega) | (simp; done)))))))) hb9; have hsz9 := hbt9.size)
                  refine hK.out _ _ ?_ (fun hHeld3 => ?_)
                  · (try dsimp only); (first | assumption | (first | assumption | (repeat (first | (with_reducible exact Below.refl _ _) | (with_reducible assumption) | (with_reducible refine below_drewN ?_ _) | (with_reducible refine Below.drew ?_) | (with_reducible refine Below.alloc ?_ (by (first | omega | (show _ < _; omega) | (simp; omega) | (simp; done))) _) | (with_reducible refine Below.setCell ?_ (by (first | omega | (show _ < _; omega) | (simp; omega) | (simp; done))) _) | (with_reducible refine Below.trans ?_ (Below.mono (by with_reducible assumption) (by (first | omega | (show _ < _; omega) | (simp; omega) | (simp; done))))) | (with_reducible refine below_grown ?_ (by with_reducible assumption) (by (first | omega | (show _ < _; omega) | (simp; omega) | (simp; done))) (by (first | omega | (show _ < _; omega) | (simp; omega) | (simp; done))))))))
                  clear hK K
                  clear hHeld2
                  try simp only [Act.put, List.setIfInBounds_toArray, List.set_cons_zero, List.set_cons_succ]
                  refine wpAnyH_take (i := 10) (oi := { dst := some 8, op := Op.assign (Operand.tmp 38), type := 27, pos := "l3_family.go:37", after := #[{ on := 9, ground := Ground.data }, { on := 9, ground := Ground.chain }, { on := 0, ground := Ground.phase }, { on := 1, ground := Ground.phase }, { on := 2, ground := Ground.phase }, { on := 3, ground := Ground.phase }, { on := 4, ground := Ground.phase }, { on := 5, ground := Ground.phase }, { on := 6, ground := Ground.phase }, { on := 7, ground := Ground.phase }, { on := 8, ground := Ground.phase }, { on := 9, ground := Ground.phase }], guard := none }) (v := ?_) rfl (by kernel_rfl) (by kernel_rfl) (by kernel_rfl) (fun _ _ _ h => h) (Or.inl ⟨by rfl, ?_⟩) (by assumption) ?_
                  rotate_left
                  · (intro w hSw; (try dsimp only at hSw); go_simp; try (with_reducible rfl))
                  try simp only [Act.put, List.setIfInBounds_toArray, List.set_cons_zero, List.set_cons_succ]
                  refine wpAnyH_done (by kernel_rfl) ?_ _
                  clear hown8 hb8 hb9 hg8 hg9 hat8 hat9 hsz8
                  obtain ⟨ys, hys⟩ : ∃ ys, ys = (ofTo k 6).take j ++ (ofTo k 6).drop (j + 1) := ⟨_, rfl⟩
                  have hl5 : ys.length ≤ 6 := by rw [hys]; have := HL.out; simp; omega
                  rw [← hys] at hown9
                  clear hys
                  obtain ⟨A5, c5, rfl, _, _, hr5⟩ := owns_row hown9
                  obtain ⟨m5, hm5⟩ : ∃ m5, ys.length = m5 := ⟨_, rfl⟩
                  have HM5 := Lib.hid hm5
                  rw [hm5] at hl5 ⊢
                  clear hm5
                  have hbv : Below wq.heap.size wq w9 := HBW.out.trans (hbt9.mono HBW.out.size)
                  have hbq : Below w.heap.size w w9 := hb2.trans (hbv.mono hb2.size)
                  have HH2 := Lib.hid (HHas.out w9 hbq ys A5 m5 c5 hr5 HM5.out (by omega))
                  clear hown9 hr5
                  go_wp2_with fail
                  refine HH2.out.mono ?_
                  rintro e wv ⟨rfl, rfl⟩
                  go_wp2
                  go_roundw
                  case rel => exact ⟨j + 1, _, by omega, by go_num, rfl, hbv⟩
                  case measure => simp [intOf]; omega
                exact AllReadyH.nil
              exact AllReadyH.nil
            exact AllReadyH.nil
        · have j1 : ¬ (j : Int) < L := by omega
          cases p
          · go_wp2
            go_roundw
            case rel => exact ⟨k + 1, rows, by omega, by go_num, HO2.out.below hB3 (Nat.le_refl _), by omega, HSh.out, hb2.trans (hB3.mono hb2.size)⟩
            case measure => simp [intOf]; omega
          · have ho6 := HO2.out.below hB3 (Nat.le_refl _)
            have hh6 := HHd.out.below hB3 (Nat.le_refl _)
            have hs6 : w.heap.size ≤ wr.heap.size := Nat.le_trans hb2.size hB3.size
            go_wp2_with (at_builtin; refine wpl_append_row rfl _ _ (by rfl) w.heap.size _ rows _ (ofTo k 6) (by rfl) ho6 hh6 (by rfl) (by omega) hs6 ?_; intro v5 w5 hown5 hb5 _)
            go_roundw
            case rel => exact ⟨k + 1, rows ++ [ofTo k 6], by omega, by go_num, hown5, by simp; omega, short_snoc HSh.out (short_of k), (hb2.trans (hB3.mono hb2.size)).trans hb5⟩
            case measure => simp [intOf]; omega
    · obtain rfl : k = 64 := by omega
      go_wp2
      go_ret
      exact ⟨_, rows, rfl, HO.out, ⟨hrl, HSh.out⟩, hB⟩
end Go.Proofs.Ytiepoadnncnbkaa
