/- The dual of a tree: the program's. -/
import Derived.Test.YtbokieephhffnaaDoorExT
import Derived.Deep.AppendLies
import Derived.Deep.RegionLaw
namespace Go.Proofs.YtbokieephhffnaaDoor
open Go.RowKit
set_option maxHeartbeats 8000000
set_option linter.unusedVariables false

mutual
def dualT : Tr → Tr
  | .leaf n => .leaf n
  | .gate n ts => .gate (ts.length - n + 1) (dualL ts)
def dualL : List Tr → List Tr
  | [] => []
  | t :: ts => dualT t :: dualL ts
end
theorem dualL_len : ∀ ts : List Tr, (dualL ts).length = ts.length
  | [] => rfl
  | t :: ts => by show (dualL ts).length + 1 = _; rw [dualL_len ts]; rfl
theorem dualL_at : ∀ (ts : List Tr) (k : Nat), (dualL ts)[k]? = (ts[k]?).map dualT
  | [], k => by simp [dualL]
  | t :: ts, 0 => by simp [dualL]
  | t :: ts, k + 1 => by show (dualT t :: dualL ts)[k + 1]? = _; simp [dualL_at ts k]
/-- The numbers of a tree that was read. -/
inductive WfD : Tr → Prop where
  | leaf {n : Nat} : n < 10 → WfD (.leaf n)
  | gate {n : Nat} {ts : List Tr} : 1 ≤ n → n ≤ ts.length → ts.length ≤ 6 → (∀ (i : Nat) t, ts[i]? = some t → WfD t) → WfD (.gate n ts)
theorem WfD.wf {t : Tr} (h : WfD t) : WfT t := by
  induction h with
  | leaf h => exact .leaf h
  | gate h1 h2 h3 _ ih => exact .gate (by omega) h3 (by omega) ih
theorem WfD.dual {t : Tr} (h : WfD t) : WfT (dualT t) := by
  induction h with
  | leaf h => exact .leaf h
  | @gate n ts h1 h2 h3 _ ih =>
    refine .gate (by omega) (by rw [dualL_len]; exact h3) (by rw [dualL_len]; omega) fun i u hu => ?_
    rw [dualL_at] at hu
    cases ht : ts[i]? with
    | none => rw [ht] at hu; cases hu
    | some t =>
      rw [ht] at hu
      simp at hu
      subst hu
      exact ih i t ht

theorem append_tree_run {W : World} {B n : Nat} {v u : Value} {vs : List Value} (hown : W.ownsRow B 50 1 v n vs) (hone : u.oneCell' = true) (hn : n ≤ 1000) (hbase : B ≤ W.heap.size) :
    ∃ v' w', (Builtin.append_ #[38, 38] 38 #[v, .slice (some ⟨W.heap.size, 0, none⟩) 1 1]).run Tryd.prog (W.alloc (.cells #[u] 50)) = .ok v' w' ∧
      w'.ownsRow B 50 1 v' (n + 1) (vs ++ [u]) ∧ Below B W w' ∧ W.grownBy w' v.ownBlock ∧ (v'.ownBlock = v.ownBlock ∨ v'.ownBlock = some (W.heap.size + 1)) := by
  obtain ⟨i0, hi, hz0, hz1, hz2⟩ := info_parts tree_info
  obtain ⟨v', w', hrun, ho', hg, _, hat⟩ := run_append_own_at (P := Tryd.prog) (W.alloc (.cells #[u] 50)) B 38 38 50 i0 .nilIface 1 16 Tryd.underlying38 hi hz0 hz1 hz2 rfl (by omega) v n vs (hown.alloc _) ⟨W.heap.size, 0, none⟩ 1 1 [u] rfl (by
      intro j u' hj
      have hj0 : j = 0 := by
        rcases Nat.eq_zero_or_pos j with h0 | h0
        · exact h0
        · rw [List.getElem?_eq_none (by simp; omega)] at hj; cases hj
      subst hj0
      simp at hj
      subst hj
      have := cell_of_row (W.alloc (.cells #[u] 50)) W.heap.size 0 #[u] 50 (0, 0) (heap_alloc_new W _)
      simp [Addr.add, this]) (by simpa using hone) (by unfold maxLen; omega) (by omega) (by simp; omega)
  exact ⟨v', w', hrun, ho', ((Below.refl B W).alloc hbase _).grown hg (by simp; omega) (fun k hk => (hown.lt k hk).1), (World.grownBy_alloc W _ _).trans hg, by simpa using hat⟩

theorem step_append_tree {W : World} {ops : Array Oper} {o : Oper} {a : Act} {K : Act → World → Prop} {Q : Exit → Act → World → Prop} {E : Prop} (hw : Region.wanted o (yielded ops a.tmps) = true) (s x : Operand)
    (ho : o.op = .call { callee := .builtin .append, args := #[s, x], argTypes := #[38, 38] }) (hty : o.type = 38)
    (B : Nat) (v u : Value) (n : Nat) (vs : List Value) (hs : a.eval s = v) (hown : W.ownsRow B 50 1 v n vs) (hx : a.eval x = .slice (some ⟨W.heap.size, 0, none⟩) 1 1)
    (hone : u.oneCell' = true) (hn : n ≤ 1000) (hbase : B ≤ W.heap.size)
    (h : ∀ v' w', w'.ownsRow B 50 1 v' (n + 1) (vs ++ [u]) → Below B W w' → W.grownBy w' v.ownBlock → (v'.ownBlock = v.ownBlock ∨ v'.ownBlock = some (W.heap.size + 1)) → K (a.put o.dst v') w') :
    if Region.wanted o (yielded ops a.tmps) = true then Oper.wp Tryd.prog o a (W.alloc (.cells #[u] 50)) K Q else E := by
  rw [if_pos hw]
  obtain ⟨v', w', hrun, ho', hb, hg, hat⟩ := append_tree_run hown hone hn hbase
  unfold Oper.wp execOp
  simp only [ho, hty, resolve, invoke, builtin, Sem.run_bind, Sem.run_pure, Result.andThen_ok, List.map_toArray, List.map_cons, List.map_nil, hs, hx, hrun]
  exact h v' w' ho' hb hg hat

/-- The state of the loop over operands: block G is the dual, its first operands are us. -/
structure DuL (Z G m : Nat) (W wr : World) (us : List Tr) (v : Value) (vs : List Value) : Prop where
  blk : wr.heap[G]? = some (.cells #[.int .i64 (m : Int), v] 40 (0, 0))
  own : wr.ownsRow (G + 1) 50 1 v us.length vs
  len : vs.length = us.length
  its : ∀ (i : Nat) (x : Value) (u : Tr), vs[i]? = some x → us[i]? = some u → IsT wr (fun b => (b < Z ∨ W.heap.size ≤ b) ∧ b ≠ G ∧ v.ownBlock ≠ some b) x u
  grw : Below W.heap.size W wr
  low : W.heap.size ≤ G
  old : Z ≤ W.heap.size
theorem DuL.push {Z G m : Nat} {W wr w1 w2 : World} {us : List Tr} {v v1 v2 : Value} {vs : List Value} {u : Tr} (D : DuL Z G m W wr us v vs) (hb1 : Below wr.heap.size wr w1) (hi1 : IsT w1 (fun b => b < Z ∨ wr.heap.size ≤ b) v1 u)
    (hown : w2.ownsRow (G + 1) 50 1 v2 (us.length + 1) (vs ++ [v1])) (hb2 : Below (G + 1) w1 w2) (hg2 : w1.grownBy w2 v.ownBlock) (hat : v2.ownBlock = v.ownBlock ∨ v2.ownBlock = some (w1.heap.size + 1)) :
    DuL Z G m W (w2.setCell ⟨G, 1, none⟩ v2) (us ++ [u]) v2 (vs ++ [v1]) := by
  have hlow := D.low
  have hold := D.old
  have hG := heap_lt D.blk
  have hz1 := hb1.size
  have hz2 := hb2.size
  have hzw := D.grw.size
  have hG1 : w1.heap[G]? = some (.cells #[.int .i64 (m : Int), v] 40 (0, 0)) := (hb1.block G hG).trans D.blk
  have hG2 : w2.heap[G]? = some (.cells #[.int .i64 (m : Int), v] 40 (0, 0)) := (hb2.block G (by omega)).trans hG1
  have hset : ∀ b, b ≠ G → (w2.setCell ⟨G, 1, none⟩ v2).heap[b]? = w2.heap[b]? := fun b hb => Below.heap_setCell w2 _ _ b hb
  have hrow : ∀ k, v.ownBlock = some k → G + 1 ≤ k ∧ k < wr.heap.size := fun k hk => D.own.lt k hk
  refine ⟨?_, ?_, by simp [D.len], fun i x t' hx ht' => ?_, ?_, hlow, hold⟩
  · simp [World.setCell, Array.getElem?_modify, hG2]
  · rw [show (us ++ [u]).length = us.length + 1 by simp]
    refine hown.kept (grown_setCell (g := G) (World.grownBy.refl w2 _) (.inl rfl) v2) ?_
    cases hv : v2.ownBlock with
    | none => exact .inl rfl
    | some k =>
      right
      intro e
      have := (hown.lt k hv).1
      cases e
      omega
  · have hnew : ∀ b, b < w1.heap.size → v.ownBlock ≠ some b → v2.ownBlock ≠ some b := by
      intro b hb hne e
      rcases hat with h | h
      · exact hne (h ▸ e)
      · rw [h] at e
        cases e
        omega
    by_cases hi : i < vs.length
    · rw [List.getElem?_append_left hi] at hx
      rw [List.getElem?_append_left (by rw [← D.len]; exact hi)] at ht'
      refine (D.its i x t' hx ht').keep fun b hb hlt' => ⟨?_, hb.1, hb.2.1, hnew b (by omega) hb.2.2⟩
      rw [hset b hb.2.1, hg2.block b (by omega) (Ne.symm hb.2.2)]
      exact hb1.block b hlt'
    · rw [List.getElem?_append_right (by omega)] at hx
      rw [List.getElem?_append_right (by rw [← D.len]; omega)] at ht'
      have hi2 : i - vs.length = 0 := by
        rcases Nat.eq_zero_or_pos (i - vs.length) with h | h
        · exact h
        · rw [List.getElem?_eq_none (by simp; omega)] at hx; cases hx
      rw [hi2] at hx
      rw [← D.len, hi2] at ht'
      simp at hx ht'
      subst hx ht'
      refine hi1.keep fun b hb hlt' => ?_
      have hne : v.ownBlock ≠ some b := by
        intro e
        have h1 := (hrow b e).1
        have h2 := (hrow b e).2
        omega
      have hnG : b ≠ G := by omega
      exact ⟨by rw [hset b hnG]; exact hg2.block b hlt' (Ne.symm hne), by omega, hnG, hnew b hlt' hne⟩
  · exact ((D.grw.trans (hb1.mono hzw)).trans (hb2.mono (by omega))).trans ((Below.refl W.heap.size w2).setCell (p := ⟨G, 1, none⟩) hlow _)

/-- How dual ends: the tree lies in old blocks below Z and in new ones. -/
def DuQ (Z : Nat) (t : Tr) (W : World) (e : Ending) (W' : World) : Prop := ∃ v, e = .returned v ∧ IsT W' (fun b => b < Z ∨ W.heap.size ≤ b) v (dualT t) ∧ Below W.heap.size W W'
theorem dual_any {w : World} {S : Nat → Prop} {v : Value} {t : Tr} (h : IsT w S v t) : WfD t → ∀ W : World, w.heap.size ≤ W.heap.size → (∀ b, b < w.heap.size → W.heap[b]? = w.heap[b]?) → Calls Tryd.prog 21 #[v] W (DuQ w.heap.size t W) := by
  induction h with
  | @leaf b n h1 h2 =>
    intro hw W hz hW
    have hbz := heap_lt h2
    have HB := Lib.hid ((hW b hbz).trans h2)
    clear h1 h2 hw hW
    go_enter Tryd.func21, Tryd.ntmps21
    go_wp2
    go_ret
    exact ⟨_, rfl, .leaf (.inl hbz) HB.out, Below.refl _ _⟩
  | @gate b rb n cap vs ts h1 h2 h3 h4 h5 h6 h7 h8 h9 ih =>
    intro hw W hz hW
    have hn1 : 1 ≤ n := by cases hw; assumption
    have hn2 : n ≤ ts.length := by cases hw; assumption
    have h66 : ts.length ≤ 6 := by cases hw; assumption
    have hwf : ∀ (i : Nat) t, ts[i]? = some t → WfD t := by cases hw; assumption
    have hblk := (hW b (heap_lt h2)).trans h2
    have hc0 : W.cell? ⟨b, 0, none⟩ = some (.int .i64 (n : Int)) := by simp [World.cell?, hblk]
    have hc1 : W.cell? ⟨b, 1, none⟩ = some (.slice (some ⟨rb, 0, none⟩) ts.length cap) := by simp [World.cell?, hblk]
    have hbz := heap_lt h2
    have hrb : rb < w.heap.size := by
      have h0 : 0 < vs.length := by omega
      exact World.block_lt_of_cell? _ _ (h7 0 _ (List.getElem?_eq_getElem h0))
    have HC := Lib.hid (fun (i : Nat) (x : Value) (hx : vs[i]? = some x) => (World.cell?_of_block (hW rb hrb) : W.cell? ⟨rb, i, none⟩ = w.cell? ⟨rb, i, none⟩).trans (h7 i x hx))
    have HIH := Lib.hid (fun (i : Nat) (x : Value) (t : Tr) (hx : vs[i]? = some x) (ht : ts[i]? = some t) (wr : World) (hB : Below W.heap.size W wr) => ih i x t hx ht (hwf i t ht) wr (Nat.le_trans hz hB.size) (fun b' hb' => (hB.block b' (by omega)).trans (hW b' hb')))
    obtain ⟨L, hL⟩ : ∃ L, ts.length = L := ⟨_, rfl⟩
    rw [hL] at hc1 h4 h6 h9 h66 hn2
    have HL := Lib.hid hL
    have H6 := Lib.hid h6
    unfold maxLen at h5
    have hrbW : rb < W.heap.size := by omega
    have hbW : b < W.heap.size := by omega
    obtain ⟨m, hm⟩ : ∃ m, L - n + 1 = m := ⟨_, rfl⟩
    have HM := Lib.hid hm
    have j1 : IntKind.i64.wrap ((L : Int) - n) = (L : Int) - n := IntWalk.i64_in _ (by omega)
    have j2 : IntKind.i64.wrap ((L : Int) - n + 1) = (m : Int) := by rw [IntWalk.i64_in _ (by omega)]; omega
    obtain ⟨Z, hZ⟩ : ∃ Z, w.heap.size = Z := ⟨_, rfl⟩
    rw [hZ] at hz HIH ⊢
    clear h1 h2 h3 h6 h7 h8 ih hblk hw hW hwf hL hbz hrb hm hZ
    go_enter Tryd.func21, Tryd.ntmps21
    go_wp2
    go_region_held3 (fun x => x.cell? ⟨b, 0, none⟩ = some (.int .i64 (n : Int)) ∧ x.cell? ⟨b, 1, none⟩ = some (.slice (some ⟨rb, 0, none⟩) L cap)) (first | assumption | exact ⟨hc0, hc1⟩ | exact ⟨(World.cell?_alloc_lt W _ ⟨b, 0, none⟩ hbW).trans hc0, (World.cell?_alloc_lt W _ ⟨b, 1, none⟩ hbW).trans hc1⟩) (fail)
    obtain ⟨W1, hW1⟩ : ∃ W1, W1 = (W.alloc (.cells #[.int .i64 (m : Int), .slice none 0 0] 40)).drew := ⟨_, rfl⟩
    have HD0 := Lib.hid (show DuL Z W.heap.size m W W1 [] (.slice none 0 0) [] by
      rw [hW1]
      exact ⟨heap_alloc_new W _, World.ownsRow_nil _ _ _ _, rfl, fun i x u hx _ => by simp at hx, Below.drew ((Below.refl _ _).alloc (Nat.le_refl _) _), Nat.le_refl _, hz⟩)
    have hc0' : W1.cell? ⟨b, 0, none⟩ = some (.int .i64 (n : Int)) := by rw [hW1]; exact (World.cell?_alloc_lt W _ ⟨b, 0, none⟩ hbW).trans hc0
    have hc1' : W1.cell? ⟨b, 1, none⟩ = some (.slice (some ⟨rb, 0, none⟩) L cap) := by rw [hW1]; exact (World.cell?_alloc_lt W _ ⟨b, 1, none⟩ hbW).trans hc1
    obtain ⟨G, hG⟩ : ∃ G, W.heap.size = G := ⟨_, rfl⟩
    rw [← hW1]
    rw [hG] at HD0 ⊢
    have HGe := Lib.hid hG
    clear hW1 hG j1 j2
    go_wp2
    go_loopw [34] (fun i wr => ∃ (k : Nat) (v : Value) (vs2 : List Value), k ≤ L ∧ i = .int .i64 k ∧ DuL Z G m W wr ((dualL ts).take k) v vs2) (fun i _ => L - (intOf i).toNat)
    case atStart => exact ⟨0, _, _, Nat.zero_le _, rfl, by simpa using HD0.out⟩
    case round =>
      obtain ⟨k, v, vs2, hk, rfl, D⟩ := hrel
      have DD := Lib.hid D
      have hB := D.grw
      have hsz := hB.size
      have hlow := D.low
      have hGl := heap_lt D.blk
      by_cases hkn : k < L
      · have i1 : (k : Int) < L := by omega
        have hkt : k < ts.length := by rw [HL.out]; exact hkn
        have hkv : k < vs.length := by rw [H6.out]; exact hkn
        have hx := List.getElem?_eq_getElem hkv
        have ht := List.getElem?_eq_getElem hkt
        have hcx : wr.cell? ⟨rb, k, none⟩ = some vs[k] := (hB.cell (p := ⟨rb, k, none⟩) hrbW).trans (HC.out k _ hx)
        have hcall := HIH.out k _ _ hx ht wr.drew (Below.drew hB)
        have hnx : (dualL ts).take (k + 1) = (dualL ts).take k ++ [dualT ts[k]] := take_snoc (by rw [dualL_at, ht]; rfl)
        have hlen : ((dualL ts).take k).length = k := by rw [List.length_take, dualL_len]; omega
        generalize vs[k] = x at hcx hcall
        generalize ts[k] = t at hcall hnx
        have HN := Lib.hid hnx
        have HK := Lib.hid hcall
        have HLn := Lib.hid hlen
        have hcv : wr.cell? ⟨G, 1, none⟩ = some v := cell_blk D.blk
        clear hx ht hkv hkt hnx hcall hlen D
        have HO := Lib.hid (show wr.ownsRow (G + 1) 50 1 v k vs2 by have := DD.out.own; rw [HLn.out] at this; exact this)
        have HBlk := Lib.hid DD.out.blk
        go_wp2_with fail
        go_region_law (first
          | (rw [if_pos (by rfl)]; go_simp; go_at_call 21; refine HK.out.mono ?_; rintro e w1 ⟨v1, rfl, hi1, hb1⟩; have HI1 := Lib.hid hi1; have hbb := (Below.drew (Below.refl wr.heap.size wr)).trans hb1; have HB1 := Lib.hid hbb; have hz1 := hbb.size; have hGz1 : G < w1.heap.size := (by omega); have hcv1 : w1.cell? ⟨G, 1, none⟩ = some v := (hbb.cell (p := ⟨G, 1, none⟩) hGl).trans hcv; have hcv2 : ∀ o, (w1.alloc o).cell? ⟨G, 1, none⟩ = some v := (fun o => (World.cell?_alloc_lt w1 o ⟨G, 1, none⟩ hGz1).trans ((hbb.cell (p := ⟨G, 1, none⟩) hGl).trans hcv)); obtain ⟨T1, b1, hv1⟩ := hi1.iface; have HO1 := Lib.hid (owns_below HO.out hbb (Nat.le_refl _)); clear hi1 hb1 hbb; subst hv1; dsimp only)
          | (apply step_append_tree (s := .tmp 42) (x := .tmp 45) (B := G + 1) (v := v) (n := k) (vs := vs2) (u := .iface T1 (.pointer (some ⟨b1, 0, none⟩))); (focus rfl); (focus rfl); (focus rfl); (focus rfl); (focus (exact HO1.out)); (focus rfl); (focus rfl); (focus omega); (focus omega); intro v2 w2 hown2 hb2 hg2 hat2; obtain ⟨A2, c2, hv2, hle2, hmx2, hrow2⟩ := owns_row hown2; have hG2 := (hb2.block G (by omega)).trans ((HB1.out.block G hGl).trans HBlk.out); have hcG := cell_blk hG2; have hfG := free_blk hG2; have D2 := Lib.hid (DD.out.push HB1.out HI1.out (by rw [HLn.out]; exact hown2) hb2 hg2 hat2); clear hG2 hb2 hg2 hat2 hown2; subst hv2)
          | fail)
        all_goals go_wp2
        all_goals go_roundw
        all_goals first | exact ⟨k + 1, _, _, by omega, by go_num, by rw [HN.out]; exact D2.out⟩ | (simp [intOf]; omega)
      · obtain rfl : k = L := by omega
        have hlen : (dualL ts).take k = dualL ts := List.take_of_length_le (by rw [dualL_len, HL.out]; omega)
        rw [hlen] at DD
        have HLn := Lib.hid hlen
        clear D hlen
        go_wp2
        go_ret
        refine ⟨_, rfl, ?_, hB⟩
        have D := DD.out
        have hown := D.own
        rcases hown.2 with ⟨_, hn⟩ | ⟨r2, cap2, cur, hv, hb, hcur, hle, hmx, hsz2, htk⟩
        · rw [dualL_len, HL.out] at hn
          omega
        · have hcs := hown.cells (g := r2) (by rw [hv]; rfl)
          have hblk := D.blk
          rw [hv] at hblk
          show IsT wr _ _ (.gate (ts.length - n + 1) (dualL ts))
          rw [HL.out, HM.out]
          refine .gate (.inr hlow) hblk (.inr (by omega)) hle hmx D.len (fun i x hx => ?_) (fun i x u hx hu => (D.its i x u hx hu).keep fun b hb' _ => ⟨rfl, hb'.1⟩) (by rw [dualL_len, HL.out]; omega)
          have := hcs i x hx
          rwa [addr_add, Nat.zero_add] at this
end Go.Proofs.YtbokieephhffnaaDoor
