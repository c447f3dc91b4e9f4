/- ExprThreshold, the program's; the law FnExactExprThreshold's walk. -/
import Derived.Test.YtbokieephhffnaaDoorThr
namespace Go.Proofs.YtbokieephhffnaaDoor
open Go.RowKit
set_option maxHeartbeats 8000000
set_option maxRecDepth 20000
set_option linter.unusedVariables false

theorem implThr_no (k : Int) (A : Option Addr) (n c : Nat) (zs : List Int) (w : World) (hA : Row w w.heap.size A (zs.map (Value.int .i64))) (hl : zs.length = n) (hn : n ≤ 1048576)
    (hno : ¬ (setB zs = true ∧ 1 ≤ k ∧ k ≤ n)) : Calls Tryd.prog 7 #[.int .i64 k, .slice A n c] w fun e w' => e = .returned (.tuple #[.string ⟨#[]⟩, .bool false]) ∧ Below w.heap.size w w' := by
  have HV := Lib.hid (implSetValid_any A n c zs w hA hl hn)
  cases hs : setB zs
  · go_enter Tryd.func7, Tryd.ntmps7
    go_wp2_with fail
    refine HV.out.mono ?_
    rintro e w1 ⟨rfl, hw⟩
    rw [hs]
    replace hw := hw.symm
    subst hw
    go_wp2_with fail
    go_ret2
    exact ⟨rfl, Below.refl _ _⟩
  · by_cases h1 : k < 1
    · go_enter Tryd.func7, Tryd.ntmps7
      go_wp2_with fail
      refine HV.out.mono ?_
      rintro e w1 ⟨rfl, hw⟩
      rw [hs]
      replace hw := hw.symm
      subst hw
      go_wp2_with fail
      go_ret2
      exact ⟨rfl, Below.refl _ _⟩
    · have h2 : (n : Int) < k := by
        rcases Int.lt_or_le (n : Int) k with h | h
        · exact h
        · exact absurd ⟨hs, by omega, h⟩ hno
      go_enter Tryd.func7, Tryd.ntmps7
      go_wp2_with fail
      refine HV.out.mono ?_
      rintro e w1 ⟨rfl, hw⟩
      rw [hs]
      replace hw := hw.symm
      subst hw
      go_wp2_with fail
      go_ret2
      exact ⟨rfl, Below.refl _ _⟩
theorem implThr_yes (k : Int) (A : Option Addr) (n c : Nat) (zs : List Int) (w : World) (hA : Row w w.heap.size A (zs.map (Value.int .i64))) (hl : zs.length = n) (hn : n ≤ 1048576)
    (hs : setB zs = true) (h1 : 1 ≤ k) (h2 : k ≤ n) : Calls Tryd.prog 7 #[.int .i64 k, .slice A n c] w fun e w' => e = .returned (.tuple #[.string (thrS k.toNat zs), .bool true]) ∧ Below w.heap.size w w' := by
  have HV := Lib.hid (implSetValid_any A n c zs w hA hl hn)
  have HSet := Lib.hid hs
  have hn6 := fm_len hs
  rw [hl] at hn6
  obtain ⟨q, rfl⟩ := Int.eq_ofNat_of_zero_le (show 0 ≤ k by omega)
  rw [Int.toNat_natCast]
  have HWf := Lib.hid (thr_wf (k := q) (zs := zs) (by omega) (by omega) hs)
  have HLn := Lib.hid (thr_len (k := q) (zs := zs) (by omega) hs)
  have HL := Lib.hid hl
  have HA := Lib.hid hA
  have q1 : ¬ (q : Int) < 1 := by omega
  have q2 : ¬ (n : Int) < q := by omega
  clear hA hl h1
  go_enter Tryd.func7, Tryd.ntmps7
  go_wp2_with fail
  refine HV.out.mono ?_
  rintro e w1 ⟨rfl, hw⟩
  rw [HSet.out]
  replace hw := hw.symm
  subst hw
  clear hs
  have HD0 := Lib.hid (show DuL 0 w.heap.size q w (w.alloc (.cells #[.int .i64 (q : Int), .slice none 0 0] 40)) [] (.slice none 0 0) [] from
    ⟨heap_alloc_new w _, World.ownsRow_nil _ _ _ _, rfl, fun i x u hx _ => by simp at hx, (Below.refl _ _).alloc (Nat.le_refl _) _, Nat.le_refl _, Nat.zero_le _⟩)
  have HAw := Lib.hid (fun (wr : World) (hB : Below w.heap.size w wr) => HA.out.below hB)
  obtain ⟨G, hG⟩ : ∃ G, w.heap.size = G := ⟨_, rfl⟩
  rw [hG] at HD0
  go_wp2_with fail
  clear hG
  go_loopw [27] (fun i wr => ∃ (k : Nat) (v : Value) (vs2 : List Value), k ≤ n ∧ i = .int .i64 k ∧ DuL 0 G q w wr ((zs.map leafOf).take k) v vs2) (fun i _ => n - (intOf i).toNat)
  case atStart => exact ⟨0, _, _, Nat.zero_le _, rfl, by simpa using HD0.out⟩
  case round =>
    obtain ⟨k, v, vs2, hk, rfl, D⟩ := hrel
    have DD := Lib.hid D
    have hB := D.grw
    have hsz := hB.size
    have hlow := D.low
    have hGl := heap_lt D.blk
    by_cases hkn : k < n
    · have i1 : (k : Int) < n := by omega
      have hkz : k < zs.length := by rw [HL.out]; exact hkn
      obtain ⟨b, off, hA, hbl, hcell⟩ := (HAw.out wr hB).at_ (k := k) (u := .int .i64 (zs.getD k 0)) (by simp [hkz])
      obtain ⟨v1, v2⟩ := set_at HSet.out hkz
      have hnx : (zs.map leafOf).take (k + 1) = (zs.map leafOf).take k ++ [.leaf (zs.getD k 0).toNat] := take_snoc (by simp [leafOf, hkz])
      have hlen : ((zs.map leafOf).take k).length = k := by rw [List.length_take, List.length_map, HL.out]; omega
      obtain ⟨m, hm⟩ : ∃ m : Nat, zs.getD k 0 = (m : Int) := ⟨(zs.getD k 0).toNat, by omega⟩
      rw [hm] at hcell hnx v1 v2
      rw [Int.toNat_natCast] at hnx
      have HN := Lib.hid hnx
      have HLk := Lib.hid hlen
      have hcv : wr.cell? ⟨G, 1, none⟩ = some v := cell_blk D.blk
      obtain ⟨w1, hw1⟩ : ∃ w1, w1 = wr.alloc (.cells #[.int .i64 (m : Int)] 43) := ⟨_, rfl⟩
      have hbb : Below wr.heap.size wr w1 := by rw [hw1]; exact (Below.refl _ _).alloc (Nat.le_refl _) _
      have HB1 := Lib.hid hbb
      have hz1 := hbb.size
      have HI1 := Lib.hid (show IsT w1 (fun b => b < 0 ∨ wr.heap.size ≤ b) (.iface 41 (.pointer (some ⟨wr.heap.size, 0, none⟩))) (.leaf m) by rw [hw1]; exact .leaf (.inr (Nat.le_refl _)) (heap_alloc_new _ _))
      have HO1 := Lib.hid (owns_below (show wr.ownsRow (G + 1) 50 1 v k vs2 by have := D.own; rw [hlen] at this; exact this) hbb (Nat.le_refl _))
      have HBlk := Lib.hid D.blk
      have HW1 := Lib.hid hw1
      have HZ1 := Lib.hid (show w1.heap.size = wr.heap.size + 1 by rw [hw1]; simp)
      obtain ⟨i0, hi0, hi1, hi2, hi3⟩ := info_parts tree_info
      have J0 := Lib.hid hi0
      have J1 := Lib.hid hi1
      have J2 := Lib.hid hi2
      have J3 := Lib.hid hi3
      subst hA
      clear hnx hlen D hm hkz hi0 hi1 hi2 hi3 hbb hw1 hB
      go_wp2_with (rw [← HW1.out]; at_builtin; refine wpl_append1 rfl _ _ 38 (by rfl) (G + 1) 50 i0 .nilIface 1 16 Tryd.underlying38 J0.out J1.out J2.out J3.out rfl (by omega) v k vs2 (by rfl) HO1.out #[.iface 41 (.pointer (some ⟨wr.heap.size, 0, none⟩))] rfl (by rw [HZ1.out]; rfl) (by simp [Value.oneCell']) (by omega) (by omega) (by omega) ?_; intro v2 w2 hown2 hb2 hg2 hat2; obtain ⟨A2, c2, hv2, hle2, hmx2, hrow2⟩ := owns_row hown2; have hG2 := (hb2.block G (by omega)).trans ((HB1.out.block G hGl).trans HBlk.out); have hcG := cell_blk hG2; have hfG := free_blk hG2; have D2 := Lib.hid (DD.out.push HB1.out HI1.out (by rw [HLk.out]; exact hown2) hb2 hg2 hat2); clear hG2 hb2 hg2 hat2 hown2; subst hv2)
      go_roundw
      case rel => exact ⟨k + 1, by omega, by go_num, _, _, by rw [HN.out]; exact D2.out⟩
      case measure => simp [intOf]; omega
    · obtain rfl : k = n := by omega
      have hlen : (zs.map leafOf).take k = zs.map leafOf := List.take_of_length_le (by rw [List.length_map, HL.out]; omega)
      rw [hlen] at D DD
      clear hlen
      have hown := D.own
      have hI : IsT wr (fun b => b < 0 ∨ w.heap.size ≤ b) (.iface 37 (.pointer (some ⟨G, 0, none⟩))) (thrT q zs) := by
        rcases hown.2 with ⟨_, hn⟩ | ⟨r2, cap2, cur, hv, hb, hcur, hle, hmx, hsz2, htk⟩
        · rw [List.length_map, HL.out] at hn
          omega
        · have hcs := hown.cells (g := r2) (by rw [hv]; rfl)
          have hblk := D.blk
          rw [hv] at hblk
          refine .gate (.inr hlow) hblk (.inr (by omega)) hle hmx D.len (fun i x hx => ?_) (fun i x u hx hu => (D.its i x u hx hu).keep fun b hb' _ => ⟨rfl, hb'.1⟩) (by rw [List.length_map, HL.out]; omega)
          have := hcs i x hx
          rwa [addr_add, Nat.zero_add] at this
      have hcall := text_any hI HWf.out.wf (by have := HLn.out; omega) wr (Nat.le_refl _) (fun _ _ => rfl)
      unfold TextQ at hcall
      rw [show (⟨(textT (thrT q zs)).toArray⟩ : ByteArray) = thrS q zs from rfl] at hcall
      rcases hcall with ⟨b2, hv2, hcl⟩ | ⟨b2, hv2, hcl⟩
      · cases hv2
      · cases hv2
        have HCl := Lib.hid hcl
        have HBk := Lib.hid hB
        clear hcl hI D hown hB
        go_wp2_with (go_at_call 16; refine HCl.out.mono ?_; rintro e w3 ⟨rfl, hb3⟩; have HB3 := Lib.hid hb3; clear hb3)
        go_ret2
        exact ⟨rfl, HBk.out.trans (HB3.out.mono hsz)⟩

/-- The value of ExprThreshold. -/
def thrO (k : Int) (zs : List Int) : ByteArray × Bool := if setB zs = true ∧ 1 ≤ k ∧ k ≤ zs.length then (thrS k.toNat zs, true) else (⟨#[]⟩, false)
theorem specThr_is (k : Int) (A : Option Addr) (n c : Nat) (zs : List Int) (w : World) (hA : Row w w.heap.size A (zs.map (Value.int .i64))) (hl : zs.length = n) (hn : n ≤ 1048576) :
    Calls Tryd.prog 5 #[.int .i64 k, .slice A n c] w fun e w' => e = .returned (.tuple #[.string (thrO k zs).1, .bool (thrO k zs).2]) ∧ Below w.heap.size w w' := by
  unfold thrO
  by_cases h : setB zs = true ∧ 1 ≤ k ∧ k ≤ zs.length
  · rw [if_pos h]
    exact (specThr_any k A n c zs w hA hl hn).2 h.1 h.2.1 (by omega)
  · rw [if_neg h]
    exact (specThr_any k A n c zs w hA hl hn).1 (by rw [← hl]; exact h)
theorem implThr_is (k : Int) (A : Option Addr) (n c : Nat) (zs : List Int) (w : World) (hA : Row w w.heap.size A (zs.map (Value.int .i64))) (hl : zs.length = n) (hn : n ≤ 1048576) :
    Calls Tryd.prog 7 #[.int .i64 k, .slice A n c] w fun e w' => e = .returned (.tuple #[.string (thrO k zs).1, .bool (thrO k zs).2]) ∧ Below w.heap.size w w' := by
  unfold thrO
  by_cases h : setB zs = true ∧ 1 ≤ k ∧ k ≤ zs.length
  · rw [if_pos h]
    exact implThr_yes k A n c zs w hA hl hn h.1 h.2.1 (by omega)
  · rw [if_neg h]
    exact implThr_no k A n c zs w hA hl hn (by rw [← hl]; exact h)

theorem exactThr_walk (k : Int) (A : Option Addr) (n c : Nat) (zs : List Int) (w : World) (hk : (Lit.int .i64 k).wf = true) (h : Ints .i64 w A n c zs) : Calls Tryd.prog 3 #[.int .i64 k, .slice A n c] w fun e w' => e = .returned (.bool true) ∧ Below w.heap.size w w' := by
  have hcap := h.cap
  have hmx := h.max
  unfold maxLen at hmx
  by_cases hl : 1048576 < n
  · go_enter Tryd.func3, Tryd.ntmps3
    go_wp2
    go_ret
    exact ⟨rfl, Below.refl _ _⟩
  have hn : n ≤ 1048576 := by omega
  go_enter Tryd.func3, Tryd.ntmps3
  go_wp2_with fail
  refine (toIntS_any A n c zs _ h hn).mono ?_
  rintro e w1 ⟨rfl, hg1, hs1, hb1⟩
  have hlt1 : w.heap.size < w1.heap.size := by omega
  have HG1 := Lib.hid hg1
  have h1 := h.below hb1
  clear hg1 hs1
  go_wp2_with fail
  refine (specThr_is k _ n n zs _ (row_new HG1.out hlt1) h.len hn).mono ?_
  rintro e wz ⟨rfl, hbz⟩
  have h1z : Ints .i64 wz A n c zs := h1.below hbz
  have hb1z : Below w.heap.size w wz := hb1.trans (hbz.mono hb1.size)
  have hltz : w.heap.size < wz.heap.size := by have := hbz.size; omega
  have HI := Lib.hid (fun (W : World) (a : Option Addr) (hW : Row W W.heap.size a (zs.map (Value.int .i64))) => implThr_is k a n n zs W hW h.len hn)
  clear HG1 hlt1 h1 hb1 hbz
  generalize (thrO k zs).1 = t1 at HI ⊢
  generalize (thrO k zs).2 = t2 at HI ⊢
  go_wp2_with fail
  refine (toIntS_any A n c zs _ h1z hn).mono ?_
  rintro e w2 ⟨rfl, hg2, hs2, hb2⟩
  have hlt2 : wz.heap.size < w2.heap.size := by omega
  have HG2 := Lib.hid hg2
  have h2 := h1z.below hb2
  clear hg2 hs2
  go_wp2_with fail
  refine (HI.out _ _ (row_new HG2.out hlt2)).mono ?_
  rintro e wq ⟨rfl, hbq⟩
  have hq := h2.below hbq
  have hlq : wz.heap.size < wq.heap.size := by have := hbq.size; omega
  have HGq := Lib.hid ((hbq.block _ hlt2).trans HG2.out)
  have hbzq : Below wz.heap.size wz wq := hb2.trans (hbq.mono hb2.size)
  clear HG2 hlt2 h2 hb2 hbq
  go_wp2_with fail
  refine (toIntS_any A n c zs _ hq hn).mono ?_
  rintro e w3 ⟨rfl, hg3, hs3, hb3⟩
  have hlt3 : wq.heap.size < w3.heap.size := by omega
  have HG3 := Lib.hid hg3
  have HG2' := Lib.hid ((hb3.block _ hlq).trans HGq.out)
  clear hg3 hs3
  go_wp2_with fail
  refine (eqIntS_same _ _ n n n zs _ (row_new HG2'.out (by omega)) (row_new HG3.out hlt3) h.len hn).mono ?_
  rintro e w4 ⟨rfl, m, rfl⟩
  go_wp2
  go_ret
  exact ⟨rfl, below_drewN ((hb1z.trans (hbzq.mono hb1z.size)).trans (hb3.mono (by omega))) m⟩
end Go.Proofs.YtbokieephhffnaaDoor
