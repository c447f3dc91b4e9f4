/- The law FnExactSetMask: its walk. -/
import Derived.Test.YtmbmpfodfboniaaSet4
namespace Go.Proofs.Ytmbmpfodfboniaa
open Go.RowKit
set_option maxHeartbeats 1000000

theorem specSetMask_any (A : Option Addr) (n c : Nat) (zs : List Int) (w : World) (hA : Row w w.heap.size A (zs.map (Value.int .i64))) (hl : zs.length = n) (hn : n ≤ 1048576) :
    Calls Try.prog 18 #[.slice A n c] w fun e w' => e = .returned (.int .i64 (maskOf zs)) ∧ ∃ m, w' = w.drewN m := by
  cases hs : setB zs
  · rw [mask_no hs]
    go_enter Try.func18, Try.ntmps18
    go_wp2_with fail
    refine (specSetValid_any _ _ _ zs _ hA hl hn).mono ?_
    rintro e wq ⟨rfl, q, rfl⟩
    go_wp2
    go_ret
    exact ⟨rfl, q, rfl⟩
  · rw [mask_yes hs]
    go_enter Try.func18, Try.ntmps18
    go_wp2_with fail
    refine (specSetValid_any _ _ _ zs _ hA hl hn).mono ?_
    rintro e wq ⟨rfl, q, rfl⟩
    go_wp2_with fail
    refine (l1Mask_any _ _ _ zs (w.drewN q) hA hl hn hs).mono ?_
    rintro e wz ⟨rfl, rfl⟩
    go_wp2
    go_ret
    exact ⟨by first | rfl | exact ret_int (by rw [hl]) | simp [hl], q, rfl⟩

theorem exactSetMask_walk (A : Option Addr) (n c : Nat) (zs : List Int) (w : World) (h : Ints .i64 w A n c zs) : Calls Try.prog 8 #[.slice A n c] w fun e w' => e = .returned (.bool true) ∧ Below w.heap.size w w' := by
  have hcap := h.cap
  have hmx := h.max
  unfold maxLen at hmx
  by_cases hl : 1048576 < n
  · go_enter Try.func8, Try.ntmps8
    go_wp2
    go_ret
    exact ⟨rfl, Below.refl _ _⟩
  have hn : n ≤ 1048576 := by omega
  go_enter Try.func8, Try.ntmps8
  go_wp2_with fail
  refine (toIntS_any A n c zs _ h hn).mono ?_
  rintro e w1 ⟨rfl, hg1, hs1, hb1⟩
  have hlt1 : w.heap.size < w1.heap.size := by omega
  have HG1 := Lib.hid hg1
  have h1 := h.below hb1
  clear hg1 hs1
  go_wp2_with fail
  refine (specSetMask_any _ n n zs _ (row_new HG1.out hlt1) h.len hn).mono ?_
  rintro e wz ⟨rfl, ms, hz⟩
  have h1z : Ints .i64 wz A n c zs := by
    rw [hz]
    exact h1.below (below_drewN (Below.refl _ _) ms)
  have hszz : wz.heap.size = w1.heap.size := by rw [hz]; rfl
  have hbz : Below w1.heap.size w1 wz := by rw [hz]; exact below_drewN (Below.refl _ _) ms
  have hltz : w.heap.size < wz.heap.size := by omega
  have hb1z : Below w.heap.size w wz := hb1.trans (hbz.mono hb1.size)
  clear hz hszz
  clear HG1 hlt1 h1 hb1 hbz
  go_wp2_with fail
  refine (toIntS_any A n c zs _ h1z hn).mono ?_
  rintro e w2 ⟨rfl, hg2, hs2, hb2⟩
  have hlt2 : wz.heap.size < w2.heap.size := by omega
  have HG2 := Lib.hid hg2
  have h2 := h1z.below hb2
  clear hg2 hs2
  go_wp2_with fail
  refine (implSetMask_any _ n n zs _ (row_new HG2.out hlt2) h.len hn).mono ?_
  rintro e wq ⟨rfl, hz⟩
  replace hz := hz.symm
  subst hz
  go_wp2_with fail
  refine (toIntS_any A n c zs _ h2 hn).mono ?_
  rintro e w3 ⟨rfl, hg3, hs3, hb3⟩
  have hlt3 : w2.heap.size < w3.heap.size := by omega
  have HG3 := Lib.hid hg3
  have HG2' := Lib.hid ((hb3.block _ hlt2).trans HG2.out)
  clear hg3 hs3
  go_wp2_with fail
  refine (eqIntS_same _ _ n n n zs _ (row_new HG2'.out (by omega)) (row_new HG3.out hlt3) h.len hn).mono ?_
  rintro e w4 ⟨rfl, m, rfl⟩
  go_wp2
  go_ret
  exact ⟨rfl, below_drewN ((hb1z.trans (hb2.mono hb1z.size)).trans (hb3.mono (by omega))) m⟩
end Go.Proofs.Ytmbmpfodfboniaa
