/- SetSubset: the program's, the reference's, and the walk of the law FnExactSetSubset. -/
import Derived.Test.YtmbmpfodfboniaaSet7
namespace Go.Proofs.Ytmbmpfodfboniaa
open Go.RowKit
set_option maxHeartbeats 1000000

/-- Both are member sets, and the first lies in the second. -/
def ssB (a b : List Int) : Bool := setB a && setB b && subB a b

theorem specSubset_any (A : Option Addr) (n c : Nat) (zs : List Int) (A2 : Option Addr) (n2 c2 : Nat) (ys : List Int) (w : World) (hA : Row w w.heap.size A (zs.map (Value.int .i64))) (hl : zs.length = n) (hn : n ≤ 1048576) (hB : Row w w.heap.size A2 (ys.map (Value.int .i64))) (hl2 : ys.length = n2) (hn2 : n2 ≤ 1048576) :
    Calls Try.prog 20 #[.slice A n c, .slice A2 n2 c2] w fun e w' => e = .returned (.bool (ssB zs ys)) ∧ ∃ m, w' = w.drewN m := by
  cases hs : setB zs
  · have hr : ssB zs ys = false := by simp [ssB, hs]
    rw [hr]
    clear hr
    go_enter Try.func20, Try.ntmps20
    go_wp2_with fail
    refine (specSetValid_any _ _ _ zs _ hA hl hn).mono ?_
    rintro e wq ⟨rfl, q, rfl⟩
    go_wp2
    go_ret
    exact ⟨by first | rfl | simp [hs], q, rfl⟩
  cases ht : setB ys
  · have hr : ssB zs ys = false := by simp [ssB, ht]
    rw [hr]
    clear hr
    go_enter Try.func20, Try.ntmps20
    go_wp2_with fail
    refine (specSetValid_any _ _ _ zs _ hA hl hn).mono ?_
    rintro e wq ⟨rfl, q, rfl⟩
    go_wp2_with fail
    refine (specSetValid_any _ _ _ ys (w.drewN q) hB hl2 hn2).mono ?_
    rintro e wq ⟨rfl, q2, rfl⟩
    go_wp2
    go_ret
    exact ⟨by first | rfl | simp [ht], _, by first | rfl | exact World.drewN_drewN _ _ _⟩
  · have hr : ssB zs ys = subB zs ys := by simp [ssB, hs, ht]
    rw [hr]
    clear hr
    go_enter Try.func20, Try.ntmps20
    go_wp2_with fail
    refine (specSetValid_any _ _ _ zs _ hA hl hn).mono ?_
    rintro e wq ⟨rfl, q, rfl⟩
    go_wp2_with fail
    refine (specSetValid_any _ _ _ ys (w.drewN q) hB hl2 hn2).mono ?_
    rintro e wq ⟨rfl, q2, rfl⟩
    go_wp2_with fail
    refine (l1Subset_any _ _ _ zs _ _ _ ys (w.drewN (q + q2)) w.heap.size hA hl hn hB hl2 hn2).mono ?_
    rintro e wq ⟨rfl, rfl⟩
    go_wp2
    go_ret
    exact ⟨rfl, _, by first | rfl | exact World.drewN_drewN _ _ _⟩

theorem implSubset_any (A : Option Addr) (n c : Nat) (zs : List Int) (A2 : Option Addr) (n2 c2 : Nat) (ys : List Int) (w : World) (hA : Row w w.heap.size A (zs.map (Value.int .i64))) (hl : zs.length = n) (hn : n ≤ 1048576) (hB : Row w w.heap.size A2 (ys.map (Value.int .i64))) (hl2 : ys.length = n2) (hn2 : n2 ≤ 1048576) :
    Calls Try.prog 21 #[.slice A n c, .slice A2 n2 c2] w fun e w' => e = .returned (.bool (ssB zs ys)) ∧ w' = w := by
  subst hl hl2
  obtain ⟨p, hp⟩ : ∃ p, setB zs = p := ⟨_, rfl⟩
  obtain ⟨q, hq⟩ : ∃ q, setB ys = q := ⟨_, rfl⟩
  obtain ⟨r, hr⟩ : ∃ r, subB zs ys = r := ⟨_, rfl⟩
  have hS : ssB zs ys = (p && q && r) := by simp [ssB, hp, hq, hr]
  rw [hS]
  clear hS
  have H1 := Lib.hid hp
  have H2 := Lib.hid hq
  have H3 := Lib.hid hr
  clear hp hq hr
  have K1 := readSet_mask A _ c zs w hA rfl hn
  have K2 := readSet_mask A2 _ c2 ys w hB rfl hn2
  unfold MaskRes at K1 K2
  rw [H1.out] at K1
  rw [H2.out] at K2
  have HK1 := Lib.hid K1
  have HK2 := Lib.hid K2
  clear K1 K2
  cases p
  · go_enter Try.func21, Try.ntmps21
    go_wp2_with fail
    refine HK1.out.mono ?_
    rintro e wq ⟨m, rfl, -, rfl⟩
    go_wp2_with fail
    refine HK2.out.mono ?_
    rintro e wq ⟨m2, rfl, -, rfl⟩
    go_wp2
    go_ret
    exact ⟨rfl, rfl⟩
  cases q
  · go_enter Try.func21, Try.ntmps21
    go_wp2_with fail
    refine HK1.out.mono ?_
    rintro e wq ⟨m, rfl, -, rfl⟩
    go_wp2_with fail
    refine HK2.out.mono ?_
    rintro e wq ⟨m2, rfl, -, rfl⟩
    go_wp2
    go_ret
    exact ⟨rfl, rfl⟩
  · go_enter Try.func21, Try.ntmps21
    go_wp2_with fail
    refine HK1.out.mono ?_
    rintro e wq ⟨m, rfl, hm, rfl⟩
    obtain rfl : m = sumTo zs zs.length := by simpa using hm
    have M1 := sum_small (zs := zs) (k := zs.length) H1.out
    go_wp2_with fail
    refine HK2.out.mono ?_
    rintro e wq ⟨m2, rfl, hm, rfl⟩
    obtain rfl : m2 = sumTo ys ys.length := by simpa using hm
    have M2 := sum_small (zs := ys) (k := ys.length) H2.out
    have W := within_any (sumTo zs zs.length) (sumTo ys ys.length)
    have hb : ((sumTo zs zs.length &&& (18446744073709551615 - sumTo ys ys.length)) == 0) = r := by
      have := within_iff H1.out H2.out
      rw [H3.out] at this
      cases r <;> simp_all
    rw [hb] at W
    have HW := Lib.hid W
    clear W hb
    go_wp2_with fail
    refine (HW.out _ M1 M2).mono ?_
    rintro e wq ⟨rfl, rfl⟩
    go_wp2
    go_ret
    exact ⟨rfl, rfl⟩

/-- Block g holds just these integers. -/
def Lst (w : World) (g : Nat) (zs : List Int) : Prop := w.heap[g]? = some (.cells (zs.map (Value.int .i64)).toArray 3 (0, 0))
theorem Lst.row {w : World} {g B : Nat} {zs : List Int} (h : Lst w g zs) (hB : g < B) : Row w B (some ⟨g, 0, none⟩) (zs.map (Value.int .i64)) := row_new h hB
theorem Lst.below {w w' : World} {g B : Nat} {zs : List Int} (h : Lst w g zs) (hb : Below B w w') (hg : g < B) : Lst w' g zs := (hb.block g hg).trans h
theorem toIntS_lst (A : Option Addr) (n c : Nat) (zs : List Int) (w : World) (h : Ints .i64 w A n c zs) (hn : n ≤ 1048576) : Calls Try.prog 11 #[.slice A n c] w fun e w' =>
    e = .returned (.slice (some ⟨w.heap.size, 0, none⟩) n n) ∧ Lst w' w.heap.size zs ∧ w.heap.size < w'.heap.size ∧ Below w.heap.size w w' :=
  (toIntS_any A n c zs w h hn).mono fun e w' ⟨a, b, d, g⟩ => ⟨a, b, by omega, g⟩

theorem exactSetSubset_walk (A : Option Addr) (n c : Nat) (zs : List Int) (A2 : Option Addr) (n2 c2 : Nat) (ys : List Int) (w : World) (h : Ints .i64 w A n c zs) (h2 : Ints .i64 w A2 n2 c2 ys) :
    Calls Try.prog 9 #[.slice A n c, .slice A2 n2 c2] w fun e w' => e = .returned (.bool true) ∧ Below w.heap.size w w' := by
  have hcap := h.cap
  have hmx := h.max
  have hcap2 := h2.cap
  have hmx2 := h2.max
  unfold maxLen at hmx hmx2
  by_cases hl : 1048576 < n
  · go_enter Try.func9, Try.ntmps9
    go_wp2
    go_ret
    exact ⟨rfl, Below.refl _ _⟩
  by_cases hl2 : 1048576 < n2
  · go_enter Try.func9, Try.ntmps9
    go_wp2
    go_ret
    exact ⟨rfl, Below.refl _ _⟩
  have hn : n ≤ 1048576 := by omega
  have hn2 : n2 ≤ 1048576 := by omega
  go_enter Try.func9, Try.ntmps9
  go_wp2_with fail
  have hI0 := h
  have hJ0 := h2
  refine (toIntS_lst A n c zs _ hI0 hn).mono ?_
  rintro e w1 ⟨rfl, L1, lt1, hb1⟩
  have hI1 := hI0.below hb1
  have hJ1 := hJ0.below hb1
  go_wp2_with fail
  refine (toIntS_lst A2 n2 c2 ys _ hJ1 hn2).mono ?_
  rintro e w2 ⟨rfl, L2, lt2, hb2⟩
  have hI2 := hI1.below hb2
  have hJ2 := hJ1.below hb2
  have L12 := L1.below hb2 lt1
  go_wp2_with fail
  refine (specSubset_any _ n n zs _ n2 n2 ys _ (L12.row (by omega)) h.len hn (L2.row lt2) h2.len hn2).mono ?_
  rintro e wz ⟨rfl, ms, hz⟩
  have hI3 : Ints .i64 wz A n c zs := by rw [hz]; exact hI2.below (below_drewN (Below.refl _ _) ms)
  have hJ3 : Ints .i64 wz A2 n2 c2 ys := by rw [hz]; exact hJ2.below (below_drewN (Below.refl _ _) ms)
  have hbz : Below w2.heap.size w2 wz := by rw [hz]; exact below_drewN (Below.refl _ _) ms
  have hb3 : Below w.heap.size w wz := (hb1.trans (hb2.mono (by omega))).trans (hbz.mono (by omega))
  clear hz L1 L2 L12 lt1 lt2 hI0 hI1 hI2 hJ0 hJ1 hJ2 hb1 hb2 hbz
  have hz3 := hb3.size
  go_wp2_with fail
  refine (toIntS_lst A n c zs _ hI3 hn).mono ?_
  rintro e w4 ⟨rfl, L4, lt4, hb4⟩
  have hI4 := hI3.below hb4
  have hJ4 := hJ3.below hb4
  go_wp2_with fail
  refine (toIntS_lst A2 n2 c2 ys _ hJ4 hn2).mono ?_
  rintro e w5 ⟨rfl, L5, lt5, hb5⟩
  have hI5 := hI4.below hb5
  have hJ5 := hJ4.below hb5
  have L45 := L4.below hb5 lt4
  go_wp2_with fail
  refine (implSubset_any _ n n zs _ n2 n2 ys _ (L45.row (by omega)) h.len hn (L5.row lt5) h2.len hn2).mono ?_
  rintro e wq ⟨rfl, hz⟩
  replace hz := hz.symm
  subst hz
  go_wp2_with fail
  refine (toIntS_lst A n c zs _ hI5 hn).mono ?_
  rintro e w6 ⟨rfl, L6, lt6, hb6⟩
  have hI6 := hI5.below hb6
  have hJ6 := hJ5.below hb6
  have L46 := L45.below hb6 (by omega)
  have L56 := L5.below hb6 lt5
  go_wp2_with fail
  refine (eqIntS_same _ _ n n n zs _ (L46.row (by omega)) (L6.row lt6) h.len hn).mono ?_
  rintro e wy ⟨rfl, m, hz⟩
  have hI7 : Ints .i64 wy A n c zs := by rw [hz]; exact hI6.below (below_drewN (Below.refl _ _) m)
  have hJ7 : Ints .i64 wy A2 n2 c2 ys := by rw [hz]; exact hJ6.below (below_drewN (Below.refl _ _) m)
  have L57 : Lst wy w4.heap.size ys := by rw [hz]; exact L56
  have hb7 : Below w6.heap.size w6 wy := by rw [hz]; exact below_drewN (Below.refl _ _) m
  have hz7 := hb7.size
  clear hz
  go_wp2_with fail
  refine (toIntS_lst A2 n2 c2 ys _ hJ7 hn2).mono ?_
  rintro e w8 ⟨rfl, L8, lt8, hb8⟩
  have hI8 := hI7.below hb8
  have hJ8 := hJ7.below hb8
  have L58 := L57.below hb8 (by omega)
  go_wp2_with fail
  refine (eqIntS_same _ _ n2 n2 n2 ys _ (L58.row (by omega)) (L8.row lt8) h2.len hn2).mono ?_
  rintro e w9 ⟨rfl, m2, rfl⟩
  go_wp2
  go_ret
  exact ⟨rfl, below_drewN ((((((hb3.trans (hb4.mono hz3)).trans (hb5.mono (by omega))).trans (hb6.mono (by omega))).trans (hb7.mono (by omega))).trans (hb8.mono (by omega)))) m2⟩
end Go.Proofs.Ytmbmpfodfboniaa
