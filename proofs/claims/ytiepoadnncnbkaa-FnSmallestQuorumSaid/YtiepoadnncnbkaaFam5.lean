/- Survives: the reference's, the program's, the law FnExactSurvives. -/
import Derived.Test.YtiepoadnncnbkaaFam4
namespace Go.Proofs.Ytiepoadnncnbkaa
open Go.RowKit
set_option maxHeartbeats 4000000

theorem l1Masks_any (w : World) : Calls Try.prog 38 #[] w fun e w' => e = .returned (.int .i64 64) ∧ w' = w := by
  go_enter Try.func38, Try.ntmps38
  go_wp2
  go_loop [1, 2] (fun u i => ∃ k : Nat, k ≤ 6 ∧ i = .int .i64 k ∧ u = .int .i64 ((2 ^ k : Nat) : Int)) (fun _ i => 6 - (intOf i).toNat)
  case atStart => exact ⟨0, Nat.zero_le _, rfl, rfl⟩
  case round =>
    obtain ⟨k, hk, rfl, rfl⟩ := hrel
    rcases (show k = 0 ∨ k = 1 ∨ k = 2 ∨ k = 3 ∨ k = 4 ∨ k = 5 ∨ k = 6 by omega) with rfl | rfl | rfl | rfl | rfl | rfl | rfl
    case inr.inr.inr.inr.inr.inr =>
      go_wp2
      go_ret
      exact ⟨rfl, rfl⟩
    all_goals
      go_wp2
      go_round
      case rel => first | exact ⟨1, by omega, rfl, rfl⟩ | exact ⟨2, by omega, rfl, rfl⟩ | exact ⟨3, by omega, rfl, rfl⟩ | exact ⟨4, by omega, rfl, rfl⟩ | exact ⟨5, by omega, rfl, rfl⟩ | exact ⟨6, by omega, rfl, rfl⟩
      case measure => simp [intOf]
theorem l1Of63 (w : World) : Calls Try.prog 37 #[.int .i64 63] w fun e w' =>
    ∃ v, e = .returned v ∧ OwnI w' w.heap.size v (ofTo 63 6) ∧ Below w.heap.size w w' := l1OfMask_any 63 (by omega) w

theorem minus_next (zs ys : List Int) (k : Nat) (h : k < zs.length) : minusL (zs.take (k + 1)) ys = minusL (zs.take k) ys ++ (if ys.any (fun y => y == zs.getD k 0) = true then [] else [zs.getD k 0]) := by
  have hg : zs.getD k 0 = zs[k] := by simp [h]
  rw [hg, List.take_succ_eq_append_getElem h]
  unfold minusL
  rw [List.filter_append]
  congr 1
  cases hc : ys.any (fun y => y == zs[k]) <;> simp [hc]
theorem minus_len (zs ys : List Int) (k : Nat) : (minusL (zs.take k) ys).length ≤ zs.length := by
  unfold minusL
  refine Nat.le_trans (List.length_filter_le _ _) ?_
  simp
  omega
theorem setMinus_any (A : Option Addr) (n c : Nat) (zs : List Int) (A2 : Option Addr) (n2 c2 : Nat) (ys : List Int) (w : World) (hA : Row w w.heap.size A (zs.map (Value.int .i64))) (hl : zs.length = n) (hn : n ≤ 1048576)
    (hB : Row w w.heap.size A2 (ys.map (Value.int .i64))) (hl2 : ys.length = n2) (hn2 : n2 ≤ 1048576) (hs : setB zs = true) (ht : setB ys = true) :
    Calls Try.prog 36 #[.slice A n c, .slice A2 n2 c2] w fun e w' => ∃ v, e = .returned v ∧ OwnI w' w.heap.size v (minusL zs ys) ∧ Below w.heap.size w w' := by
  have HA := Lib.hid hA
  have HB := Lib.hid hB
  have HL := Lib.hid hl
  have HL2 := Lib.hid hl2
  have H1 := fun W (hb : Below w.heap.size w W) => specSetValid_any A n c zs W ((hA.below hb).more hb.size) hl hn
  have H2 := fun W (hb : Below w.heap.size w W) => specSetValid_any A2 n2 c2 ys W ((hB.below hb).more hb.size) hl2 hn2
  rw [hs] at H1
  rw [ht] at H2
  have K1 := Lib.hid H1
  have K2 := Lib.hid H2
  clear hA hB hl hl2 hs ht H1 H2
  go_enter Try.func36, Try.ntmps36
  go_wp2_with fail
  have hb0 : Below w.heap.size w (w.alloc (.cells #[] 3)) := (Below.refl _ _).alloc (Nat.le_refl _) _
  have ho0 : OwnI (w.alloc (.cells #[] 3)) w.heap.size (.slice (some ⟨w.heap.size, 0, none⟩) 0 0) [] := owns_empty w _ (Nat.le_refl _)
  refine (K1.out _ hb0).mono ?_
  rintro e w1 ⟨rfl, m, hm⟩
  have hb1 : Below w.heap.size w w1 := by rw [hm]; exact below_drewN hb0 m
  have ho1 : OwnI w1 w.heap.size (.slice (some ⟨w.heap.size, 0, none⟩) 0 0) [] := by rw [hm]; exact ho0
  clear hm
  go_wp2_with fail
  refine (K2.out _ hb1).mono ?_
  rintro e w2 ⟨rfl, m2, hm⟩
  have hb2 : Below w.heap.size w w2 := by rw [hm]; exact below_drewN hb1 m2
  have ho2 : OwnI w2 w.heap.size (.slice (some ⟨w.heap.size, 0, none⟩) 0 0) [] := by rw [hm]; exact ho1
  have HB2 := Lib.hid hb2
  have HO2 := Lib.hid ho2
  clear hm hb0 hb1 hb2 ho0 ho1 ho2
  go_wp2_with fail
  go_loopw [5, 6] (fun u i wr => ∃ k : Nat, k ≤ n ∧ i = .int .i64 k ∧ OwnI wr w.heap.size u (minusL (zs.take k) ys) ∧ Below w.heap.size w wr) (fun _ i _ => n - (intOf i).toNat)
  case atStart => exact ⟨0, Nat.zero_le _, rfl, by simpa [minusL] using HO2.out, HB2.out⟩
  case round =>
    obtain ⟨k, hk, rfl, hown, hB⟩ := hrel
    have HO := Lib.hid hown
    have hsz := hB.size
    clear hown
    by_cases hkn : k < n
    · have i1 : (k : Int) < n := by omega
      have hkl : k < zs.length := by rw [HL.out]; exact hkn
      obtain ⟨b, off, rfl, hblt, h1⟩ := (HA.out.src HL.out) k hkn
      have hc1 : wr.cell? ⟨b, off + k, none⟩ = some (.int .i64 (zs.getD k 0)) := (hB.cell (p := ⟨b, off + k, none⟩) hblt).trans h1
      have HN := Lib.hid (minus_next zs ys k hkl)
      have hlen : (minusL (zs.take k) ys).length ≤ 10000000 := by have := minus_len zs ys k; have := HL.out; omega
      clear h1
      generalize zs.getD k 0 = v at hc1 HN
      have hcon := l1Contains_any A2 n2 c2 ys v wr w.heap.size (HB.out.below hB) HL2.out hn2
      obtain ⟨q, hq⟩ : ∃ q, q = ys.any (fun y => y == v) := ⟨_, rfl⟩
      rw [← hq] at hcon HN
      have HC := Lib.hid hcon
      clear hcon hq
      cases q
      · go_wp2_with (first
          | (go_at_call 47; refine HC.out.mono ?_; rintro e w' ⟨rfl, rfl⟩)
          | (at_builtin; refine wpl_append_int rfl _ _ (by rfl) w.heap.size _ _ _ (by rfl) HO.out (by rfl) (by omega) hsz ?_; intro v' w1 hown1 hb1 _ _))
        go_roundw
        case rel => exact ⟨k + 1, by omega, by go_num, by rw [HN.out]; exact hown1, hB.trans hb1⟩
        case measure => simp [intOf]; omega
      · go_wp2_with (first | (go_at_call 47; refine HC.out.mono ?_; rintro e w' ⟨rfl, rfl⟩))
        go_roundw
        case rel => exact ⟨k + 1, by omega, by go_num, by rw [HN.out]; simpa using HO.out, hB⟩
        case measure => simp [intOf]; omega
    · have hfin := HO.out
      rw [List.take_of_length_le (by rw [HL.out]; omega)] at hfin
      have HF := Lib.hid hfin
      clear hfin
      go_wp2
      go_ret
      exact ⟨_, rfl, HF.out, hB⟩

/-- What Survives answers. -/
def svB (zss : List (List Int)) (zs : List Int) (n : Nat) : Bool := famB zss && setB zs && anyTo (mAt zss) (63 - mkS zs) n
theorem specSurvives_any (A : Option Addr) (n c : Nat) (zss : List (List Int)) (A2 : Option Addr) (n2 c2 : Nat) (zs : List Int) (w : World) (h : Mat w w.heap.size A n zss) (hz : SzOk zss n) (hB : Row w w.heap.size A2 (zs.map (Value.int .i64))) (hl2 : zs.length = n2) (hn2 : n2 ≤ 1048576) :
    Calls Try.prog 19 #[.slice A n c, .slice A2 n2 c2] w fun e w' => e = .returned (.bool (svB zss zs n)) ∧ Below w.heap.size w w' := by
  have H1 := specFamily_any A n c zss w h hz
  have H2 := fun m : Nat => specSetValid_any A2 n2 c2 zs (w.drewN m) hB hl2 hn2
  have HL := h.len
  have HMin := fun (W : World) (hb : Below w.heap.size w W) (A1 : Option Addr) (c1 : Nat) (hr : Row W W.heap.size A1 ((ofTo 63 6).map (Value.int .i64))) (hs : setB zs = true) =>
    setMinus_any A1 6 c1 (ofTo 63 6) A2 n2 c2 zs W hr (by decide) (by omega) ((hB.below hb).more hb.size) hl2 hn2 (canon_set 63 (by omega)) hs
  have HHas := fun (W : World) (hb : Below w.heap.size w W) (A1 : Option Addr) (c1 k : Nat) (ys : List Int) (hr : Row W W.heap.size A1 (ys.map (Value.int .i64))) (hk : ys.length = k) (h6 : k ≤ 1048576) =>
    l3Has_any A n c zss A1 k c1 ys W ((h.below hb).more hb.size) hz hr hk h6
  have HE : famB zss = true → setB zs = true → minusL (ofTo 63 6) zs = ofTo (63 - mkS zs) 6 ∧ hasS zss (ofTo (63 - mkS zs) 6) n = anyTo (mAt zss) (63 - mkS zs) n := fun hf hs => by
    have h64 := mk_small hs
    refine ⟨?_, ?_⟩
    · have := minus_full _ h64
      rw [← set_canon hs] at this
      exact this
    · have := has_any (zss := zss) (canon_set (63 - mkS zs) (by omega)) n (by have := (famB_to hf).2; rw [HL] at this; exact this)
      rw [canon_mk (63 - mkS zs) (by omega)] at this
      exact this
  clear h hB HL
  unfold svB
  obtain ⟨p, hp⟩ : ∃ p, famB zss = p := ⟨_, rfl⟩
  obtain ⟨q, hq⟩ : ∃ q, setB zs = q := ⟨_, rfl⟩
  rw [hp] at H1 HE
  rw [hq] at H2 HE HMin
  rw [hp, hq]
  have K1 := Lib.hid H1
  have K2 := Lib.hid H2
  have K3 := Lib.hid HMin
  have K4 := Lib.hid HHas
  have KE := Lib.hid HE
  clear H1 H2 hp hq HMin HHas HE
  cases p
  · go_enter Try.func19, Try.ntmps19
    go_wp2_with fail
    refine K1.out.mono ?_
    rintro e wq ⟨rfl, m, rfl⟩
    go_wp2
    go_ret
    exact ⟨rfl, below_drewN (Below.refl _ _) m⟩
  cases q
  · go_enter Try.func19, Try.ntmps19
    go_wp2_with fail
    refine K1.out.mono ?_
    rintro e wq ⟨rfl, m, rfl⟩
    go_wp2_with fail
    refine (K2.out m).mono ?_
    rintro e wq ⟨rfl, m2, rfl⟩
    go_wp2
    go_ret
    exact ⟨rfl, by first | exact below_drewN (Below.refl _ _) _ | exact below_drewN (below_drewN (Below.refl _ _) _) _⟩
  · obtain ⟨e1, e2⟩ := KE.out rfl rfl
    have E1 := Lib.hid e1
    have E2 := Lib.hid e2
    clear e1 e2
    have hlen := ofTo_len (63 - mkS zs) 6
    go_enter Try.func19, Try.ntmps19
    go_wp2_with fail
    refine K1.out.mono ?_
    rintro e wq ⟨rfl, m, rfl⟩
    go_wp2_with fail
    refine (K2.out m).mono ?_
    rintro e w1 ⟨rfl, m2, hm⟩
    have hb1 : Below w.heap.size w w1 := by rw [hm]; exact below_drewN (below_drewN (Below.refl _ _) m) m2
    clear hm
    go_wp2_with fail
    refine (l1Masks_any _).mono ?_
    rintro e wy ⟨rfl, rfl⟩
    go_wp2_with fail
    refine (l1Of63 _).mono ?_
    rintro e w2 ⟨v, rfl, ho2, hb2⟩
    replace hb2 := hb1.trans (hb2.mono hb1.size)
    obtain ⟨A3, c3, hv, _, _, hr3⟩ := owns_row ho2
    have hv' : v = .slice A3 6 c3 := hv
    subst hv'
    clear hv ho2 hb1
    go_wp2_with fail
    refine (K3.out w2 hb2 A3 c3 hr3 trivial).mono ?_
    rintro e w3 ⟨v, rfl, ho3, hb3⟩
    replace hb3 := hb2.trans (hb3.mono hb2.size)
    rw [E1.out] at ho3
    obtain ⟨A4, c4, rfl, _, _, hr4⟩ := owns_row ho3
    clear ho3 hr3 hb2
    go_wp2_with fail
    refine (K4.out w3 hb3 A4 c4 _ _ hr4 rfl (by omega)).mono ?_
    rintro e w4 ⟨rfl, rfl⟩
    go_wp2
    go_ret
    exact ⟨by rw [E2.out]; rfl, hb3⟩

theorem not63 : ∀ m, m < 64 → 63 &&& (18446744073709551615 - m) = 63 - m := by decide +kernel
theorem implSurvives_any (A : Option Addr) (n c : Nat) (zss : List (List Int)) (A2 : Option Addr) (n2 c2 : Nat) (zs : List Int) (w : World) (h : Mat w w.heap.size A n zss) (hz : SzOk zss n) (hB : Row w w.heap.size A2 (zs.map (Value.int .i64))) (hl2 : zs.length = n2) (hn2 : n2 ≤ 1048576) :
    Calls Try.prog 20 #[.slice A n c, .slice A2 n2 c2] w fun e w' => e = .returned (.bool (svB zss zs n)) ∧ Below w.heap.size w w' := by
  have H1 := readFamily_any A n c zss w h hz
  have hl := h.len
  unfold FamRes at H1
  have H2 := fun (w' : World) (hb : Below w.heap.size w w') => readSet_mask A2 n2 c2 zs w' ((hB.below hb).more hb.size) hl2 hn2
  unfold MaskRes at H2
  have HG : famB zss = true → n ≤ 20 ∧ ∀ j, j < n → mAt zss j < 64 := fun hf => by
    have := famB_to hf
    rw [hl] at this
    exact ⟨this.1, fun j hj => m_small (fam_set hj this.2)⟩
  have HS : setB zs = true → mkS zs < 64 := mk_small
  clear h hB
  unfold svB
  obtain ⟨p, hp⟩ : ∃ p, famB zss = p := ⟨_, rfl⟩
  obtain ⟨q, hq⟩ : ∃ q, setB zs = q := ⟨_, rfl⟩
  rw [hp] at H1 HG
  rw [hq] at H2 HS
  rw [hp, hq]
  have K1 := Lib.hid H1
  have K2 := Lib.hid H2
  have KG := Lib.hid HG
  have KS := Lib.hid HS
  clear H1 H2 hp hq HG HS
  cases p
  · go_enter Try.func20, Try.ntmps20
    go_wp2_with fail
    refine K1.out.mono ?_
    rintro e w1 ⟨v, rfl, -, hb1⟩
    go_wp2_with fail
    refine (K2.out w1 hb1).mono ?_
    rintro e w2 ⟨m, rfl, -, rfl⟩
    go_wp2
    go_ret
    exact ⟨by rfl, hb1⟩
  cases q
  · go_enter Try.func20, Try.ntmps20
    go_wp2_with fail
    refine K1.out.mono ?_
    rintro e w1 ⟨v, rfl, -, hb1⟩
    go_wp2_with fail
    refine (K2.out w1 hb1).mono ?_
    rintro e w2 ⟨m, rfl, -, rfl⟩
    go_wp2
    go_ret
    exact ⟨by rfl, hb1⟩
  · obtain ⟨hn20, hj⟩ := KG.out rfl
    have hm64 := KS.out rfl
    have KJ := Lib.hid hj
    clear hj
    obtain ⟨M, hM⟩ : ∃ M, mkS zs = M := ⟨_, rfl⟩
    obtain ⟨N, hN⟩ : ∃ N, 63 - M = N := ⟨_, rfl⟩
    rw [hM] at hm64
    have hnt0 := u64_andNot_nat 63 M (by omega) (by omega)
    rw [not63 _ hm64, hN] at hnt0
    have hnt : bits .andNot .u64 63 (M : Int) = (N : Int) := hnt0
    rw [hM, hN]
    have hN64 : N < 64 := by omega
    have HMk : Hid (sumTo zs zs.length = M) := hM
    clear hM hN hnt0
    go_enter Try.func20, Try.ntmps20
    go_wp2_with fail
    refine K1.out.mono ?_
    rintro e w1 ⟨v, rfl, ho, hb1⟩
    have HO := Lib.hid (ho trivial)
    clear ho
    obtain ⟨AQ, cq, rfl, _, _, hqrow⟩ := owns_row HO.out
    have HQ := Lib.hid hqrow
    clear hqrow
    go_wp2_with fail
    refine (K2.out w1 hb1).mono ?_
    rintro e w2 ⟨m, rfl, hm, hw⟩
    replace hw := hw.symm
    subst hw
    have hm2 : M = m := (by rw [hm trivial]; exact HMk.out.symm)
    clear hm
    subst hm2
    have HB1 := Lib.hid hb1
    clear hb1
    go_wp2_with fail
    refine (reached_any (mAt zss) AQ n cq N w1 _ HQ.out KJ.out hN64 hn20).mono ?_
    rintro e w3 ⟨rfl, rfl⟩
    go_wp2
    go_ret
    exact ⟨by first | rfl | simp, HB1.out⟩

theorem exactSurvives_walk (A : Option Addr) (n c : Nat) (zss : List (List Int)) (A2 : Option Addr) (n2 c2 : Nat) (zs : List Int) (w : World) (h : Mat w w.heap.size A n zss ∧ n ≤ c ∧ c ≤ maxLen) (h2 : Ints .i64 w A2 n2 c2 zs) :
    Calls Try.prog 5 #[.slice A n c, .slice A2 n2 c2] w fun e w' => e = .returned (.bool true) ∧ Below w.heap.size w w' := by
  have hA : ArgM w A n c zss := h
  have hcap2 := h2.cap
  have hmx2 := h2.max
  have hl2 := Lib.hid h2.len
  unfold maxLen at hmx2
  clear h
  by_cases hbig : 1048576 < n2
  · go_enter Try.func5, Try.ntmps5
    go_wp2
    go_ret
    exact ⟨rfl, Below.refl _ _⟩
  have hn2 : n2 ≤ 1048576 := by omega
  go_enter Try.func5, Try.ntmps5
  go_wp2_with fail
  refine (szSS hA (by omega) (by omega)).mono ?_
  rintro e wz ⟨r, rfl, hwz, -, hz⟩
  subst hwz
  by_cases hr : r < 0
  · go_wp2_with fail
    go_ret
    exact ⟨rfl, Below.refl _ _⟩
  replace hz := hz (by omega)
  go_wp2_with fail
  refine (copySS hA hz (Below.refl _ _)).mono ?_
  rintro e w1 ⟨rfl, C1, -, hb1⟩
  go_wp2_with fail
  refine (copyS h2 hn2 hb1).mono ?_
  rintro e w2 ⟨rfl, ⟨D2, lt2⟩, hb21, hb2⟩
  replace C1 := C1.below hb21
  replace D2 : CpS w2 w1.heap.size zs := D2
  go_wp2_with fail
  refine (specSurvives_any _ n n zss _ n2 n2 zs w2 C1.mat hz D2.row hl2.out hn2).mono ?_
  rintro e w3 ⟨rfl, hm⟩
  have hb3 : Below wz.heap.size wz w3 := hb2.trans (hm.mono hb2.size)
  clear hm C1 D2 hb21 hb1 hb2 lt2
  go_wp2_with fail
  refine (copySS hA hz hb3).mono ?_
  rintro e w4 ⟨rfl, C4, -, hb4⟩
  go_wp2_with fail
  refine (copyS h2 hn2 hb4).mono ?_
  rintro e w5 ⟨rfl, ⟨D5, lt5⟩, hb54, hb5⟩
  replace C4 := C4.below hb54
  replace D5 : CpS w5 w4.heap.size zs := D5
  go_wp2_with fail
  refine (implSurvives_any _ n n zss _ n2 n2 zs w5 C4.mat hz D5.row hl2.out hn2).mono ?_
  rintro e w6 ⟨rfl, hb6⟩
  replace C4 := C4.below hb6
  replace D5 := D5.below hb6
  have hb6' : Below wz.heap.size wz w6 := hb5.trans (hb6.mono hb5.size)
  clear hb6 lt5 hb54
  go_wp2_with fail
  refine (copySS hA hz hb6').mono ?_
  rintro e w7 ⟨rfl, C7, hb76, hb7⟩
  replace C4 := C4.below hb76
  replace D5 := D5.below hb76
  go_wp2_with fail
  refine (eqSS C4 C7 hb7).mono ?_
  rintro e w8 ⟨rfl, hb87, hb8⟩
  replace D5 := D5.below hb87
  clear C4 C7
  go_wp2_with fail
  refine (copyS h2 hn2 hb8).mono ?_
  rintro e w9 ⟨rfl, ⟨D9, lt9⟩, hb98, hb9⟩
  replace D5 := D5.below hb98
  replace D9 : CpS w9 w8.heap.size zs := D9
  go_wp2_with fail
  refine (eqS D5 D9 hl2.out hn2 hb9).mono ?_
  rintro e wf ⟨rfl, -, hbf⟩
  go_wp2
  go_ret
  exact ⟨rfl, hbf⟩
end Go.Proofs.Ytiepoadnncnbkaa
