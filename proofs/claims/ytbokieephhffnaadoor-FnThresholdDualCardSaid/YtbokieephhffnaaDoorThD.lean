/- The law FnThresholdDual's walk. -/
import Derived.Test.YtbokieephhffnaaDoorThr2
import Derived.Test.YtbokieephhffnaaDoorExZ
import Derived.Test.YtbokieephhffnaaDoorDr2
namespace Go.Proofs.YtbokieephhffnaaDoor
open Go.RowKit
set_option maxHeartbeats 8000000
set_option linter.unusedVariables false

theorem drawThr_any (A : Option Addr) (n c : Nat) (zs0 : List Int) (w : World) (h : Ints .u8 w A n c zs0) : Calls Tryd.prog 9 #[.slice A n c] w fun e w' =>
    ∃ (k : Nat) (A' : Option Addr) (n' c' : Nat) (zs : List Int), e = .returned (.tuple #[.int .i64 (k : Int), .slice A' n' c']) ∧ k < 7 ∧ zs.length = n' ∧ n' ≤ 7 ∧ Row w' w'.heap.size A' (zs.map (Value.int .i64)) ∧ Below w.heap.size w w' := by
  go_enter Tryd.func9, Tryd.ntmps9
  go_wp2_with fail
  (refine (l6Open_any A n c zs0 _ w h (by (repeat (first | (with_reducible exact Below.refl _ _) | (with_reducible assumption) | (with_reducible refine below_drewN ?_ _) | (with_reducible refine Below.drew ?_) | (with_reducible refine Below.alloc ?_ (by (first | omega | (show _ < _; omega) | (simp; omega) | (simp; done))) _) | (with_reducible refine Below.setCell ?_ (by (first | omega | (show _ < _; omega) | (simp; omega) | (simp; done))) _) | (with_reducible refine Below.trans ?_ (Below.mono (by with_reducible assumption) (by (first | omega | (show _ < _; omega) | (simp; omega) | (simp; done))))) | (with_reducible refine below_grown ?_ (by with_reducible assumption) (by (first | omega | (show _ < _; omega) | (simp; omega) | (simp; done))) (by (first | omega | (show _ < _; omega) | (simp; omega) | (simp; done)))))))).mono ?_; rintro e w1 ⟨rfl, n', c', hw1, hrd⟩; have hbw1 : Below w.heap.size w w1 := (by rw [hw1]; exact (Below.refl _ _).alloc (Nat.le_refl _) _); have hsw1 : w.heap.size + 1 ≤ w1.heap.size := (by rw [hw1]; simp); clear hw1)
  go_wp2_with fail
  (apply Calls.mono; focus (apply pick_abs; exact hrd; omega)); rintro e wa ⟨xa, rfl, hx0a, hx1a, hrda, hsza, hcpa, hfpa, hgpa⟩
  replace hx1a := hx1a (by omega)
  replace hsza := Nat.le_of_eq hsza.symm
  have hbwa := below_grown hbw1 hgpa (by omega) (Nat.le_refl _)
  clear hcpa hfpa hgpa hrd
  obtain ⟨k, rfl⟩ := Int.eq_ofNat_of_zero_le hx0a
  go_wp2_with fail
  refine (l91Set_any _ _ _ hrda (by omega)).mono ?_
  rintro e w3 ⟨A', n', c', zs, rfl, hl, hn, hrow, _, hg⟩
  have HB := Lib.hid (below_grown hbwa hg (by omega) (Nat.le_refl _))
  have HR := Lib.hid hrow
  have HL := Lib.hid hl
  clear hg hrow hl
  go_wp2_with fail
  go_ret2
  exact ⟨k, A', n', c', zs, rfl, by omega, HL.out, hn, HR.out, HB.out⟩

theorem dual_leaf : ∀ zs : List Int, dualL (zs.map leafOf) = zs.map leafOf
  | [] => rfl
  | a :: l => by
    show dualT (leafOf a) :: dualL (l.map leafOf) = _
    rw [dual_leaf l]
    rfl
theorem dual_thr (k : Nat) (zs : List Int) : dualT (thrT k zs) = thrT (zs.length - k + 1) zs := by
  show Tr.gate ((zs.map leafOf).length - k + 1) (dualL (zs.map leafOf)) = _
  rw [dual_leaf, List.length_map]
  rfl
theorem dig_x {n : Nat} (h : n < 10) : ∃ x : UInt8, Lib.decDigits n = [x] ∧ x.toNat = 48 + n := ⟨UInt8.ofNat (48 + n), dig_one n h, by simp; omega⟩
theorem bt_list (l : List UInt8) (i : Nat) (x : UInt8) (h : l[i]? = some x) : bt ⟨l.toArray⟩ i = x.toNat := by
  obtain ⟨hi, e⟩ := List.getElem?_eq_some_iff.1 h
  rw [bt_at (show i < (⟨l.toArray⟩ : ByteArray).size by rw [size_bytes]; exact hi), ← e]
  rfl
/-- A threshold's text reads as the threshold. -/
theorem pl_thr {s : ByteArray} : ∀ (zs : List Int) (f i : Nat), zs ≠ [] → (∀ z ∈ zs, 1 ≤ z ∧ z ≤ 6) → zs.length ≤ f →
    (∀ (j : Nat) x, (Lib.join (fmtL zs) [44] ++ [41])[j]? = some x → bt s (i + j) = x.toNat) →
    pl s (pe s (f + 1)) f i = some (zs.map leafOf, i + (Lib.join (fmtL zs) [44]).length + 1)
  | [], f, i, h, _, _, _ => absurd rfl h
  | [a], f, i, _, hb, hf, hd => by
    obtain ⟨f', rfl⟩ : ∃ f', f = f' + 1 := ⟨f - 1, by simp at hf; omega⟩
    have ha := hb a (by simp)
    obtain ⟨x, hx, hxn⟩ := dig_x (n := a.toNat) (by omega)
    have hj : Lib.join (fmtL [a]) [44] = [x] := by
      show Lib.join [Lib.decDigits a.toNat] [44] = _
      rw [hx]
      simp [Lib.join]
    rw [hj] at hd ⊢
    have h0 := hd 0 x rfl
    have h1 : bt s (i + 1) = 41 := hd 1 41 rfl
    rw [Nat.add_zero] at h0
    have hpe : pe s (f' + 1 + 1) i = some (.leaf a.toNat, i + 1) := by
      rw [pe_leaf (by rw [h0]; exact isD_iff.2 (by omega)) (by rw [h1]; decide), h0, hxn]
      simp only [Option.some.injEq, Prod.mk.injEq, Tr.leaf.injEq, and_true]
      omega
    unfold pl
    simp only [hpe]
    rw [if_pos h1]
    rfl
  | a :: b :: l, f, i, _, hb, hf, hd => by
    obtain ⟨f', rfl⟩ : ∃ f', f = f' + 1 := ⟨f - 1, by simp at hf; omega⟩
    have ha := hb a (by simp)
    obtain ⟨x, hx, hxn⟩ := dig_x (n := a.toNat) (by omega)
    have hj : Lib.join (fmtL (a :: b :: l)) [44] = x :: 44 :: Lib.join (fmtL (b :: l)) [44] := by
      show Lib.join (Lib.decDigits a.toNat :: fmtL (b :: l)) [44] = _
      rw [join_cons [44] _ (by simp [fmtL]), hx]
      rfl
    rw [hj] at hd ⊢
    have h0 := hd 0 x rfl
    have h1 : bt s (i + 1) = 44 := hd 1 44 rfl
    rw [Nat.add_zero] at h0
    have hpe : pe s (f' + 1 + 1) i = some (.leaf a.toNat, i + 1) := by
      rw [pe_leaf (by rw [h0]; exact isD_iff.2 (by omega)) (by rw [h1]; decide), h0, hxn]
      simp only [Option.some.injEq, Prod.mk.injEq, Tr.leaf.injEq, and_true]
      omega
    have ih := pl_thr (s := s) (b :: l) f' (i + 2) (by simp) (fun z hz => hb z (List.mem_cons_of_mem _ hz)) (by simp at hf ⊢; omega)
      (fun j y hy => by
        have := hd (j + 2) y hy
        rw [show i + 2 + j = i + (j + 2) by omega]
        exact this)
    have ih2 := pl_mono (g' := pe s (f' + 1 + 1)) (fun i x h => pe_mono (f' + 1) (f' + 1 + 1) i x (by omega) h) f' f' (i + 2) _ (Nat.le_refl _) ih
    unfold pl
    simp only [hpe]
    rw [if_neg (by rw [h1]; decide), if_pos h1, show i + 1 + 1 = i + 2 by omega, ih2]
    simp only [Option.some.injEq, Prod.mk.injEq]
    exact ⟨rfl, by simp; omega⟩
theorem thr_tree {k : Nat} {zs : List Int} (h1 : 1 ≤ k) (h2 : k ≤ zs.length) (h : setB zs = true) : exOk (thrS k zs) = true ∧ tree (thrS k zs) = some (thrT k zs, (thrS k zs).size) := by
  have h6 := fm_len h
  have hbd := set_bd h
  have hjl := join_set h
  obtain ⟨x, hx, hxn⟩ := dig_x (n := k) (by omega)
  have hne : zs ≠ [] := by intro e; subst e; simp at h2; omega
  have htx : textT (thrT k zs) = x :: 40 :: (Lib.join (fmtL zs) [44] ++ [41]) := by
    rw [thr_text, hx]
    rfl
  have hsz : (thrS k zs).size = (Lib.join (fmtL zs) [44]).length + 3 := by
    unfold thrS
    rw [size_bytes, htx]
    simp
  have hbt : ∀ (j : Nat) y, (x :: 40 :: (Lib.join (fmtL zs) [44] ++ [41]))[j]? = some y → bt (thrS k zs) j = y.toNat := fun j y hy => by
    unfold thrS
    rw [htx]
    exact bt_list _ j y hy
  have b0 := hbt 0 x rfl
  have b1 : bt (thrS k zs) 1 = 40 := hbt 1 40 rfl
  have hjz : zs.length ≤ (Lib.join (fmtL zs) [44]).length := by
    clear hbt b0 b1 htx hsz hjl h6 h2 h
    induction zs with
    | nil => simp
    | cons a l ih =>
      obtain ⟨y, hy, _⟩ := dig_x (n := a.toNat) (by have := hbd a (by simp); omega)
      cases l with
      | nil =>
        show _ ≤ (Lib.join [Lib.decDigits a.toNat] [44]).length
        rw [hy]
        simp [Lib.join]
      | cons b l =>
        have := ih (fun z hz => hbd z (List.mem_cons_of_mem _ hz)) (by simp)
        show _ ≤ (Lib.join (Lib.decDigits a.toNat :: fmtL (b :: l)) [44]).length
        rw [join_cons [44] _ (by simp [fmtL]), hy]
        simp at this ⊢
        omega
  have htree : tree (thrS k zs) = some (thrT k zs, (thrS k zs).size) := by
    unfold tree
    obtain ⟨f, hf⟩ : ∃ f, (thrS k zs).size = f + 1 := ⟨(thrS k zs).size - 1, by omega⟩
    have hpl := pl_thr (s := thrS k zs) zs f 2 hne hbd (by omega) (fun j y hy => by
      rw [Nat.add_comm]
      exact hbt (j + 2) y hy)
    have hpl2 := pl_mono (g' := pe (thrS k zs) (f + 1)) (fun i x h => h) f (f + 1) 2 _ (by omega) hpl
    rw [hf]
    unfold pe
    rw [b0, if_pos (isD_iff.2 (by omega)), show (0 : Nat) + 1 = 1 from rfl, b1, if_pos rfl, show (0 : Nat) + 2 = 2 from rfl, hpl2]
    simp only
    rw [if_pos ⟨by rw [List.length_map]; exact h6, by rw [List.length_map, hxn]; omega⟩, hxn]
    simp only [Option.some.injEq, Prod.mk.injEq]
    refine ⟨?_, by omega⟩
    unfold thrT
    rw [show 48 + k - 48 = k by omega]
  refine ⟨?_, htree⟩
  rw [exOk_some (by omega) htree]
  simp

theorem thresholdDual_walk (A : Option Addr) (n c : Nat) (zs0 : List Int) (w : World) (h : Ints .u8 w A n c zs0) : Calls Tryd.prog 4 #[.slice A n c] w fun e w' => e = .returned (.bool true) ∧ Below w.heap.size w w' := by
  have hmx := h.max
  have hcp := h.cap
  unfold maxLen at hmx
  by_cases hl : 1048576 < n
  · have hl2 : (1048576 : Int) < n := by omega
    go_enter Tryd.func4, Tryd.ntmps4
    go_wp2
    go_ret
    exact ⟨rfl, Below.refl _ _⟩
  have hl2 : ¬ (1048576 : Int) < n := by omega
  go_enter Tryd.func4, Tryd.ntmps4
  go_wp2_with fail
  refine (drawThr_any A n c zs0 _ h).mono ?_
  rintro e wd ⟨k, A', n', c', zs, rfl, hk7, hlen, hn7, hrow, hbd⟩
  clear h
  have HBd := Lib.hid hbd
  have HR := Lib.hid hrow
  have HL := Lib.hid hlen
  clear hbd hrow hlen
  go_wp2_with fail
  refine (specThr_is k A' n' c' zs wd HR.out HL.out (by omega)).mono ?_
  rintro e w1 ⟨rfl, hb1⟩
  have HB1 := Lib.hid (HBd.out.trans (hb1.mono HBd.out.size))
  have HR1 := Lib.hid ((HR.out.below hb1).more hb1.size)
  clear hb1
  go_wp2_with fail
  refine (implThr_is k A' n' c' zs w1 HR1.out HL.out (by omega)).mono ?_
  rintro e w2 ⟨rfl, hb2⟩
  have HB2 := Lib.hid (HB1.out.trans (hb2.mono HB1.out.size))
  have HR2 := Lib.hid ((HR1.out.below hb2).more hb2.size)
  clear hb2
  by_cases hok : setB zs = true ∧ 1 ≤ (k : Int) ∧ (k : Int) ≤ zs.length
  · obtain ⟨hs, hk1, hk2⟩ := hok
    have e1 : thrO (k : Int) zs = (thrS k zs, true) := by
      unfold thrO
      rw [if_pos ⟨hs, hk1, hk2⟩, Int.toNat_natCast]
    have e2 : thrO ((n' : Int) - k + 1) zs = (thrS (zs.length - k + 1) zs, true) := by
      unfold thrO
      rw [if_pos ⟨hs, by have := HL.out; omega, by have := HL.out; omega⟩]
      have := HL.out
      rw [show ((n' : Int) - k + 1).toNat = zs.length - k + 1 by omega]
    obtain ⟨t1, t2⟩ := thr_tree (k := k) (by omega) (by omega) hs
    have hdu := implDual_yes (thrS k zs) (thrT k zs) (by have := (exOk_tree t1).1; omega) t1 t2
    rw [show duS (thrT k zs) = thrS (zs.length - k + 1) zs by unfold duS thrS; rw [dual_thr]] at hdu
    have HD := Lib.hid hdu
    have HI := Lib.hid (fun W hW => implThr_is ((n' : Int) - k + 1) A' n' c' zs W hW HL.out (by omega))
    rw [e2] at HI
    rw [e1]
    have hk2' := hk2
    rw [HL.out] at hk2'
    have j1 : IntKind.i64.wrap ((n' : Int) - k) = (n' : Int) - k := IntWalk.i64_in _ (by omega)
    have j2 : IntKind.i64.wrap ((n' : Int) - k + 1) = (n' : Int) - k + 1 := IntWalk.i64_in _ (by omega)
    clear e1 e2 t1 t2 hdu hs hk2
    generalize thrS k zs = s1 at HD ⊢
    generalize thrS (zs.length - k + 1) zs = s2 at HD HI
    go_wp2_with fail
    refine (HI.out _ HR2.out).mono ?_
    rintro e w3 ⟨rfl, hb3⟩
    have HB3 := Lib.hid (HB2.out.trans (hb3.mono HB2.out.size))
    clear hb3
    go_wp2_with fail
    refine (HD.out _).mono ?_
    rintro e w4 ⟨rfl, hb4⟩
    have HB4 := Lib.hid (HB3.out.trans (hb4.mono HB3.out.size))
    clear hb4
    go_wp2_with fail
    go_ret
    exact ⟨rfl, HB4.out⟩
  · have e1 : thrO (k : Int) zs = (⟨#[]⟩, false) := by
      unfold thrO
      rw [if_neg hok]
    rw [e1]
    clear e1 hok
    go_wp2_with fail
    go_ret
    exact ⟨rfl, HB2.out⟩
end Go.Proofs.YtbokieephhffnaaDoor
