/- The law FnSmallestQuorum: its draw and its walk. -/
import Derived.Test.YtiepoadnncnbkaaSqQ
import Derived.Test.YtiepoadnncnbkaaFam6
namespace Go.Proofs.Ytiepoadnncnbkaa
open Go.RowKit
set_option maxHeartbeats 4000000
set_option linter.unusedVariables false

/-- One of the first k numbers is x. -/
def hasTo (g : Nat → Nat) (x : Nat) : Nat → Bool
  | 0 => false
  | k + 1 => hasTo g x k || (g k == x)
theorem minTo_at (g : Nat → Nat) : ∀ n, minTo g n = 6 ∨ ∃ j, j < n ∧ g j = minTo g n
  | 0 => .inl rfl
  | n + 1 => by
    have hd : minTo g (n + 1) = min (minTo g n) (g n) := rfl
    rcases minTo_at g n with h | ⟨j, hj, h⟩
    · by_cases hc : g n < 6
      · exact .inr ⟨n, by omega, by omega⟩
      · exact .inl (by omega)
    · by_cases hc : g n < minTo g n
      · exact .inr ⟨n, by omega, by omega⟩
      · exact .inr ⟨j, by omega, by omega⟩
theorem minTo_lo (g : Nat → Nat) : ∀ n k, k < n → minTo g n ≤ g k
  | 0, k, h => by omega
  | n + 1, k, h => by
    have hd : minTo g (n + 1) = min (minTo g n) (g n) := rfl
    by_cases e : k = n
    · subst e; omega
    · have := minTo_lo g n k (by omega)
      omega
theorem hasTo_yes {g : Nat → Nat} {x j : Nat} (h : g j = x) : ∀ n, j < n → hasTo g x n = true
  | 0, hj => by omega
  | n + 1, hj => by
    show (hasTo g x n || (g n == x)) = true
    by_cases e : j = n
    · subst e; simp [h]
    · rw [hasTo_yes h n (by omega)]; rfl
theorem minTo_has {g : Nat → Nat} {n : Nat} (hn : 0 < n) (h6 : ∀ k, k < n → g k ≤ 6) : hasTo g (minTo g n) n = true := by
  rcases minTo_at g n with h | ⟨j, hj, h⟩
  · have h0 := minTo_lo g n 0 hn
    have h1 := h6 0 hn
    exact hasTo_yes (j := 0) (by omega) n hn
  · exact hasTo_yes h n hj

theorem drawSmallest_any (A : Option Addr) (n c : Nat) (zs0 : List Int) (w : World) (h : Ints .u8 w A n c zs0) : Calls Try.prog 27 #[.slice A n c] w fun e w' =>
    ∃ v rows, e = .returned v ∧ OwnM w' w.heap.size v rows ∧ (rows.length ≤ 65 ∧ ∀ z ∈ rows, Short z) ∧ Below w.heap.size w w' := by
  go_enter Try.func27, Try.ntmps27
  go_wp2_with fail
  (refine (l6Open_any A n c zs0 _ w h (by (repeat (first | (with_reducible exact Below.refl _ _) | (with_reducible assumption) | (with_reducible refine below_drewN ?_ _) | (with_reducible refine Below.drew ?_) | (with_reducible refine Below.alloc ?_ (by (first | omega | (show _ < _; omega) | (simp; omega) | (simp; done))) _) | (with_reducible refine Below.setCell ?_ (by (first | omega | (show _ < _; omega) | (simp; omega) | (simp; done))) _) | (with_reducible refine Below.trans ?_ (Below.mono (by with_reducible assumption) (by (first | omega | (show _ < _; omega) | (simp; omega) | (simp; done))))) | (with_reducible refine below_grown ?_ (by with_reducible assumption) (by (first | omega | (show _ < _; omega) | (simp; omega) | (simp; done))) (by (first | omega | (show _ < _; omega) | (simp; omega) | (simp; done)))))))).mono ?_; rintro e w1 ⟨rfl, n', c', hw1, hrd⟩; have hbw1 : Below w.heap.size w w1 := (by rw [hw1]; exact (Below.refl _ _).alloc (Nat.le_refl _) _); have hsw1 : w.heap.size + 1 ≤ w1.heap.size := (by rw [hw1]; simp); clear hw1)
  go_wp2_with fail
  refine (l91Family_any _ 0 _ hrd (by omega)).mono ?_
  rintro e w2 ⟨v, rows, rfl, hown, hsh, _, hg2⟩
  have HO := Lib.hid (hown.less (B' := w.heap.size) (by omega))
  have hbw2 : Below w.heap.size w w2 := hbw1.trans (below_grown (Below.refl w.heap.size w1) hg2 (by omega) (Nat.le_refl _))
  clear hg2 hown
  go_wp2_with fail
  go_ret
  exact ⟨_, rows, rfl, HO.out, hsh, hbw2⟩

theorem smallestQuorum_walk (A : Option Addr) (n c : Nat) (zs0 : List Int) (w : World) (h : Ints .u8 w A n c zs0) :
    Calls Try.prog 9 #[.slice A n c] w fun e w' => e = .returned (.bool true) ∧ Below w.heap.size w w' := by
  have hmx := h.max
  unfold maxLen at hmx
  by_cases hl : 1048576 < n
  · go_enter Try.func9, Try.ntmps9
    go_wp2
    go_ret
    exact ⟨rfl, Below.refl _ _⟩
  go_enter Try.func9, Try.ntmps9
  go_wp2_with fail
  refine (drawSmallest_any A n c zs0 w h).mono ?_
  rintro e w1 ⟨v, zss, rfl, hown, ⟨h65, hsh⟩, hb1⟩
  obtain ⟨A9, c9, rfl, hc1, hc2, hM, hZ⟩ := hown.mat (by omega) hsh
  obtain ⟨L, hL⟩ : ∃ L, zss.length = L := ⟨_, rfl⟩
  rw [hL] at hM hZ hc1
  rw [hL]
  have HSx : Hid (∀ k, k < L → ln zss k ≤ 6) := Lib.hid (fun k hk => (hsh (zss.getD k []) (by
    rw [List.getD_eq_getElem?_getD]
    have hk' : k < zss.length := by omega
    simp [hk'])).1)
  have h65' : L ≤ 65 := by omega
  have HI := Lib.hid (implSmallest_any A9 L c9 zss w1 hM hZ)
  have HM1 := Lib.hid hM
  have HZ := Lib.hid hZ
  unfold maxLen at hc2
  clear hown hsh hL hM hZ h65
  go_wp2_with fail
  refine HI.out.mono ?_
  rintro e w2 ⟨rfl, hb2⟩
  have HM2 := Lib.hid ((HM1.out.below hb2).more hb2.size)
  replace hb2 := hb1.trans (hb2.mono hb1.size)
  have HS2 := Lib.hid (specSmallest_any A9 L c9 zss w2 HM2.out HZ.out)
  clear hb1 HM1 HI
  obtain ⟨r, hr⟩ : ∃ r, sqV zss L = r := ⟨_, rfl⟩
  rw [hr] at HS2
  rw [hr]
  by_cases hcase : famB zss = true ∧ 0 < L
  · rw [sq_yes hcase.1 hcase.2] at hr
    obtain ⟨M, hMn⟩ : ∃ M, minTo (ln zss) L = M := ⟨_, rfl⟩
    rw [hMn] at hr
    have HLo : Hid (∀ k, k < L → M ≤ ln zss k) := Lib.hid (fun k hk => by rw [← hMn]; exact minTo_lo _ L k hk)
    have HHas : Hid (hasTo (ln zss) M L = true) := Lib.hid (by rw [← hMn]; exact minTo_has hcase.2 HSx.out)
    have hL0 := hcase.2
    subst hr
    clear hcase hMn HSx
    have hnn : ¬ ((M : Int) < 0) := by omega
    go_wp2_with fail
    refine HS2.out.mono ?_
    rintro e w3 ⟨rfl, m, hm⟩
    have HM3 : Hid (Mat w3 w3.heap.size A9 L zss) := Lib.hid (by subst hm; exact HM2.out.drewN m)
    have hb3 : Below w.heap.size w w3 := by subst hm; exact below_drewN hb2 m
    clear hm HM2 HS2 hb2
    go_wp2_with fail
    go_loop [5, 6] (fun u i => ∃ k : Nat, k ≤ L ∧ i = .int .i64 k ∧ u = .bool (hasTo (ln zss) M k)) (fun _ i => L - (intOf i).toNat)
    case atStart => exact ⟨0, Nat.zero_le _, rfl, rfl⟩
    case round =>
      obtain ⟨k, hk, rfl, rfl⟩ := hrel
      by_cases hkn : k < L
      · have i1 : (k : Int) < L := by omega
        obtain ⟨b, off, C, cc, g⟩ := HM3.out.get hkn
        have G := Lib.hid g
        obtain rfl := g.adr
        have hcell := g.cell
        have hlo := HLo.out k hkn
        have HX := Lib.hid (show hasTo (ln zss) M (k + 1) = (hasTo (ln zss) M k || (ln zss k == M)) from rfl)
        clear g
        generalize ln zss k = x at *
        generalize hasTo (ln zss) M k = fb at *
        have i2 : ¬ ((x : Int) < (M : Int)) := by omega
        cases fb
        · by_cases hx : x = M
          · subst hx
            go_wp2
            go_round
            case rel => exact ⟨k + 1, by omega, by go_num, by rw [HX.out]; simp⟩
            case measure => simp [intOf]; omega
          · have i3 : ((x : Int) == (M : Int)) = false := by simp; omega
            go_wp2
            go_round
            case rel => exact ⟨k + 1, by omega, by go_num, by rw [HX.out]; simp [hx]⟩
            case measure => simp [intOf]; omega
        · go_wp2
          go_round
          case rel => exact ⟨k + 1, by omega, by go_num, by rw [HX.out]; simp⟩
          case measure => simp [intOf]; omega
      · obtain rfl : k = L := by omega
        have hH := HHas.out
        go_wp2
        go_ret
        exact ⟨rfl, hb3⟩
  · have hno : famB zss = false ∨ L = 0 := by
      cases hf : famB zss
      · exact .inl rfl
      · exact .inr (by simp [hf] at hcase; omega)
    rw [sq_no hno] at hr
    subst hr
    clear hcase
    go_wp2_with fail
    refine HS2.out.mono ?_
    rintro e w3 ⟨rfl, m, hm⟩
    have HM3 : Hid (Mat w3 w3.heap.size A9 L zss) := Lib.hid (by subst hm; exact HM2.out.drewN m)
    have hb3 : Below w.heap.size w w3 := by subst hm; exact below_drewN hb2 m
    clear hm HM2 HS2 hb2
    have HS3 := specSmallest_any A9 L c9 zss w3 HM3.out HZ.out
    rw [sq_no hno] at HS3
    have HS4 := Lib.hid HS3
    clear HS3
    go_wp2_with fail
    refine HS4.out.mono ?_
    rintro e w4 ⟨rfl, m, hm⟩
    have HM4 : Hid (Mat w4 w4.heap.size A9 L zss) := Lib.hid (by subst hm; exact HM3.out.drewN m)
    have hb4 : Below w.heap.size w w4 := by subst hm; exact below_drewN hb3 m
    clear hm HM3 HS4 hb3
    have HF := Lib.hid (implFamily_any A9 L c9 zss w4 HM4.out HZ.out)
    obtain ⟨p, hp⟩ : ∃ p, famB zss = p := ⟨_, rfl⟩
    rw [hp] at HF hno
    clear hp
    go_wp2_with fail
    refine HF.out.mono ?_
    rintro e w5 ⟨rfl, hb5⟩
    replace hb5 := hb4.trans (hb5.mono hb4.size)
    clear hb4 HF HM4
    cases p
    · go_wp2
      go_ret
      exact ⟨rfl, hb5⟩
    · have hL0 : L = 0 := by simpa using hno
      subst hL0
      go_wp2
      go_ret
      exact ⟨rfl, hb5⟩
end Go.Proofs.Ytiepoadnncnbkaa
