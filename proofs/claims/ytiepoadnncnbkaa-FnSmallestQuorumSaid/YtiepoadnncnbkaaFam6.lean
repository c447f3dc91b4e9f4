/- SmallestQuorum: the reference's, the program's, the law FnExactSmallestQuorum. -/
import Derived.Test.YtiepoadnncnbkaaFam4
namespace Go.Proofs.Ytiepoadnncnbkaa
open Go.RowKit
set_option maxHeartbeats 4000000

def o1 (m : Int) : Int := IntKind.u64.wrap (bits .and .u64 (m / 2) 6148914691236517205 + bits .and .u64 m 6148914691236517205)
def o2 (x : Int) : Int := IntKind.u64.wrap (bits .and .u64 (x / 4) 3689348814741910323 + bits .and .u64 x 3689348814741910323)
def o3 (x : Int) : Int := bits .and .u64 (IntKind.u64.wrap (x / 16 + x)) 1085102592571150095
def o4 (x : Int) : Int := IntKind.u64.wrap (x + x / 256)
def o5 (x : Int) : Int := IntKind.u64.wrap (x + x / 65536)
def o6 (x : Int) : Int := IntKind.u64.wrap (x + x / 4294967296)
theorem ones_eq : ∀ m : Nat, m < 64 → bits .and .i64 (wrap64 (o6 (o5 (o4 (o3 (o2 (o1 (m : Int)))))))) 127 = ((cnt m : Nat) : Int) := by decide +kernel
set_option maxRecDepth 100000 in
theorem ones64_any (m : Nat) (hm : m < 64) (w : World) : Calls Try.prog 60 #[.int .u64 m] w fun e w' => e = .returned (.int .i64 (cnt m : Nat)) ∧ w' = w := by
  go_enter Try.func60, Try.ntmps60
  go_wp2
  go_ret
  refine ⟨congrArg (fun x => Ending.returned (.int .i64 x)) ?_, rfl⟩
  exact ones_eq m hm
theorem many_any (m : Nat) (hm : m < 64) (w : World) : Calls Try.prog 39 #[.int .u64 m] w fun e w' => e = .returned (.int .i64 (cnt m : Nat)) ∧ w' = w := by
  have HC := Lib.hid (ones64_any m hm w)
  go_enter Try.func39, Try.ntmps39
  go_wp2_with (first | (go_at_call 60; refine HC.out.mono ?_; rintro e w' ⟨rfl, rfl⟩) | go_in)
  go_ret
  exact ⟨rfl, rfl⟩

/-- The least of the first k numbers, and at most 6. -/
def minTo (g : Nat → Nat) : Nat → Nat
  | 0 => 6
  | k + 1 => min (minTo g k) (g k)
theorem minTo_eq {g g' : Nat → Nat} : ∀ n, (∀ k, k < n → g k = g' k) → minTo g n = minTo g' n
  | 0, _ => rfl
  | n + 1, h => by
    show min (minTo g n) (g n) = min (minTo g' n) (g' n)
    rw [minTo_eq n (fun k hk => h k (by omega)), h n (by omega)]
theorem minTo_le (g : Nat → Nat) : ∀ n, minTo g n ≤ 6
  | 0 => Nat.le_refl _
  | n + 1 => Nat.le_trans (Nat.min_le_left _ _) (minTo_le g n)
/-- What SmallestQuorum answers. -/
def sqV (zss : List (List Int)) (n : Nat) : Int := if famB zss = true ∧ 0 < n then (minTo (ln zss) n : Nat) else -1
theorem sq_no {zss : List (List Int)} {n : Nat} (h : famB zss = false ∨ n = 0) : sqV zss n = -1 := by
  unfold sqV
  rw [if_neg]
  rintro ⟨h1, h2⟩
  rcases h with h | h
  · rw [h] at h1; cases h1
  · omega
theorem sq_yes {zss : List (List Int)} {n : Nat} (h : famB zss = true) (hn : 0 < n) : sqV zss n = (minTo (ln zss) n : Nat) := by
  unfold sqV
  rw [if_pos ⟨h, hn⟩]
theorem ln_cnt {zss : List (List Int)} {n k : Nat} (h : famTo zss n = true) (hk : k < n) : ln zss k = cnt (mAt zss k) := cnt_set (fam_set hk h)
theorem min_cast (a b : Nat) : min (a : Int) (b : Int) = ((min a b : Nat) : Int) := by omega
theorem ret_i {a b : Int} (h : a = b) : Ending.returned (.int .i64 a) = .returned (.int .i64 b) := by rw [h]

theorem specSmallest_any (A : Option Addr) (n c : Nat) (zss : List (List Int)) (w : World) (h : Mat w w.heap.size A n zss) (hz : SzOk zss n) :
    Calls Try.prog 21 #[.slice A n c] w fun e w' => e = .returned (.int .i64 (sqV zss n)) ∧ ∃ m, w' = w.drewN m := by
  have H1 := specFamily_any A n c zss w h hz
  have hn1 := hz.1
  have HL := Lib.hid h.len
  have HM := Lib.hid h
  clear h hz
  obtain ⟨p, hp⟩ : ∃ p, famB zss = p := ⟨_, rfl⟩
  obtain ⟨r, hr⟩ : ∃ r, r = sqV zss n := ⟨_, rfl⟩
  rw [hp] at H1
  rw [← hr]
  have K1 := Lib.hid H1
  have HP := Lib.hid hp
  have HR := Lib.hid hr
  clear H1 hp hr
  cases p
  · have HF : Hid (r = -1) := by rw [HR.out]; exact sq_no (.inl HP.out)
    go_enter Try.func21, Try.ntmps21
    go_wp2_with fail
    refine K1.out.mono ?_
    rintro e wq ⟨rfl, m, rfl⟩
    go_wp2
    go_ret
    exact ⟨ret_i HF.out.symm, m, rfl⟩
  by_cases hn0 : n = 0
  · have HF : Hid (r = -1) := by rw [HR.out]; exact sq_no (.inr hn0)
    subst hn0
    go_enter Try.func21, Try.ntmps21
    go_wp2_with fail
    refine K1.out.mono ?_
    rintro e wq ⟨rfl, m, rfl⟩
    go_wp2
    go_ret
    exact ⟨ret_i HF.out.symm, m, rfl⟩
  · have hn0' : ((n : Int) == 0) = false := by simp; omega
    have hn0'' : (n == 0) = false := by simp; omega
    have hnp : (0 : Int) < n := by omega
    have hnq : 0 < n := by omega
    have HF : Hid (r = (minTo (ln zss) n : Nat)) := by rw [HR.out]; exact sq_yes HP.out (by omega)
    obtain ⟨h20, hto⟩ := famB_to HP.out
    rw [HL.out] at h20 hto
    have HT := Lib.hid hto
    have hl6 : ln zss 0 ≤ 6 := by rw [ln_cnt hto (by omega)]; exact cnt_le _
    have HMin : Hid (minTo (ln zss) 1 = ln zss 0) := by
      show min 6 (ln zss 0) = ln zss 0
      omega
    clear hto
    go_enter Try.func21, Try.ntmps21
    go_wp2_with fail
    refine K1.out.mono ?_
    rintro e w1 ⟨rfl, m, hw⟩
    have hM1 := HM.out.drewN m
    rw [← hw] at hM1
    have HW := Lib.hid hw
    have HM1 := Lib.hid hM1
    clear hw hM1
    obtain ⟨b, off, C, cc, g⟩ := HM1.out.get (k := 0) (by omega)
    have G := Lib.hid g
    obtain rfl := g.adr
    have hcell := g.cell
    rw [Nat.add_zero] at hcell
    clear g
    go_wp2
    go_loop [3, 4] (fun u i => ∃ k : Nat, 1 ≤ k ∧ k ≤ n ∧ i = .int .i64 k ∧ u = .int .i64 (minTo (ln zss) k : Nat)) (fun _ i => n - (intOf i).toNat)
    case atStart => exact ⟨1, by omega, by omega, rfl, by rw [HMin.out]⟩
    case round =>
      obtain ⟨k, hk1, hk, rfl, rfl⟩ := hrel
      by_cases hkn : k < n
      · have i1 : (k : Int) < n := by omega
        obtain ⟨b2, off2, C2, cc2, g2⟩ := HM1.out.get hkn
        cases g2.adr
        have hcell2 := g2.cell
        have HX := Lib.hid (show minTo (ln zss) (k + 1) = min (minTo (ln zss) k) (ln zss k) from rfl)
        clear g2
        generalize minTo (ln zss) k = x at HX ⊢
        go_wp2
        go_round
        case rel => exact ⟨k + 1, by omega, by omega, by go_num, by rw [HX.out]; congr 1; split <;> omega⟩
        case measure => simp [intOf]; omega
      · obtain rfl : k = n := by omega
        go_wp2
        go_ret
        exact ⟨ret_i HF.out.symm, m, HW.out⟩

theorem implSmallest_any (A : Option Addr) (n c : Nat) (zss : List (List Int)) (w : World) (h : Mat w w.heap.size A n zss) (hz : SzOk zss n) :
    Calls Try.prog 22 #[.slice A n c] w fun e w' => e = .returned (.int .i64 (sqV zss n)) ∧ Below w.heap.size w w' := by
  have H1 := readFamily_any A n c zss w h hz
  unfold FamRes at H1
  have HL := Lib.hid h.len
  clear h hz
  obtain ⟨p, hp⟩ : ∃ p, famB zss = p := ⟨_, rfl⟩
  obtain ⟨r, hr⟩ : ∃ r, r = sqV zss n := ⟨_, rfl⟩
  rw [hp] at H1
  rw [← hr]
  have K1 := Lib.hid H1
  have HP := Lib.hid hp
  have HR := Lib.hid hr
  clear H1 hp hr
  cases p
  · have HF : Hid (r = -1) := by rw [HR.out]; exact sq_no (.inl HP.out)
    go_enter Try.func22, Try.ntmps22
    go_wp2_with fail
    refine K1.out.mono ?_
    rintro e w1 ⟨v, rfl, -, hb1⟩
    have HB1 := Lib.hid hb1
    clear hb1
    go_wp2
    go_ret
    exact ⟨ret_i HF.out.symm, HB1.out⟩
  obtain ⟨h20, hto⟩ := famB_to HP.out
  rw [HL.out] at h20 hto
  have hg : ∀ k, k < n → ln zss k = cnt (mAt zss k) ∧ mAt zss k < 64 := fun k hk => ⟨ln_cnt hto hk, m_small (fam_set hk hto)⟩
  have HG := Lib.hid hg
  clear hg hto
  by_cases hn0 : n = 0
  · have HF : Hid (r = -1) := by rw [HR.out]; exact sq_no (.inr hn0)
    subst hn0
    go_enter Try.func22, Try.ntmps22
    go_wp2_with fail
    refine K1.out.mono ?_
    rintro e w1 ⟨v, rfl, ho, hb1⟩
    have HB1 := Lib.hid hb1
    have ho := ho trivial
    obtain ⟨AQ, cq, rfl, _, _, _⟩ := owns_row ho
    clear hb1 ho
    go_wp2
    go_ret
    exact ⟨ret_i HF.out.symm, HB1.out⟩
  · have hn0' : ((n : Int) == 0) = false := by simp; omega
    have hn0'' : (n == 0) = false := by simp; omega
    have hf : r = (minTo (fun k => cnt (mAt zss k)) n : Nat) := by
      rw [HR.out, sq_yes HP.out (by omega), minTo_eq n (fun k hk => (HG.out k hk).1)]
    have HF := Lib.hid hf
    clear hf
    go_enter Try.func22, Try.ntmps22
    go_wp2_with fail
    refine K1.out.mono ?_
    rintro e w1 ⟨v, rfl, ho, hb1⟩
    have HB1 := Lib.hid hb1
    have ho := ho trivial
    obtain ⟨AQ, cq, rfl, _, _, hqrow⟩ := owns_row ho
    have HQ := Lib.hid hqrow
    clear hb1 ho hqrow
    go_wp2
    go_loop [5, 22] (fun u i => ∃ k : Nat, k ≤ n ∧ i = .int .i64 k ∧ u = .int .i64 (minTo (fun k => cnt (mAt zss k)) k : Nat)) (fun _ i => n - (intOf i).toNat)
    case atStart => exact ⟨0, by omega, rfl, rfl⟩
    case round =>
      obtain ⟨k, hk, rfl, rfl⟩ := hrel
      by_cases hkn : k < n
      · have i1 : (k : Int) < n := by omega
        obtain ⟨b, off, rfl, _, hc⟩ := HQ.out.msk hkn
        have h64 := (HG.out k hkn).2
        have HX := Lib.hid (show minTo (fun k => cnt (mAt zss k)) (k + 1) = min (minTo (fun k => cnt (mAt zss k)) k) (cnt (mAt zss k)) from rfl)
        generalize mAt zss k = m at hc h64 HX
        generalize minTo (fun k => cnt (mAt zss k)) k = x at HX ⊢
        have HC := Lib.hid (many_any m h64 w1)
        go_wp2_with (go_at_call 39; refine HC.out.mono ?_; rintro e w' ⟨rfl, rfl⟩)
        go_round
        case rel => exact ⟨k + 1, by omega, by go_num, by rw [HX.out]; congr 1; split <;> omega⟩
        case measure => simp [intOf]; omega
      · obtain rfl : k = n := by omega
        go_wp2
        go_ret
        exact ⟨ret_i HF.out.symm, HB1.out⟩

theorem exactSmallest_walk (A : Option Addr) (n c : Nat) (zss : List (List Int)) (w : World) (h : Mat w w.heap.size A n zss ∧ n ≤ c ∧ c ≤ maxLen) : Calls Try.prog 6 #[.slice A n c] w fun e w' => e = .returned (.bool true) ∧ Below w.heap.size w w' := by
  have hA : ArgM w A n c zss := h
  clear h
  go_enter Try.func6, Try.ntmps6
  go_wp2_with fail
  refine (szSS hA (by omega) (by omega)).mono ?_
  rintro e wz ⟨r, rfl, hwz, -, hz⟩
  subst hwz
  by_cases hr : r < 0
  · go_wp2_with fail
    go_ret
    exact ⟨rfl, Below.refl _ _⟩
  replace hz := hz (by omega)
  go_wp2_with fail
  refine (copySS hA hz (Below.refl _ _)).mono ?_
  rintro e w1 ⟨rfl, C1, -, hb1⟩
  go_wp2_with fail
  refine (specSmallest_any _ n n zss w1 C1.mat hz).mono ?_
  rintro e w2 ⟨rfl, m, hm⟩
  replace hb1 : Below wz.heap.size wz w2 := by rw [hm]; exact below_drewN hb1 m
  clear hm C1
  go_wp2_with fail
  refine (copySS hA hz hb1).mono ?_
  rintro e w3 ⟨rfl, C3, -, hb3⟩
  go_wp2_with fail
  refine (implSmallest_any _ n n zss w3 C3.mat hz).mono ?_
  rintro e w4 ⟨rfl, hb4⟩
  have C4 := C3.below hb4
  replace hb4 : Below wz.heap.size wz w4 := hb3.trans (hb4.mono hb3.size)
  clear C3
  go_wp2_with fail
  refine (copySS hA hz hb4).mono ?_
  rintro e w5 ⟨rfl, C5, hb54, hb5⟩
  replace C4 := C4.below hb54
  go_wp2_with fail
  refine (eqSS C4 C5 hb5).mono ?_
  rintro e w6 ⟨rfl, -, hb6⟩
  go_wp2
  go_ret
  exact ⟨rfl, hb6⟩
end Go.Proofs.Ytiepoadnncnbkaa
