/- FamilyHasQuorum: the reference's, the program's, the law FnExactFamilyHasQuorum. -/
import Derived.Test.YtiepoadnncnbkaaFam3
import Derived.Test.YtiepoadnncnbkaaCanon
namespace Go.Proofs.Ytiepoadnncnbkaa
open Go.RowKit
set_option maxHeartbeats 4000000

/-- One of the first k lists lies in zs. -/
def hasS (zss : List (List Int)) (zs : List Int) : Nat → Bool
  | 0 => false
  | k + 1 => hasS zss zs k || subB (rw_ zss k) zs
theorem hasS_is {zss : List (List Int)} {zs : List Int} {k : Nat} : ∀ {n : Nat}, k < n → subB (rw_ zss k) zs = true → hasS zss zs n = true
  | 0, h, _ => absurd h (by omega)
  | n + 1, h, hm => by
    by_cases e : k = n
    · subst e; simp [hasS, hm]
    · simp [hasS, hasS_is (n := n) (by omega) hm]
theorem has_any {zss : List (List Int)} {zs : List Int} (hs : setB zs = true) : ∀ n, famTo zss n = true → hasS zss zs n = anyTo (mAt zss) (mkS zs) n
  | 0, _ => rfl
  | n + 1, h => by
    have ih := has_any hs n (famTo_le (by omega) h)
    have := inM_sub (fam_set (k := n) (by omega) h) hs
    show (hasS zss zs n || subB (rw_ zss n) zs) = (anyTo _ _ n || inM (mAt zss n) (mkS zs))
    rw [ih]
    congr 1
    exact this.symm

theorem l3Has_any (A : Option Addr) (n c : Nat) (zss : List (List Int)) (A2 : Option Addr) (n2 c2 : Nat) (zs : List Int) (w : World) (h : Mat w w.heap.size A n zss) (hz : SzOk zss n) (hB : Row w w.heap.size A2 (zs.map (Value.int .i64))) (hl2 : zs.length = n2) (hn2 : n2 ≤ 1048576) :
    Calls Try.prog 33 #[.slice A n c, .slice A2 n2 c2] w fun e w' => e = .returned (.bool (hasS zss zs n)) ∧ w' = w := by
  have hn := hz.1
  have HM := Lib.hid h
  have HZ := Lib.hid hz
  have HB := Lib.hid hB
  have HL2 := Lib.hid hl2
  clear h hz hB hl2
  obtain ⟨r, hr⟩ : ∃ r, r = hasS zss zs n := ⟨_, rfl⟩
  rw [← hr]
  have HR := Lib.hid hr
  clear hr
  go_enter Try.func33, Try.ntmps33
  go_wp2
  go_loop [5] (fun i => ∃ k : Nat, k ≤ n ∧ i = .int .i64 k ∧ hasS zss zs k = false) (fun i => n - (intOf i).toNat)
  case atStart => exact ⟨0, Nat.zero_le _, rfl, rfl⟩
  case round =>
    obtain ⟨k, hk, rfl, hno⟩ := hrel
    have HN := Lib.hid hno
    clear hno
    by_cases hkn : k < n
    · have i1 : (k : Int) < n := by omega
      obtain ⟨b, off, C, cc, g⟩ := HM.out.get hkn
      have G := Lib.hid g
      obtain rfl := g.adr
      have hcell := g.cell
      have hc := l1Subset_any C _ cc (rw_ zss k) A2 n2 c2 zs w w.heap.size g.row rfl (HZ.out.2 k hkn) HB.out HL2.out hn2
      have HX := Lib.hid (show hasS zss zs (k + 1) = (hasS zss zs k || subB (rw_ zss k) zs) from rfl)
      have HY := Lib.hid (fun h => hasS_is (zss := zss) (zs := zs) hkn h)
      clear g
      obtain ⟨q, hq⟩ : ∃ q, q = subB (rw_ zss k) zs := ⟨_, rfl⟩
      rw [← hq] at hc HX HY
      have HC := Lib.hid hc
      clear hc hq
      cases q
      · go_wp2_with (go_at_call 31; refine HC.out.mono ?_; rintro e w' ⟨rfl, rfl⟩)
        go_round
        case rel => exact ⟨k + 1, by omega, by go_num, by rw [HX.out, HN.out]; rfl⟩
        case measure => simp [intOf]; omega
      · have HF : Hid (r = true) := by rw [HR.out]; exact HY.out rfl
        go_wp2_with (go_at_call 31; refine HC.out.mono ?_; rintro e w' ⟨rfl, rfl⟩)
        go_ret
        exact ⟨ret_bool' HF.out.symm, rfl⟩
    · obtain rfl : k = n := by omega
      have HF : Hid (r = false) := by rw [HR.out]; exact HN.out
      go_wp2
      go_ret
      exact ⟨ret_bool' HF.out.symm, rfl⟩

/-- What FamilyHasQuorum answers. -/
def hqB (zss : List (List Int)) (zs : List Int) (n : Nat) : Bool := famB zss && setB zs && hasS zss zs n
theorem specHasQ_any (A : Option Addr) (n c : Nat) (zss : List (List Int)) (A2 : Option Addr) (n2 c2 : Nat) (zs : List Int) (w : World) (h : Mat w w.heap.size A n zss) (hz : SzOk zss n) (hB : Row w w.heap.size A2 (zs.map (Value.int .i64))) (hl2 : zs.length = n2) (hn2 : n2 ≤ 1048576) :
    Calls Try.prog 15 #[.slice A n c, .slice A2 n2 c2] w fun e w' => e = .returned (.bool (hqB zss zs n)) ∧ ∃ m, w' = w.drewN m := by
  have H1 := specFamily_any A n c zss w h hz
  have H2 := fun m : Nat => specSetValid_any A2 n2 c2 zs (w.drewN m) hB hl2 hn2
  have H3 := fun m : Nat => l3Has_any A n c zss A2 n2 c2 zs (w.drewN m) (h.drewN m) hz hB hl2 hn2
  clear h hB
  unfold hqB
  obtain ⟨p, hp⟩ : ∃ p, famB zss = p := ⟨_, rfl⟩
  obtain ⟨q, hq⟩ : ∃ q, setB zs = q := ⟨_, rfl⟩
  obtain ⟨r, hr⟩ : ∃ r, hasS zss zs n = r := ⟨_, rfl⟩
  rw [hp] at H1
  rw [hq] at H2
  rw [hr] at H3
  rw [hp, hq, hr]
  have K1 := Lib.hid H1
  have K2 := Lib.hid H2
  have K3 := Lib.hid H3
  clear H1 H2 H3 hp hq hr
  cases p
  · go_enter Try.func15, Try.ntmps15
    go_wp2_with fail
    refine K1.out.mono ?_
    rintro e wq ⟨rfl, m, rfl⟩
    go_wp2
    go_ret
    exact ⟨rfl, m, rfl⟩
  cases q
  · go_enter Try.func15, Try.ntmps15
    go_wp2_with fail
    refine K1.out.mono ?_
    rintro e wq ⟨rfl, m, rfl⟩
    go_wp2_with fail
    refine (K2.out m).mono ?_
    rintro e wq ⟨rfl, m2, rfl⟩
    go_wp2
    go_ret
    exact ⟨rfl, m + m2, by first | rfl | exact World.drewN_drewN _ _ _⟩
  · go_enter Try.func15, Try.ntmps15
    go_wp2_with fail
    refine K1.out.mono ?_
    rintro e wq ⟨rfl, m, rfl⟩
    go_wp2_with fail
    refine (K2.out m).mono ?_
    rintro e wq ⟨rfl, m2, hm⟩
    rw [World.drewN_drewN] at hm
    subst hm
    go_wp2_with fail
    refine (K3.out (m + m2)).mono ?_
    rintro e wq ⟨rfl, rfl⟩
    go_wp2
    go_ret
    exact ⟨rfl, _, rfl⟩

theorem implHasQ_any (A : Option Addr) (n c : Nat) (zss : List (List Int)) (A2 : Option Addr) (n2 c2 : Nat) (zs : List Int) (w : World) (h : Mat w w.heap.size A n zss) (hz : SzOk zss n) (hB : Row w w.heap.size A2 (zs.map (Value.int .i64))) (hl2 : zs.length = n2) (hn2 : n2 ≤ 1048576) :
    Calls Try.prog 17 #[.slice A n c, .slice A2 n2 c2] w fun e w' => e = .returned (.bool (hqB zss zs n)) ∧ Below w.heap.size w w' := by
  have H1 := readFamily_any A n c zss w h hz
  have hl := h.len
  unfold FamRes at H1
  have H2 := fun (w' : World) (hb : Below w.heap.size w w') => readSet_mask A2 n2 c2 zs w' ((hB.below hb).more hb.size) hl2 hn2
  unfold MaskRes at H2
  have HE : famB zss = true → setB zs = true → hasS zss zs n = anyTo (mAt zss) (mkS zs) n := fun hf hs => has_any hs n (by have := (famB_to hf).2; rw [hl] at this; exact this)
  have HG : famB zss = true → n ≤ 20 ∧ ∀ j, j < n → mAt zss j < 64 := fun hf => by
    have := famB_to hf
    rw [hl] at this
    exact ⟨this.1, fun j hj => m_small (fam_set hj this.2)⟩
  have HS : setB zs = true → mkS zs < 64 := mk_small
  have HMk : zs.length = zs.length → sumTo zs zs.length = mkS zs := fun _ => rfl
  clear h hB
  unfold hqB
  obtain ⟨p, hp⟩ : ∃ p, famB zss = p := ⟨_, rfl⟩
  obtain ⟨q, hq⟩ : ∃ q, setB zs = q := ⟨_, rfl⟩
  rw [hp] at H1 HE HG
  rw [hq] at H2 HE HS
  rw [hp, hq]
  have K1 := Lib.hid H1
  have K2 := Lib.hid H2
  have KE := Lib.hid HE
  have KG := Lib.hid HG
  have KS := Lib.hid HS
  clear H1 H2 hp hq HE HG HS HMk
  cases p
  · go_enter Try.func17, Try.ntmps17
    go_wp2_with fail
    refine K1.out.mono ?_
    rintro e w1 ⟨v, rfl, -, hb1⟩
    go_wp2_with fail
    refine (K2.out w1 hb1).mono ?_
    rintro e w2 ⟨m, rfl, -, rfl⟩
    go_wp2
    go_ret
    exact ⟨by rfl, hb1⟩
  cases q
  · go_enter Try.func17, Try.ntmps17
    go_wp2_with fail
    refine K1.out.mono ?_
    rintro e w1 ⟨v, rfl, -, hb1⟩
    go_wp2_with fail
    refine (K2.out w1 hb1).mono ?_
    rintro e w2 ⟨m, rfl, -, rfl⟩
    go_wp2
    go_ret
    exact ⟨by rfl, hb1⟩
  · obtain ⟨hn20, hj⟩ := KG.out rfl
    rw [KE.out rfl rfl]
    have hm64 := KS.out rfl
    have KJ := Lib.hid hj
    clear hj
    go_enter Try.func17, Try.ntmps17
    go_wp2_with fail
    refine K1.out.mono ?_
    rintro e w1 ⟨v, rfl, ho, hb1⟩
    have HO := Lib.hid (ho trivial)
    clear ho
    obtain ⟨AQ, cq, rfl, _, _, hqrow⟩ := owns_row HO.out
    have HQ := Lib.hid hqrow
    clear hqrow
    go_wp2_with fail
    refine (K2.out w1 hb1).mono ?_
    rintro e w2 ⟨m, rfl, hm, hw⟩
    replace hw := hw.symm
    subst hw
    obtain rfl : m = mkS zs := hm trivial
    have HB1 := Lib.hid hb1
    clear hm hb1
    go_wp2_with fail
    refine (reached_any (mAt zss) AQ n cq (mkS zs) w1 _ HQ.out KJ.out hm64 hn20).mono ?_
    rintro e w3 ⟨rfl, rfl⟩
    go_wp2
    go_ret
    exact ⟨by first | rfl | simp, HB1.out⟩

/-- The copy of a list in block g. -/
theorem copyS {A : Option Addr} {n c : Nat} {zs : List Int} {w0 w : World} (hI : Ints .i64 w0 A n c zs) (hn : n ≤ 1048576) (hb : Below w0.heap.size w0 w) : Calls Try.prog 16 #[.slice A n c] w fun e w' =>
    e = .returned (.slice (some ⟨w.heap.size, 0, none⟩) n n) ∧ (w'.heap[w.heap.size]? = some (.cells (zs.map (Value.int .i64)).toArray 3 (0, 0)) ∧ w.heap.size < w'.heap.size) ∧ Below w.heap.size w w' ∧ Below w0.heap.size w0 w' :=
  (toIntS_any A n c zs w (hI.below hb) hn).mono fun _ _ ⟨a, b, d, g⟩ => ⟨a, ⟨b, by omega⟩, g, hb.trans (g.mono hb.size)⟩
def CpS (w : World) (g : Nat) (zs : List Int) : Prop := w.heap[g]? = some (.cells (zs.map (Value.int .i64)).toArray 3 (0, 0))
theorem CpS.row {w : World} {g : Nat} {zs : List Int} (h : CpS w g zs) : Row w w.heap.size (some ⟨g, 0, none⟩) (zs.map (Value.int .i64)) := row_new h (blk_lt h)
theorem CpS.below {w w' : World} {g : Nat} {zs : List Int} (h : CpS w g zs) (hb : Below w.heap.size w w') : CpS w' g zs := (hb.block g (blk_lt h)).trans h
theorem eqS {g g2 n c c2 : Nat} {zs : List Int} {w0 w : World} (h1 : CpS w g zs) (h2 : CpS w g2 zs) (hl : zs.length = n) (hn : n ≤ 1048576) (hb : Below w0.heap.size w0 w) :
    Calls Try.prog 18 #[.slice (some ⟨g, 0, none⟩) n c, .slice (some ⟨g2, 0, none⟩) n c2] w fun e w' => e = .returned (.bool true) ∧ Below w.heap.size w w' ∧ Below w0.heap.size w0 w' :=
  (eqIntS_same _ _ n c c2 zs w h1.row h2.row hl hn).mono fun _ _ ⟨a, m, hm⟩ => ⟨a, by rw [hm]; exact below_drewN (Below.refl _ _) m, by rw [hm]; exact below_drewN hb m⟩

theorem exactHasQuorum_walk (A : Option Addr) (n c : Nat) (zss : List (List Int)) (A2 : Option Addr) (n2 c2 : Nat) (zs : List Int) (w : World) (h : Mat w w.heap.size A n zss ∧ n ≤ c ∧ c ≤ maxLen) (h2 : Ints .i64 w A2 n2 c2 zs) :
    Calls Try.prog 4 #[.slice A n c, .slice A2 n2 c2] w fun e w' => e = .returned (.bool true) ∧ Below w.heap.size w w' := by
  have hA : ArgM w A n c zss := h
  have hcap2 := h2.cap
  have hmx2 := h2.max
  have hl2 := Lib.hid h2.len
  unfold maxLen at hmx2
  clear h
  by_cases hbig : 1048576 < n2
  · go_enter Try.func4, Try.ntmps4
    go_wp2
    go_ret
    exact ⟨rfl, Below.refl _ _⟩
  have hn2 : n2 ≤ 1048576 := by omega
  go_enter Try.func4, Try.ntmps4
  go_wp2_with fail
  refine (szSS hA (by omega) (by omega)).mono ?_
  rintro e wz ⟨r, rfl, hwz, -, hz⟩
  subst hwz
  by_cases hr : r < 0
  · go_wp2_with fail
    go_ret
    exact ⟨rfl, Below.refl _ _⟩
  replace hz := hz (by omega)
  go_wp2_with fail
  refine (copySS hA hz (Below.refl _ _)).mono ?_
  rintro e w1 ⟨rfl, C1, -, hb1⟩
  go_wp2_with fail
  refine (copyS h2 hn2 hb1).mono ?_
  rintro e w2 ⟨rfl, ⟨D2, lt2⟩, hb21, hb2⟩
  replace C1 := C1.below hb21
  replace D2 : CpS w2 w1.heap.size zs := D2
  go_wp2_with fail
  refine (specHasQ_any _ n n zss _ n2 n2 zs w2 C1.mat hz D2.row hl2.out hn2).mono ?_
  rintro e w3 ⟨rfl, m, hm⟩
  have hb3 : Below wz.heap.size wz w3 := by rw [hm]; exact below_drewN hb2 m
  clear hm C1 D2 hb21 hb1 hb2 lt2
  go_wp2_with fail
  refine (copySS hA hz hb3).mono ?_
  rintro e w4 ⟨rfl, C4, -, hb4⟩
  go_wp2_with fail
  refine (copyS h2 hn2 hb4).mono ?_
  rintro e w5 ⟨rfl, ⟨D5, lt5⟩, hb54, hb5⟩
  replace C4 := C4.below hb54
  replace D5 : CpS w5 w4.heap.size zs := D5
  go_wp2_with fail
  refine (implHasQ_any _ n n zss _ n2 n2 zs w5 C4.mat hz D5.row hl2.out hn2).mono ?_
  rintro e w6 ⟨rfl, hb6⟩
  replace C4 := C4.below hb6
  replace D5 := D5.below hb6
  have hb6' : Below wz.heap.size wz w6 := hb5.trans (hb6.mono hb5.size)
  clear hb6 lt5 hb54
  go_wp2_with fail
  refine (copySS hA hz hb6').mono ?_
  rintro e w7 ⟨rfl, C7, hb76, hb7⟩
  replace C4 := C4.below hb76
  replace D5 := D5.below hb76
  go_wp2_with fail
  refine (eqSS C4 C7 hb7).mono ?_
  rintro e w8 ⟨rfl, hb87, hb8⟩
  replace D5 := D5.below hb87
  clear C4 C7
  go_wp2_with fail
  refine (copyS h2 hn2 hb8).mono ?_
  rintro e w9 ⟨rfl, ⟨D9, lt9⟩, hb98, hb9⟩
  replace D5 := D5.below hb98
  replace D9 : CpS w9 w8.heap.size zs := D9
  go_wp2_with fail
  refine (eqS D5 D9 hl2.out hn2 hb9).mono ?_
  rintro e wf ⟨rfl, -, hbf⟩
  go_wp2
  go_ret
  exact ⟨rfl, hbf⟩
end Go.Proofs.Ytiepoadnncnbkaa
