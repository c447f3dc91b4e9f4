/- The reference's Intersects; readFamilies. -/
import Derived.Test.YtafhpbghogdipaaGreatDoorIn1
import Derived.OwnWalk
namespace Go.Proofs.YtafhpbghogdipaaGreatDoor
open Go.RowKit
set_option maxHeartbeats 4000000

/-- Each of the first k lists meets all of the others. -/
def metTo (fss gss : List (List Int)) (ng : Nat) : Nat → Bool
  | 0 => true
  | k + 1 => metTo fss gss ng k && hitTo gss (rw_ fss k) ng
theorem met_no {fss gss : List (List Int)} {ng k : Nat} : ∀ {n : Nat}, k < n → hitTo gss (rw_ fss k) ng = false → metTo fss gss ng n = false
  | 0, h, _ => absurd h (by omega)
  | n + 1, h, hm => by
    by_cases e : k = n
    · subst e; simp only [metTo, hm]; simp
    · simp only [metTo, met_no (n := n) (by omega) hm, Bool.false_and]
theorem l11_any (A : Option Addr) (n c : Nat) (zss : List (List Int)) (A2 : Option Addr) (n2 c2 : Nat) (yss : List (List Int)) (w : World) (h : Mat w w.heap.size A n zss) (hz : SzOk zss n) (h2 : Mat w w.heap.size A2 n2 yss) (hz2 : SzOk yss n2) :
    Calls Tryz.prog 13 #[.slice A n c, .slice A2 n2 c2] w fun e w' => e = .returned (.bool (metTo zss yss n2 n)) ∧ Below w.heap.size w w' := by
  have hn := hz.1
  have HM := Lib.hid h
  have HZ := Lib.hid hz
  have HM2 := Lib.hid h2
  have HZ2 := Lib.hid hz2
  clear h hz h2 hz2
  obtain ⟨r, hr⟩ : ∃ r, r = metTo zss yss n2 n := ⟨_, rfl⟩
  rw [← hr]
  have HR := Lib.hid hr
  clear hr
  go_enter Tryz.func13, Tryz.ntmps13
  go_wp2
  go_loopw [5] (fun i wr => ∃ k : Nat, k ≤ n ∧ i = .int .i64 k ∧ metTo zss yss n2 k = true ∧ Below w.heap.size w wr) (fun i _ => n - (intOf i).toNat)
  case atStart => exact ⟨0, Nat.zero_le _, rfl, rfl, Below.refl _ _⟩
  case round =>
    obtain ⟨k, hk, rfl, hno, hbw⟩ := hrel
    have HN := Lib.hid hno
    have hsz := hbw.size
    clear hno
    by_cases hkn : k < n
    · have i1 : (k : Int) < n := by omega
      obtain ⟨b, off, C, cc, g⟩ := (HM.out.below hbw).get hkn
      have G := Lib.hid g
      obtain rfl := g.adr
      have hcell := g.cell
      have hc := l3Hits_any A2 n2 c2 yss C _ cc (rw_ zss k) wr ((HM2.out.below hbw).more hsz) HZ2.out (g.row.more hsz) rfl (HZ.out.2 k hkn)
      have HX := Lib.hid (show metTo zss yss n2 (k + 1) = (metTo zss yss n2 k && hitTo yss (rw_ zss k) n2) from rfl)
      have HY := Lib.hid (fun h => met_no (fss := zss) (gss := yss) (ng := n2) hkn h)
      clear g
      obtain ⟨q, hq⟩ : ∃ q, q = hitTo yss (rw_ zss k) n2 := ⟨_, rfl⟩
      rw [← hq] at HX HY hc
      have HC := Lib.hid hc
      clear hc hq
      cases q
      · have HF : Hid (r = false) := Lib.hid (by rw [HR.out]; exact HY.out rfl)
        go_wp2_with (go_at_call 24; refine HC.out.mono ?_; rintro e w1 ⟨rfl, hb1⟩; replace hb1 := hbw.trans (hb1.mono hsz))
        go_ret
        exact ⟨ret_bool' HF.out.symm, hb1⟩
      · go_wp2_with (go_at_call 24; refine HC.out.mono ?_; rintro e w1 ⟨rfl, hb1⟩; replace hb1 := hbw.trans (hb1.mono hsz))
        go_roundw
        case rel => exact ⟨k + 1, by omega, by go_num, by rw [HX.out, HN.out]; rfl, hb1⟩
        case measure => simp [intOf]; omega
    · obtain rfl : k = n := by omega
      have HF : Hid (r = true) := Lib.hid (by rw [HR.out]; exact HN.out)
      go_wp2
      go_ret
      exact ⟨ret_bool' HF.out.symm, hbw⟩

/-- What Intersects answers. -/
def meetB (fss gss : List (List Int)) (nf ng : Nat) : Bool := famB fss && famB gss && metTo fss gss ng nf
/-- Row in a larger world. -/
def Fams (fss gss : List (List Int)) (nf ng : Nat) (w : World) (e : Ending) (w' : World) : Prop :=
  Below w.heap.size w w' ∧ ∃ v1 v2, e = .returned (.tuple #[v1, v2, .bool (famB fss && famB gss)]) ∧
    ((famB fss && famB gss) = true → ∃ A1 c1 A2 c2, v1 = .slice A1 nf c1 ∧ v2 = .slice A2 ng c2 ∧ nf ≤ c1 ∧ ng ≤ c2 ∧ Row w' w'.heap.size A1 (mV (mAt fss) nf) ∧ Row w' w'.heap.size A2 (mV (mAt gss) ng))
theorem readFamilies_any (A : Option Addr) (n c : Nat) (zss : List (List Int)) (A2 : Option Addr) (n2 c2 : Nat) (yss : List (List Int)) (w : World) (h : Mat w w.heap.size A n zss) (hz : SzOk zss n) (h2 : Mat w w.heap.size A2 n2 yss) (hz2 : SzOk yss n2) :
    Calls Tryz.prog 14 #[.slice A n c, .slice A2 n2 c2] w (Fams zss yss n n2 w) := by
  have K1 := Lib.hid (readFamily_any A n c zss w h hz)
  have K2 := Lib.hid (fun (W : World) (hb : Below w.heap.size w W) => readFamily_any A2 n2 c2 yss W ((h2.below hb).more hb.size) hz2)
  clear h h2
  obtain ⟨F, hF⟩ : ∃ F, F = Fams zss yss n n2 w := ⟨_, rfl⟩
  rw [← hF]
  have HF := Lib.hid hF
  clear hF
  go_enter Tryz.func14, Tryz.ntmps14
  go_wp2_with fail
  refine K1.out.mono ?_
  rintro e w1 ⟨v1, rfl, ho1, hb1⟩
  have HO1 := Lib.hid ho1
  clear ho1
  go_wp2_with fail
  refine (K2.out w1 hb1).mono ?_
  rintro e w2 ⟨v2, rfl, ho2, hb2⟩
  have HO2 := Lib.hid ho2
  clear ho2
  obtain ⟨p, hp⟩ : ∃ p, p = famB zss := ⟨_, rfl⟩
  obtain ⟨q, hq⟩ : ∃ q, q = famB yss := ⟨_, rfl⟩
  have HP := Lib.hid hp
  have HQ := Lib.hid hq
  rw [← hp, ← hq]
  clear hp hq
  have HB := Lib.hid (hb1.trans (hb2.mono hb1.size))
  have HB2 := Lib.hid hb2
  clear hb1 hb2
  cases p
  · go_wp2
    rw [HF.out]
    exact ⟨HB.out, _, _, by rw [← HP.out]; rfl, fun h => by rw [← HP.out] at h; cases h⟩
  · go_wp2
    rw [HF.out]
    refine ⟨HB.out, _, _, by rw [← HP.out, ← HQ.out]; rfl, fun h => ?_⟩
    simp only [Bool.and_eq_true] at h
    obtain ⟨A1, c1, rfl, e1, _, r1⟩ := owns_row (HO1.out h.1)
    obtain ⟨A2, c2, rfl, e2, _, r2⟩ := owns_row (HO2.out h.2)
    exact ⟨_, _, _, _, rfl, rfl, e1, e2, (r1.below HB2.out).more HB2.out.size, r2⟩
end Go.Proofs.YtafhpbghogdipaaGreatDoor
