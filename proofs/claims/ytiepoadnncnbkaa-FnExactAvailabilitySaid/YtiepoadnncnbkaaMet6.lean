/- The program's measure. -/
import Derived.Test.YtiepoadnncnbkaaMet1
import Derived.OwnWalk
namespace Go.Proofs.Ytiepoadnncnbkaa
open Go.RowKit
set_option maxHeartbeats 4000000

/-- What measure hands back. -/
def MeRes (zss : List (List Int)) (n : Nat) (x : Int) (w : World) (e : Ending) (w' : World) : Prop :=
  ∃ v f, e = .returned (.tuple #[v, .int .u64 f, .bool (fitB zss n x)]) ∧ (fitB zss n x = true → f = (fst_ x.toNat : Nat) ∧ w'.ownsRow w.heap.size 44 1 v n (mV (mAt zss) n)) ∧ Below w.heap.size w w'
theorem MeRes.no {zss : List (List Int)} {n : Nat} {x : Int} {w w' : World} {v : Value} {f : Int} {r : Bool} (hr : r = fitB zss n x) (h : r = false) (hb : Below w.heap.size w w') : MeRes zss n x w (.returned (.tuple #[v, .int .u64 f, .bool false])) w' :=
  ⟨v, f, by rw [← hr, h], fun h2 => (by rw [← hr, h] at h2; cases h2), hb⟩
theorem fst_val : ∀ N : Nat, N ≤ 6 → IntKind.u64.wrap (IntKind.u64.wrap (2 ^ N) - 1) = ((fst_ N : Nat) : Int) := by decide +kernel

theorem measure_any (A : Option Addr) (n c : Nat) (zss : List (List Int)) (x : Int) (w : World) (h : Mat w w.heap.size A n zss) (hz : SzOk zss n) :
    Calls Try.prog 42 #[.slice A n c, .int .i64 x] w (MeRes zss n x w) := by
  have H1 := readFamily_any A n c zss w h hz
  unfold FamRes at H1
  have HL := Lib.hid h.len
  clear h hz
  obtain ⟨p, hp⟩ : ∃ p, famB zss = p := ⟨_, rfl⟩
  obtain ⟨q, hq⟩ : ∃ q, inB x 1 6 = q := ⟨_, rfl⟩
  obtain ⟨r, hr⟩ : ∃ r, r = fitB zss n x := ⟨_, rfl⟩
  rw [hp] at H1
  have K1 := Lib.hid H1
  have HP := Lib.hid hp
  have HQ := Lib.hid hq
  have HR := Lib.hid hr
  clear H1 hp hq hr
  cases p
  · have HF : Hid (r = false) := by rw [HR.out]; exact fit_no (.inl HP.out)
    go_enter Try.func42, Try.ntmps42
    go_wp2_with fail
    refine K1.out.mono ?_
    rintro e w1 ⟨v, rfl, -, hb1⟩
    have HB1 := Lib.hid hb1
    clear hb1
    go_wp2
    go_ret3
    exact MeRes.no HR.out HF.out HB1.out
  obtain ⟨h20, hto⟩ := famB_to HP.out
  rw [HL.out] at h20 hto
  have hg : ∀ k, k < n → mAt zss k < 64 := fun k hk => m_small (fam_set hk hto)
  have HG := Lib.hid hg
  clear hg hto
  by_cases hn0 : n = 0
  · have HF : Hid (r = false) := by rw [HR.out]; exact fit_no (.inr (.inl hn0))
    subst hn0
    go_enter Try.func42, Try.ntmps42
    go_wp2_with fail
    refine K1.out.mono ?_
    rintro e w1 ⟨v, rfl, ho, hb1⟩
    have HB1 := Lib.hid hb1
    have ho := ho trivial
    obtain ⟨AQ, cq, rfl, _, _, _⟩ := owns_row ho
    clear hb1 ho
    go_wp2
    go_ret3
    exact MeRes.no HR.out HF.out HB1.out
  have hn0' : ((n : Int) == 0) = false := by simp; omega
  have hn0'' : (n == 0) = false := by simp; omega
  cases q
  · have HF : Hid (r = false) := by rw [HR.out]; exact fit_no (.inr (.inr (.inl HQ.out)))
    have hx : x < 1 ∨ ¬ x < 1 ∧ 6 < x := by
      have := HQ.out
      unfold inB at this
      simp at this
      omega
    rcases hx with hx | ⟨hx, hx2⟩
    all_goals
      go_enter Try.func42, Try.ntmps42
      go_wp2_with fail
      refine K1.out.mono ?_
      rintro e w1 ⟨v, rfl, ho, hb1⟩
      have HB1 := Lib.hid hb1
      have ho := ho trivial
      obtain ⟨AQ, cq, rfl, _, _, _⟩ := owns_row ho
      clear hb1 ho
      go_wp2
      go_ret3
      exact MeRes.no HR.out HF.out HB1.out
  obtain ⟨N, hN1, hN6, rfl⟩ := inB_nat HQ.out
  have HR' : Hid (r = fitB zss n (N : Int)) := HR
  have hv := fst_val N hN6
  have hf64 := fst_lt N hN6
  have i1 : ¬ (N : Int) < 1 := by omega
  have i2 : ¬ (6 : Int) < N := by omega
  have i3 : (0 : Int) ≤ N := by omega
  have hfd : fst_ ((N : Int)).toNat = fst_ N := rfl
  generalize hF0 : fst_ N = F0 at hv hf64 hfd
  go_enter Try.func42, Try.ntmps42
  go_wp2_with fail
  refine K1.out.mono ?_
  rintro e w1 ⟨v, rfl, ho, hb1⟩
  have HB1 := Lib.hid hb1
  have HO := Lib.hid (ho trivial)
  obtain ⟨AQ, cq, rfl, _, _, hqrow⟩ := owns_row HO.out
  have HQ2 := Lib.hid hqrow
  clear hb1 ho hqrow
  go_wp2
  go_loop [37] (fun i => ∃ k : Nat, k ≤ n ∧ i = .int .i64 k ∧ allIn (mAt zss) F0 k = true) (fun i => n - (intOf i).toNat)
  case atStart => exact ⟨0, Nat.zero_le _, rfl, rfl⟩
  case round =>
    obtain ⟨k, hk, rfl, hall⟩ := hrel
    have HAll := Lib.hid hall
    clear hall
    by_cases hkn : k < n
    · have k1 : (k : Int) < n := by omega
      obtain ⟨b, off, rfl, _, hc⟩ := HQ2.out.msk hkn
      have h64 := HG.out k hkn
      have HX := Lib.hid (show allIn (mAt zss) F0 (k + 1) = (allIn (mAt zss) F0 k && inM (mAt zss k) F0) from rfl)
      have HY := Lib.hid (fun h : inM (mAt zss k) F0 = false => allIn_no hkn h)
      generalize mAt zss k = v at hc h64 HX HY
      cases hb : inM v F0
      · have HF : Hid (r = false) := by rw [HR'.out]; exact fit_no (.inr (.inr (.inr (by rw [hfd]; exact HY.out hb))))
        go_wp2_with (go_at_call 50; refine (within_is _ _ _ h64 hf64).mono ?_; rintro e w' ⟨rfl, rfl⟩)
        go_ret3
        exact MeRes.no HR.out HF.out HB1.out
      · go_wp2_with (go_at_call 50; refine (within_is _ _ _ h64 hf64).mono ?_; rintro e w' ⟨rfl, rfl⟩)
        go_round
        case rel => exact ⟨k + 1, by omega, by go_num, by rw [HX.out, HAll.out, hb]; rfl⟩
        case measure => simp [intOf]; omega
    · obtain rfl : k = n := by omega
      have HF : Hid (r = true) := by rw [HR'.out]; exact fit_yes HP.out (by omega) HQ.out (by rw [hfd]; exact HAll.out)
      go_wp2
      go_ret3
      exact ⟨.slice AQ _ cq, (F0 : Int), by rw [← HR.out, HF.out]; rfl, fun _ => ⟨by rw [hfd], HO.out⟩, HB1.out⟩
end Go.Proofs.Ytiepoadnncnbkaa
