/- Quorum systems: what makes a list of lists one; the plain laws of the masks. -/
import Derived.Test.YtafhpbghogdipaaGreatDoorSet6
namespace Go.Proofs.YtafhpbghogdipaaGreatDoor
open Go.RowKit

/-- The mask of a member set; whether one mask lies in another. -/
def mkS (zs : List Int) : Nat := sumTo zs zs.length
def inM (a b : Nat) : Bool := (a &&& (18446744073709551615 - b)) == 0
def mAt (zss : List (List Int)) (k : Nat) : Nat := mkS (zss.getD k [])
def sAt (zss : List (List Int)) (k : Nat) : Bool := setB (zss.getD k [])
/-- One of the first k masks lies in m. -/
def anyTo (g : Nat → Nat) (m : Nat) : Nat → Bool
  | 0 => false
  | k + 1 => anyTo g m k || inM (g k) m
/-- List k is as a quorum system wants it, behind those ahead of it. -/
def rowA (zss : List (List Int)) (k : Nat) : Bool := sAt zss k && !(mAt zss k == 0) && (k == 0 || decide (mAt zss (k - 1) < mAt zss k)) && !(anyTo (mAt zss) (mAt zss k) k)
def famTo (zss : List (List Int)) : Nat → Bool
  | 0 => true
  | k + 1 => famTo zss k && rowA zss k
/-- Lists are a quorum system. -/
def famB (zss : List (List Int)) : Bool := decide (zss.length ≤ 20) && famTo zss zss.length

theorem famTo_le {zss : List (List Int)} : ∀ {n k : Nat}, k ≤ n → famTo zss n = true → famTo zss k = true
  | 0, k, h, hn => by
    have : k = 0 := by omega
    subst this
    exact hn
  | n + 1, k, h, hn => by
    by_cases hk : k = n + 1
    · subst hk; exact hn
    · simp only [famTo, Bool.and_eq_true] at hn
      exact famTo_le (by omega) hn.1
theorem fam_at {zss : List (List Int)} {n k : Nat} (hk : k < n) (h : famTo zss n = true) : rowA zss k = true := by
  have := famTo_le (k := k + 1) (by omega) h
  simp only [famTo, Bool.and_eq_true] at this
  exact this.2
theorem fam_set {zss : List (List Int)} {n k : Nat} (hk : k < n) (h : famTo zss n = true) : sAt zss k = true := by
  have := fam_at hk h
  simp only [rowA, Bool.and_eq_true] at this
  exact this.1.1.1
theorem fam_bad {zss : List (List Int)} {k : Nat} (hk : k < zss.length) (h : rowA zss k = false) : famB zss = false := by
  cases hf : famB zss
  · rfl
  · simp only [famB, Bool.and_eq_true] at hf
    rw [fam_at hk hf.2] at h
    cases h
theorem fam_big {zss : List (List Int)} (h : 20 < zss.length) : famB zss = false := by
  have : ¬ zss.length ≤ 20 := by omega
  simp [famB, this]
theorem fam_ok {zss : List (List Int)} (h : zss.length ≤ 20) (hf : famTo zss zss.length = true) : famB zss = true := by simp [famB, h, hf]
theorem famB_to {zss : List (List Int)} (h : famB zss = true) : zss.length ≤ 20 ∧ famTo zss zss.length = true := by
  simpa [famB] using h
theorem m_small {zss : List (List Int)} {k : Nat} (h : sAt zss k = true) : mAt zss k < 64 := sum_small h
theorem inM_sub {a b : List Int} (ha : setB a = true) (hb : setB b = true) : inM (mkS a) (mkS b) = subB a b := by
  have := within_iff ha hb
  rw [Bool.eq_iff_iff]
  unfold inM mkS
  simp only [beq_iff_eq]
  exact this
theorem mk_pos {zs : List Int} (h : zs ≠ []) : 0 < mkS zs := by
  cases zs with
  | nil => exact absurd rfl h
  | cons a l =>
    show 0 < sumTo _ (l.length + 1)
    have := pw_pos ((a :: l).getD l.length 0)
    show 0 < sumTo _ l.length + pw _
    omega
theorem mk_zero (zs : List Int) : (mkS zs == 0) = (zs.length == 0) := by
  cases zs with
  | nil => rfl
  | cons a l =>
    have := mk_pos (zs := a :: l) (by simp)
    rw [Bool.eq_iff_iff]
    simp
    omega
theorem inM_le : ∀ a, a < 64 → ∀ b, b < 64 → inM a b = true → a ≤ b := by decide +kernel
theorem m_mono {zss : List (List Int)} : ∀ {k j : Nat}, famTo zss (k + 1) = true → j < k → mAt zss j < mAt zss k
  | 0, j, _, hj => absurd hj (by omega)
  | k + 1, j, h, hj => by
    have h1 := fam_at (k := k + 1) (by omega) h
    simp only [rowA, Bool.and_eq_true] at h1
    have h2 : mAt zss k < mAt zss (k + 1) := by simpa using h1.1.2
    by_cases e : j = k
    · subst e; exact h2
    · have := m_mono (k := k) (j := j) (famTo_le (by omega) h) (by omega)
      omega
/-- What lies behind in a valid system is no subset of what lies ahead. -/
theorem no_back {zss : List (List Int)} {k j : Nat} (h : famTo zss k = true) (hs : sAt zss k = true) (hm : k = 0 ∨ mAt zss (k - 1) < mAt zss k) (hj : j < k) : subB (zss.getD k []) (zss.getD j []) = false := by
  have h1 : mAt zss j < mAt zss k := by
    rcases hm with hm | hm
    · omega
    · by_cases e : j = k - 1
      · subst e; exact hm
      · have := m_mono (zss := zss) (k := k - 1) (j := j) (by rw [show k - 1 + 1 = k by omega]; exact h) (by omega)
        omega
  have h2 := fam_set hj h
  rw [← inM_sub hs h2]
  cases hc : inM (mkS (zss.getD k [])) (mkS (zss.getD j []))
  · rfl
  · have := inM_le _ (m_small hs) _ (m_small h2) hc
    have e1 : mAt zss k = mkS (zss.getD k []) := rfl
    have e2 : mAt zss j = mkS (zss.getD j []) := rfl
    omega
theorem sub_at {zss : List (List Int)} {k j : Nat} (hk : sAt zss k = true) (hj : sAt zss j = true) : subB (zss.getD j []) (zss.getD k []) = inM (mAt zss j) (mAt zss k) := (inM_sub hj hk).symm
theorem any_is {g : Nat → Nat} {m k : Nat} : ∀ {n : Nat}, k < n → inM (g k) m = true → anyTo g m n = true
  | 0, h, _ => absurd h (by omega)
  | n + 1, h, hm => by
    by_cases e : k = n
    · subst e; simp [anyTo, hm]
    · simp [anyTo, any_is (n := n) (by omega) hm]
end Go.Proofs.YtafhpbghogdipaaGreatDoor
