/- Plain: what Availability and Resilience count, by masks. -/
import Derived.Test.YtiepoadnncnbkaaFam4
namespace Go.Proofs.Ytiepoadnncnbkaa
open Go.RowKit
set_option maxHeartbeats 2000000

/-- The mask of the first N members. -/
def fst_ (N : Nat) : Nat := 2 ^ N - 1
/-- The first k masks all lie in b. -/
def allIn (g : Nat → Nat) (b : Nat) : Nat → Bool
  | 0 => true
  | k + 1 => allIn g b k && inM (g k) b
theorem allIn_le {g : Nat → Nat} {b : Nat} : ∀ {n k : Nat}, k ≤ n → allIn g b n = true → allIn g b k = true
  | 0, k, hk, h => by
    have : k = 0 := by omega
    subst this
    exact h
  | n + 1, k, hk, h => by
    by_cases e : k = n + 1
    · subst e; exact h
    · unfold allIn at h
      rw [Bool.and_eq_true] at h
      exact allIn_le (by omega) h.1
theorem allIn_at {g : Nat → Nat} {b n k : Nat} (hk : k < n) (h : allIn g b n = true) : inM (g k) b = true := by
  have := allIn_le (k := k + 1) (by omega) h
  unfold allIn at this
  rw [Bool.and_eq_true] at this
  exact this.2
theorem allIn_no {g : Nat → Nat} {b n k : Nat} (hk : k < n) (h : inM (g k) b = false) : allIn g b n = false := by
  cases hc : allIn g b n with
  | false => rfl
  | true => rw [allIn_at hk hc] at h; cases h
/-- A subset of the first N members that has a quorum; one that has none. -/
def hit (g : Nat → Nat) (n N m : Nat) : Bool := inM m (fst_ N) && anyTo g m n
def miss (g : Nat → Nat) (n N m : Nat) : Bool := inM m (fst_ N) && !(anyTo g m n)
/-- How many of the first k masks pass; how many of these have c members. -/
def cntTo (P : Nat → Bool) : Nat → Nat
  | 0 => 0
  | k + 1 => cntTo P k + (if P k = true then 1 else 0)
def byTo (P : Nat → Bool) (c : Nat) (k : Nat) : Nat := cntTo (fun m => P m && (cnt m == c)) k
theorem cntTo_le (P : Nat → Bool) : ∀ k, cntTo P k ≤ k
  | 0 => Nat.le_refl _
  | k + 1 => by
    have := cntTo_le P k
    unfold cntTo
    split <;> omega
theorem byTo_le (P : Nat → Bool) (c k : Nat) : byTo P c k ≤ k := cntTo_le _ k
theorem cntTo_none {P : Nat → Bool} {k : Nat} : ∀ {n : Nat}, k ≤ n → (∀ m, k ≤ m → m < n → P m = false) → cntTo P n = cntTo P k
  | 0, h, _ => by
    have : k = 0 := by omega
    subst this
    rfl
  | n + 1, h, hp => by
    by_cases e : k = n + 1
    · subst e; rfl
    · have ih := cntTo_none (P := P) (k := k) (n := n) (by omega) (fun m h1 h2 => hp m h1 (by omega))
      show cntTo P n + (if P n = true then 1 else 0) = _
      rw [hp n (by omega) (by omega), ih]
      rfl
theorem cntTo_pos {P : Nat → Bool} : ∀ {n : Nat}, cntTo P n ≠ 0 ↔ ∃ m, m < n ∧ P m = true
  | 0 => by simp [cntTo]
  | n + 1 => by
    have ih := cntTo_pos (P := P) (n := n)
    unfold cntTo
    constructor
    · intro h
      by_cases hp : P n = true
      · exact ⟨n, by omega, hp⟩
      · rw [if_neg hp] at h
        obtain ⟨m, h1, h2⟩ := ih.1 (by omega)
        exact ⟨m, by omega, h2⟩
    · rintro ⟨m, h1, h2⟩
      by_cases e : m = n
      · subst e
        rw [if_pos h2]
        omega
      · have := ih.2 ⟨m, by omega, h2⟩
        omega
theorem byTo_pos {P : Nat → Bool} {c n : Nat} : byTo P c n ≠ 0 ↔ ∃ m, m < n ∧ P m = true ∧ cnt m = c := by
  unfold byTo
  rw [cntTo_pos]
  constructor
  · rintro ⟨m, h1, h2⟩
    rw [Bool.and_eq_true] at h2
    exact ⟨m, h1, h2.1, by simpa using h2.2⟩
  · rintro ⟨m, h1, h2, h3⟩
    exact ⟨m, h1, by rw [Bool.and_eq_true]; exact ⟨h2, by simpa using h3⟩⟩
theorem byTo_next (P : Nat → Bool) (c k : Nat) : byTo P c (k + 1) = byTo P c k + (if P k = true ∧ cnt k = c then 1 else 0) := by
  show cntTo _ k + _ = _
  congr 1
  by_cases h1 : P k = true <;> by_cases h2 : cnt k = c <;> simp [h1, h2]
/-- The sum over the sizes is the whole count. -/
theorem byTo_sum (P : Nat → Bool) : ∀ k, byTo P 0 k + byTo P 1 k + byTo P 2 k + byTo P 3 k + byTo P 4 k + byTo P 5 k + byTo P 6 k = cntTo P k
  | 0 => rfl
  | k + 1 => by
    have ih := byTo_sum P k
    have h6 := cnt_le k
    simp only [byTo_next]
    unfold cntTo
    by_cases hp : P k = true
    · rcases (show cnt k = 0 ∨ cnt k = 1 ∨ cnt k = 2 ∨ cnt k = 3 ∨ cnt k = 4 ∨ cnt k = 5 ∨ cnt k = 6 by omega) with e | e | e | e | e | e | e <;> simp [e, hp] <;> omega
    · simp [hp]; omega

theorem in_fst : ∀ N, N ≤ 6 → ∀ m, m < 64 → inM m (fst_ N) = decide (m < 2 ^ N) := by decide +kernel
theorem fst_fit : ∀ N, N ≤ 6 → ∀ m, m < 64 → m ≠ 0 → (inM m (fst_ N) = decide ((ofTo m 6).getD ((ofTo m 6).length - 1) 0 ≤ (N : Int))) := by decide +kernel
theorem fst_co : ∀ N, N ≤ 6 → ∀ m, m < 64 → inM m (fst_ N) = true → cnt (fst_ N - m) + cnt m = N ∧ inM (fst_ N - m) (fst_ N) = true ∧ fst_ N - m < 64 ∧ minusL (ofTo (fst_ N) 6) (ofTo m 6) = ofTo (fst_ N - m) 6 := by decide +kernel
theorem fst_back : ∀ N, N ≤ 6 → ∀ m, m < 64 → inM m (fst_ N) = true → fst_ N - (fst_ N - m) = m := by decide +kernel
theorem fst_lt : ∀ N, N ≤ 6 → fst_ N < 64 := by decide +kernel
theorem cnt_zero : ∀ m, m < 64 → cnt m = 0 → m = 0 := by decide +kernel
theorem fst_sub : ∀ N, N ≤ 6 → ∀ m, m < 64 → subB (ofTo m 6) (ofTo (fst_ N) 6) = inM m (fst_ N) := by decide +kernel
theorem cnt_at0 : cnt 0 = 0 := by decide
theorem in_zero : ∀ m, m < 64 → inM m 0 = true → m = 0 := by decide +kernel
theorem pow_le : ∀ N, N ≤ 6 → 2 ^ N ≤ 64 := by decide +kernel

/-- Behind 2^N nothing is counted. -/
theorem hit_stop {g : Nat → Nat} {n N : Nat} (hN : N ≤ 6) : cntTo (hit g n N) 64 = cntTo (hit g n N) (2 ^ N) :=
  cntTo_none (pow_le N hN) fun m h1 h2 => by
    unfold hit
    rw [in_fst N hN m h2]
    simp [show ¬ m < 2 ^ N by omega]

/-- The sets whose loss leaves no quorum. -/
def lost (g : Nat → Nat) (n N m : Nat) : Bool := inM m (fst_ N) && !(anyTo g (fst_ N - m) n)
def worstTo (g : Nat → Nat) (n N : Nat) : Nat → Nat
  | 0 => N
  | k + 1 => if lost g n N k = true then min (worstTo g n N k) (cnt k) else worstTo g n N k
theorem worst_le (g : Nat → Nat) (n N x : Nat) : ∀ k, worstTo g n N k ≤ x ↔ N ≤ x ∨ ∃ m, m < k ∧ lost g n N m = true ∧ cnt m ≤ x
  | 0 => by simp [worstTo]
  | k + 1 => by
    have ih := worst_le g n N x k
    unfold worstTo
    by_cases hl : lost g n N k = true
    · rw [if_pos hl]
      constructor
      · intro h
        by_cases h1 : worstTo g n N k ≤ x
        · rcases ih.1 h1 with h2 | ⟨m, h3, h4, h5⟩
          · exact .inl h2
          · exact .inr ⟨m, by omega, h4, h5⟩
        · exact .inr ⟨k, by omega, hl, by omega⟩
      · rintro (h | ⟨m, h3, h4, h5⟩)
        · have := ih.2 (.inl h); omega
        · by_cases e : m = k
          · subst e; omega
          · have := ih.2 (.inr ⟨m, by omega, h4, h5⟩); omega
    · rw [if_neg hl, ih]
      constructor
      · rintro (h | ⟨m, h3, h4, h5⟩)
        · exact .inl h
        · exact .inr ⟨m, by omega, h4, h5⟩
      · rintro (h | ⟨m, h3, h4, h5⟩)
        · exact .inl h
        · by_cases e : m = k
          · subst e; exact absurd h4 hl
          · exact .inr ⟨m, by omega, h4, h5⟩
theorem worst_bd (g : Nat → Nat) (n N : Nat) (k : Nat) : worstTo g n N k ≤ N := (worst_le g n N N k).2 (.inl (Nat.le_refl _))

/-- A quorum system of which none is empty: the empty set has no quorum. -/
theorem any_zero {g : Nat → Nat} : ∀ n, (∀ j, j < n → g j < 64 ∧ g j ≠ 0) → anyTo g 0 n = false
  | 0, _ => rfl
  | n + 1, h => by
    have ih := any_zero n (fun j hj => h j (by omega))
    show (anyTo g 0 n || inM (g n) 0) = false
    rw [ih, Bool.false_or]
    cases hc : inM (g n) 0 with
    | false => rfl
    | true => exact absurd (in_zero _ (h n (by omega)).1 hc) (h n (by omega)).2
/-- The loop's end is the reference's answer. -/
theorem resil_is {g : Nat → Nat} {n N r : Nat} (hN1 : 1 ≤ N) (hN : N ≤ 6) (hn : 0 < n) (hg : ∀ j, j < n → g j < 64 ∧ g j ≠ 0) (hin : allIn g (fst_ N) n = true)
    (hr : r ≤ N) (hz : ∀ j, j < r → byTo (miss g n N) (N - j - 1) (2 ^ N) = 0) (he : r = N ∨ byTo (miss g n N) (N - r - 1) (2 ^ N) ≠ 0) : r < N ∧ worstTo g n N 64 = r + 1 := by
  have hp : ∀ m, m < 64 → inM m (fst_ N) = true → m < 2 ^ N := fun m h1 h2 => by
    rw [in_fst N hN m h1] at h2
    exact of_decide_eq_true h2
  have h0 : byTo (miss g n N) 0 (2 ^ N) ≠ 0 := byTo_pos.2 ⟨0, Nat.two_pow_pos N, by
    unfold miss
    rw [in_fst N hN 0 (by omega), any_zero n hg]
    simp [Nat.two_pow_pos], cnt_at0⟩
  have hrN : r < N := by
    rcases Nat.lt_or_ge r N with h | h
    · exact h
    · exact absurd (by have := hz (N - 1) (by omega); rwa [show N - (N - 1) - 1 = 0 by omega] at this) h0
  refine ⟨hrN, ?_⟩
  have hup : worstTo g n N 64 ≤ r + 1 := by
    have he := he.resolve_left (by omega)
    obtain ⟨m, h1, h2, h3⟩ := byTo_pos.1 he
    have h64 : m < 64 := by have := pow_le N hN; omega
    unfold miss at h2
    rw [Bool.and_eq_true] at h2
    obtain ⟨e1, e2, e3, _⟩ := fst_co N hN m h64 h2.1
    refine (worst_le g n N (r + 1) 64).2 (.inr ⟨fst_ N - m, e3, ?_, by omega⟩)
    unfold lost
    rw [e2, fst_back N hN m h64 h2.1]
    exact h2.2
  have hlo : ¬ worstTo g n N 64 ≤ r := fun h => by
    rcases (worst_le g n N r 64).1 h with h1 | ⟨m, h1, h2, h3⟩
    · omega
    · unfold lost at h2
      rw [Bool.and_eq_true] at h2
      obtain ⟨e1, e2, e3, _⟩ := fst_co N hN m h1 h2.1
      by_cases hc : cnt m = 0
      · have hm0 := cnt_zero m h1 hc
        subst hm0
        have hq : anyTo g (fst_ N) n = true := any_is (k := 0) hn (allIn_at hn hin)
        have h4 := h2.2
        rw [show fst_ N - 0 = fst_ N from rfl, hq] at h4
        cases h4
      · refine absurd (hz (cnt m - 1) (by omega)) (byTo_pos.2 ⟨fst_ N - m, hp _ e3 e2, ?_, by omega⟩)
        unfold miss
        rw [e2]
        exact h2.2
  omega

/-- Fit to be measured. -/
def fitB (zss : List (List Int)) (n : Nat) (x : Int) : Bool := famB zss && decide (0 < n) && inB x 1 6 && allIn (mAt zss) (fst_ x.toNat) n
/-- What Availability and Resilience answer. -/
def avV (zss : List (List Int)) (n : Nat) (x : Int) : Int := if fitB zss n x = true then (cntTo (hit (mAt zss) n x.toNat) 64 : Nat) else -1
def rsV (zss : List (List Int)) (n : Nat) (x : Int) : Int := if fitB zss n x = true then ((worstTo (mAt zss) n x.toNat 64 : Nat) : Int) - 1 else -1
theorem m_pos {zss : List (List Int)} {n k : Nat} (h : famTo zss n = true) (hk : k < n) : mAt zss k ≠ 0 := by
  have := fam_at hk h
  rw [rowA_of] at this
  simp only [Bool.and_eq_true, Bool.not_eq_true'] at this
  intro h0
  have h1 := this.1.1.2
  rw [h0] at h1
  cases h1
theorem last_in {zss : List (List Int)} {n N k : Nat} (h : famTo zss n = true) (hk : k < n) (hN : N ≤ 6) : inM (mAt zss k) (fst_ N) = decide ((rw_ zss k).getD (ln zss k - 1) 0 ≤ (N : Int)) := by
  have hs := fam_set hk h
  have := fst_fit N hN (mAt zss k) (m_small hs) (m_pos h hk)
  rw [this]
  have hc := set_canon hs
  unfold ln rw_ mAt
  rw [← hc]
theorem ln_pos {zss : List (List Int)} {n k : Nat} (h : famTo zss n = true) (hk : k < n) : 0 < ln zss k := by
  rcases Nat.eq_zero_or_pos (ln zss k) with h0 | h0
  · refine absurd ?_ (m_pos h hk)
    have h1 : zss.getD k [] = [] := List.eq_nil_of_length_eq_zero h0
    unfold mAt
    rw [h1]
    rfl
  · exact h0
theorem ln_six {zss : List (List Int)} {n k : Nat} (h : famTo zss n = true) (hk : k < n) : ln zss k ≤ 6 := by
  have := cnt_set (fam_set hk h)
  unfold ln rw_
  rw [this]
  exact cnt_le _
end Go.Proofs.Ytiepoadnncnbkaa
