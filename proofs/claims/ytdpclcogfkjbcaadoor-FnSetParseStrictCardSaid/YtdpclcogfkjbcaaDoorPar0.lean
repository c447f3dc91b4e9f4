/- A member set is the list of its mask's members; what the parsers compute, in plain Lean. -/
import Derived.Test.YtdpclcogfkjbcaaDoorFmt2
import Derived.Test.YtdpclcogfkjbcaaDoorMask
import Derived.Lib.Split
import Derived.Lib.Strings
import Derived.Lib.AtoiAll
namespace Go.Proofs.YtdpclcogfkjbcaaDoor
open Go.RowKit
set_option maxHeartbeats 4000000
set_option linter.unusedVariables false

theorem okT_le {zs : List Int} : ∀ {n k : Nat}, k ≤ n → okTo zs n = true → okTo zs k = true
  | 0, k, h, ho => by
    have : k = 0 := by omega
    subst this
    exact ho
  | n + 1, k, h, ho => by
    by_cases hk : k = n + 1
    · subst hk; exact ho
    · rw [okTo_next] at ho
      simp only [Bool.and_eq_true] at ho
      exact okT_le (by omega) ho.1
theorem ofTo_put6 : ∀ s : Nat, s < 64 → ∀ j : Nat, j < 6 → s < 2 ^ j → ofTo (s + 2 ^ j) 6 = ofTo s 6 ++ [(j : Int) + 1] := by decide +kernel
theorem take_is6 (zs : List Int) : ∀ k, k ≤ zs.length → okTo zs k = true → zs.take k = ofTo (sumTo zs k) 6
  | 0, _, _ => by simp [sumTo]; decide
  | k + 1, hk, h => by
    have h1 := okT_le (Nat.le_succ k) h
    have h2 := sum_lt zs k h
    have ih := take_is6 zs k (by omega) h1
    have hs := sum_small h1
    rw [okTo_next] at h
    simp only [Bool.and_eq_true, okAt] at h
    obtain ⟨v1, v2⟩ := inB_iff.1 h.2.1
    obtain ⟨j, hj, e⟩ : ∃ j : Nat, j < 6 ∧ zs.getD k 0 = (j : Int) + 1 := ⟨(zs.getD k 0 - 1).toNat, by omega, by omega⟩
    have hp : pw (zs.getD k 0) = 2 ^ j := by unfold pw; congr 1; omega
    rw [hp] at h2
    have hput := ofTo_put6 _ hs j hj h2
    have hg : zs.getD k 0 = zs[k]'(by omega) := by simp [show k < zs.length by omega]
    rw [List.take_succ_eq_append_getElem (by omega), ih, ← hg, e, ← hput]
    show ofTo (sumTo zs k + 2 ^ j) 6 = ofTo (sumTo zs k + pw (zs.getD k 0)) 6
    rw [hp]
theorem set_canon6 {zs : List Int} (h : setB zs = true) : ∃ m, m < 64 ∧ zs = ofTo m 6 := by
  refine ⟨sumTo zs zs.length, sum_small h, ?_⟩
  have := take_is6 zs zs.length (Nat.le_refl _) h
  rw [List.take_length] at this
  exact this

/-- What 'digits' says of a word. -/
def digV (u : ByteArray) : Int × Bool := match Lib.atoiAll u.data.toList with
  | .ok v => (v, decide (0 ≤ v) && (Lib.itoa v == u.data.toList))
  | Lib.NumEnd.syntax => (0, false)
  | .range => (Lib.atoiSat u.data.toList, false)
/-- What the program's SetParse strips, its words, the list that it reads. -/
def parA (t : ByteArray) : ByteArray := ⟨(Lib.trimPrefix t.data.toList [123]).toArray⟩
def parB (t : ByteArray) : ByteArray := ⟨(Lib.trimSuffix (parA t).data.toList [125]).toArray⟩
def parOk (t : ByteArray) : Bool := Lib.hasPrefix t.data.toList [123] && Lib.hasSuffix (parA t).data.toList [125]
def words (t : ByteArray) : List ByteArray := Lib.splitB ⟨#[44]⟩ 0 (Lib.countB (parB t) ⟨#[44]⟩) (parB t)
def pickW (u : ByteArray) : Option Int := if (digV u).2 then some (digV u).1 else none
def pz (t : ByteArray) : List Int := (words t).filterMap pickW
/-- The byte at a place. -/
def bt8 (s : ByteArray) (i : Nat) : Nat := if h : i < s.size then s[i].toNat else 0
/-- The list that the reference reads: its first k members. -/
def szTo (t : ByteArray) (k : Nat) : List Int := (List.range k).map fun j => (bt8 t (1 + 2 * j) : Int) - 48
def szK (t : ByteArray) : Nat := if t.size ≤ 13 then (t.size - 1) / 2 else 0
def sz (t : ByteArray) : List Int := szTo t (szK t)
theorem par_set6 : ∀ m : Nat, m < 64 → parOk (fmtS (ofTo m 6)) = true ∧ pz (fmtS (ofTo m 6)) = ofTo m 6 ∧ sz (fmtS (ofTo m 6)) = ofTo m 6 := by decide +kernel
theorem par_set {zs : List Int} (h : setB zs = true) : parOk (fmtS zs) = true ∧ pz (fmtS zs) = zs ∧ sz (fmtS zs) = zs := by
  obtain ⟨m, hm, rfl⟩ := set_canon6 h
  exact par_set6 m hm
theorem fmtO_set {zs : List Int} {t : ByteArray} (h : fmtO zs = t) (ht : 0 < t.size) : setB zs = true ∧ fmtS zs = t := by
  unfold fmtO at h
  cases hs : setB zs
  · rw [hs] at h
    simp at h
    subst h
    exact absurd ht (by decide)
  · rw [hs] at h
    exact ⟨rfl, by simpa using h⟩
/-- What both parsers answer: the list, and whether it is one. -/
def parV (t : ByteArray) : List Int × Bool := if parOk t = true ∧ fmtO (pz t) = t then (pz t, true) else ([], false)
theorem parOk_size {t : ByteArray} (h : parOk t = true) : 0 < t.size := by
  rcases Nat.eq_zero_or_pos t.size with h0 | h0
  · have : t = ⟨#[]⟩ := by
      apply ByteArray.ext
      exact Array.eq_empty_of_size_eq_zero h0
    subst this
    exact absurd h (by decide)
  · exact h0
theorem parV_spec (t : ByteArray) (ht : 0 < t.size) : parV t = if fmtO (sz t) = t then (sz t, true) else ([], false) := by
  unfold parV
  by_cases h : fmtO (sz t) = t
  · rw [if_pos h]
    obtain ⟨h1, h2⟩ := fmtO_set h ht
    obtain ⟨p1, p2, p3⟩ := par_set h1
    rw [h2] at p1 p2 p3
    rw [if_pos ⟨p1, by rw [p2]; exact h⟩, p2]
  · rw [if_neg h]
    by_cases h' : parOk t = true ∧ fmtO (pz t) = t
    · obtain ⟨h1, h2⟩ := fmtO_set h'.2 ht
      obtain ⟨p1, p2, p3⟩ := par_set h1
      rw [h2] at p1 p2 p3
      exact absurd (by rw [p3]; exact h'.2) h
    · rw [if_neg h']
end Go.Proofs.YtdpclcogfkjbcaaDoor
