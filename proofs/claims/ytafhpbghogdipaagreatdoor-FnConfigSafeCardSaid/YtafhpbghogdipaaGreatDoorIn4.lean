/- The plain law: the masks' table holds no nought just when each quorum meets each other. -/
import Derived.Test.YtafhpbghogdipaaGreatDoorIn3
import Derived.Test.YtafhpbghogdipaaGreatDoorCw13
namespace Go.Proofs.YtafhpbghogdipaaGreatDoor
open Go.RowKit
set_option maxHeartbeats 4000000
set_option maxRecDepth 100000

theorem inter_mask : ∀ m : Nat, m < 64 → ∀ k : Nat, k < 64 → ((interL (ofTo m 6) (ofTo k 6)).length == 0) = ((m &&& k) == 0) := by decide +kernel
theorem inter0 {a b : List Int} (ha : setB a = true) (hb : setB b = true) : (((interL a b).length : Int) == 0) = ((mkS a &&& mkS b) == 0) := by
  have h1 := inter_mask _ (mk_small ha) _ (mk_small hb)
  rw [← set_canon ha, ← set_canon hb] at h1
  rw [← h1]
  cases (interL a b).length <;> simp
  omega
theorem and_mask : ∀ m : Nat, m < 64 → ∀ k : Nat, k < 64 → bits .and .u64 (m : Int) (k : Int) = ((m &&& k : Nat) : Int) := by decide +kernel
theorem hasZ_any (zs : List Int) : ∀ k, k ≤ zs.length → hasZ zs k = (zs.take k).any (fun x => x == 0)
  | 0, _ => by simp [hasZ]
  | k + 1, h => by
    have hg : zs.getD k 0 = zs[k]'(by omega) := by simp [show k < zs.length by omega]
    rw [hasZ, hasZ_any zs k (by omega), List.take_succ_eq_append_getElem (by omega), List.any_append, hg]
    simp
theorem hasZ_all (zs : List Int) : hasZ zs zs.length = zs.any (fun x => x == 0) := by
  rw [hasZ_any zs _ (Nat.le_refl _), List.take_length]
/-- The masks, as integers. -/
def mI (zss : List (List Int)) (n : Nat) : List Int := (List.range n).map fun j => ((mAt zss j : Nat) : Int)
theorem mI_at (zss : List (List Int)) {n k : Nat} (h : k < n) : (mI zss n).getD k 0 = ((mAt zss k : Nat) : Int) := by simp [mI, h]
theorem hit_row {fss gss : List (List Int)} {ng i : Nat} (hi : setB (rw_ fss i) = true) : ∀ k, k ≤ ng → famTo gss k = true → hitTo gss (rw_ fss i) k = !((rowK ((mAt fss i : Nat) : Int) (mI gss ng) k).any (fun x => x == 0))
  | 0, _, _ => by simp [hitTo, rowK]
  | k + 1, hk, hf => by
    have hk' : setB (rw_ gss k) = true := fam_set (n := k + 1) (k := k) (by omega) hf
    have ih := hit_row (ng := ng) hi k (by omega) (famTo_le (n := k + 1) (by omega) hf)
    have e : mAt gss k = mkS (rw_ gss k) := rfl
    have e2 : mAt fss i = mkS (rw_ fss i) := rfl
    rw [hitTo, ih, rowK_succ, List.any_append, inter0 hk' hi, mI_at gss (by omega), e, e2, and_mask _ (mk_small hi) _ (mk_small hk'), Nat.and_comm (mkS (rw_ gss k))]
    generalize (rowK _ _ k).any _ = p
    generalize mkS (rw_ fss i) &&& mkS (rw_ gss k) = m
    have : ((m : Int) == 0) = (m == 0) := by cases m <;> simp; omega
    simp only [List.any_cons, List.any_nil, Bool.or_false, this]
    cases p <;> cases (m == 0) <;> rfl
theorem met_rows {fss gss : List (List Int)} {nf ng : Nat} (hg : famTo gss ng = true) : ∀ k, k ≤ nf → famTo fss k = true → metTo fss gss ng k = !((catR (rowsF (mI fss nf) (mI gss ng) ng) k).any (fun x => x == 0))
  | 0, _, _ => by simp [metTo, catR]
  | k + 1, hk, hf => by
    have hk' : setB (rw_ fss k) = true := fam_set (n := k + 1) (k := k) (by omega) hf
    have ih := met_rows hg (nf := nf) k (by omega) (famTo_le (n := k + 1) (by omega) hf)
    have hr : rowsF (mI fss nf) (mI gss ng) ng k = rowK ((mAt fss k : Nat) : Int) (mI gss ng) ng := by
      unfold rowsF
      rw [mI_at fss (by omega)]
    rw [metTo, ih, catR, List.any_append, hit_row hk' ng (Nat.le_refl _) hg, hr]
    cases (catR _ k).any _ <;> cases (rowK _ _ ng).any _ <;> rfl
/-- ████ The plain law. ████ -/
theorem meet_law {fss gss : List (List Int)} {nf ng : Nat} (hnf : fss.length = nf) (hng : gss.length = ng) (hf : famB fss = true) (hg : famB gss = true) : meetB fss gss nf ng = !(hasZ (catR (rowsF (mI fss nf) (mI gss ng) ng) nf) (catR (rowsF (mI fss nf) (mI gss ng) ng) nf).length) := by
  have h1 := (famB_to hf).2
  have h2 := (famB_to hg).2
  rw [hnf] at h1
  rw [hng] at h2
  rw [meetB, hf, hg, hasZ_all, met_rows h2 nf (Nat.le_refl _) h1]
  rfl
end Go.Proofs.YtafhpbghogdipaaGreatDoor
