/- What the laws on logs lean on. -/
import Derived.Test.YtijilikkdnpbmaaLogE
namespace Go.Proofs.Ytijilikkdnpbmaa
open Go.RowKit
set_option maxHeartbeats 4000000
set_option linter.unusedVariables false

theorem implLogConfig_is {v : Int} (A : Option Addr) (n c : Nat) (fl : List Int) (k : Int) (w : World) (B : Nat) (hA : Row w B A (fl.map (Value.int .i64))) (hB : B ≤ w.heap.size) (hl : fl.length = n * 2) (hn : n ≤ 1048576) (s : Int) (hv : cfgB fl k n s = v) : Calls Try.prog 18 #[.slice A n c, .int .i64 k, .int .i64 s] w fun e w' => e = .returned (.int .i64 v) ∧ Below w.heap.size w w' := by
  rw [← hv]; exact implLogConfig_any A n c fl k w B hA hB hl hn s
theorem specLogConfig_is {v : Int} (A : Option Addr) (n c : Nat) (fl : List Int) (k : Int) (w : World) (B : Nat) (hA : Row w B A (fl.map (Value.int .i64))) (hB : B ≤ w.heap.size) (hl : fl.length = n * 2) (hn : n ≤ 1048576) (s : Int) (hv : cfgB fl k n s = v) : Calls Try.prog 19 #[.slice A n c, .int .i64 k, .int .i64 s] w fun e w' => e = .returned (.int .i64 v) ∧ Below w.heap.size w w' := by
  rw [← hv]; exact specLogConfig_any A n c fl k w B hA hB hl hn s
theorem cfg_nz {fl : List Int} {k s v : Int} {n : Nat} (h : cfgB fl k n s = v) (h0 : ¬ v = 0) : logB fl k n = true ∧ 0 ≤ s ∧ s ≤ n + 1 ∧ v = cfgTo fl (stopAt n s) := by
  unfold cfgB at h
  cases h1 : logB fl k n
  · simp [h1] at h; omega
  · cases h2 : inB s 0 (n + 1)
    · simp [h1, h2] at h; omega
    · simp [h1, h2] at h
      have := inB_iff.1 h2
      exact ⟨rfl, this.1, this.2, h.symm⟩
theorem cfg_take {fl : List Int} {m : Nat} : ∀ j, j ≤ m → cfgTo (fl.take (m * 2)) j = cfgTo fl j
  | 0, _ => rfl
  | j + 1, h => by
    have e : fC (fl.take (m * 2)) j = fC fl j := by
      unfold fC
      simp only [List.getD]
      rw [List.getElem?_take, if_pos (by omega)]
    simp only [cfgTo, e, cfg_take (m := m) j (by omega)]
theorem ent_take {fl : List Int} {n : Int} {m : Nat} : ∀ j, j ≤ m → entTo (fl.take (m * 2)) n j = entTo fl n j
  | 0, _ => rfl
  | j + 1, h => by
    have e : fC (fl.take (m * 2)) j = fC fl j := by
      unfold fC
      simp only [List.getD]
      rw [List.getElem?_take, if_pos (by omega)]
    have e2 : fV (fl.take (m * 2)) j = fV fl j := by
      unfold fV
      simp only [List.getD]
      rw [List.getElem?_take, if_pos (by omega)]
    simp only [entTo, e, e2, ent_take (m := m) j (by omega)]
theorem log_take {fl : List Int} {k : Int} {n m : Nat} (h : logB fl k n = true) (hm : m ≤ n) : logB (fl.take (m * 2)) k m = true := by
  obtain ⟨h1, h2, h3, h4⟩ := log_iff h
  unfold logB
  rw [inB_true h1 h2, ent_take m (Nat.le_refl _), entTo_le hm h4]
  simp
  omega
end Go.Proofs.Ytijilikkdnpbmaa
