/- LogConfig, the reference's and the program's; the laws FnExactLogValid and FnExactLogConfig. -/
import Derived.Test.YtijilikkdnpbmaaLog4
namespace Go.Proofs.Ytijilikkdnpbmaa
open Go.RowKit
set_option maxHeartbeats 2000000
set_option linter.unusedVariables false

theorem l6In_to (s lo hi hi' : Int) (b : Bool) (h : hi = hi') (hb : inB s lo hi' = b) (w : World) : Calls Try.prog 29 #[.int .i64 s, .int .i64 lo, .int .i64 hi] w fun e w' => e = .returned (.bool b) ∧ w' = w := by
  subst h; rw [← hb]; exact l6In_any s lo hi w
theorem specLogValid_is {b : Bool} (A : Option Addr) (n c : Nat) (fl : List Int) (k : Int) (w : World) (B : Nat) (hA : Row w B A (fl.map (Value.int .i64))) (hB : B ≤ w.heap.size) (hl : fl.length = n * 2) (hn : n ≤ 1048576) (hb : logB fl k n = b) : Calls Try.prog 12 #[.slice A n c, .int .i64 k] w fun e w' => e = .returned (.bool b) ∧ Below w.heap.size w w' := by
  rw [← hb]; exact specLogValid_any A n c fl k w B hA hB hl hn
theorem implLogValid_is {b : Bool} (A : Option Addr) (n c : Nat) (fl : List Int) (k : Int) (w : World) (B : Nat) (hA : Row w B A (fl.map (Value.int .i64))) (hB : B ≤ w.heap.size) (hl : fl.length = n * 2) (hn : n ≤ 1048576) (hb : logB fl k n = b) : Calls Try.prog 14 #[.slice A n c, .int .i64 k] w fun e w' => e = .returned (.bool b) ∧ Below w.heap.size w w' := by
  rw [← hb]; exact implLogValid_any A n c fl k w B hA hB hl hn
theorem log_iff {fl : List Int} {k : Int} {n : Nat} (h : logB fl k n = true) : 1 ≤ k ∧ k ≤ 5 ∧ n ≤ 12 ∧ entTo fl k n = true := by
  unfold logB at h
  simp only [Bool.and_eq_true, decide_eq_true_eq] at h
  obtain ⟨⟨h1, h2⟩, h3⟩ := h
  have := inB_iff.1 h1
  exact ⟨this.1, this.2, h2, h3⟩
theorem log_pos {fl : List Int} {k : Int} {n : Nat} (h : logB fl k n = true) : ∀ j, j < n → 0 ≤ fC fl j := fun j hj => by
  have := ent_iff.1 (ent_at hj (log_iff h).2.2.2)
  omega

/-- The configuration of a slot; 0 where there is none. -/
def cfgB (fl : List Int) (k : Int) (n : Nat) (s : Int) : Int := if logB fl k n && inB s 0 (n + 1) then cfgTo fl (stopAt n s) else 0
theorem cfg_no1 {fl : List Int} {k s : Int} {n : Nat} (h : logB fl k n = false) : cfgB fl k n s = 0 := by simp [cfgB, h]
theorem cfg_no2 {fl : List Int} {k s : Int} {n : Nat} (h : inB s 0 (n + 1) = false) : cfgB fl k n s = 0 := by simp [cfgB, h]
theorem cfg_yes {fl : List Int} {k s : Int} {n : Nat} (h : logB fl k n = true) (h2 : inB s 0 (n + 1) = true) : cfgB fl k n s = cfgTo fl (stopAt n s) := by simp [cfgB, h, h2]

theorem specLogConfig_any (A : Option Addr) (n c : Nat) (fl : List Int) (k : Int) (w : World) (B : Nat) (hA : Row w B A (fl.map (Value.int .i64))) (hB : B ≤ w.heap.size) (hl : fl.length = n * 2) (hn : n ≤ 1048576) (s : Int) : Calls Try.prog 19 #[.slice A n c, .int .i64 k, .int .i64 s] w fun e w' => e = .returned (.int .i64 (cfgB fl k n s)) ∧ Below w.heap.size w w' := by
  cases hq : logB fl k n
  · rw [cfg_no1 hq]
    go_enter Try.func19, Try.ntmps19
    go_wp2_with fail
    refine (specLogValid_is A n c fl k w B hA hB hl hn hq).mono ?_
    rintro e w1 ⟨rfl, hb1⟩
    go_wp2
    go_ret
    exact ⟨rfl, hb1⟩
  cases hs : inB s 0 (n + 1)
  · rw [cfg_no2 hs]
    go_enter Try.func19, Try.ntmps19
    go_wp2_with fail
    refine (specLogValid_is A n c fl k w B hA hB hl hn hq).mono ?_
    rintro e w1 ⟨rfl, hb1⟩
    have HS := Lib.hid hs
    clear hs
    go_wp2_with fail
    refine (l6In_to s 0 _ _ false (by omega) HS.out _).mono ?_
    rintro e w' ⟨rfl, rfl⟩
    go_wp2
    go_ret
    exact ⟨rfl, hb1⟩
  · rw [cfg_yes hq hs]
    obtain ⟨s0, s1⟩ := inB_iff.1 hs
    go_enter Try.func19, Try.ntmps19
    go_wp2_with fail
    refine (specLogValid_is A n c fl k w B hA hB hl hn hq).mono ?_
    rintro e w1 ⟨rfl, hb1⟩
    have HS := Lib.hid hs
    clear hs
    have hz := hb1.size
    go_wp2_with fail
    refine (l6In_to s 0 _ _ true (by omega) HS.out _).mono ?_
    rintro e w' ⟨rfl, rfl⟩
    go_wp2_with fail
    refine (l31Config_any A n c fl k _ B (hA.keep fun p hp => hb1.cell (Nat.lt_of_lt_of_le hp hB)) (by omega) hl hn s s0 s1).mono ?_
    rintro e w' ⟨rfl, rfl⟩
    go_wp2
    go_ret
    exact ⟨rfl, hb1⟩

theorem implLogConfig_any (A : Option Addr) (n c : Nat) (fl : List Int) (k : Int) (w : World) (B : Nat) (hA : Row w B A (fl.map (Value.int .i64))) (hB : B ≤ w.heap.size) (hl : fl.length = n * 2) (hn : n ≤ 1048576) (s : Int) : Calls Try.prog 18 #[.slice A n c, .int .i64 k, .int .i64 s] w fun e w' => e = .returned (.int .i64 (cfgB fl k n s)) ∧ Below w.heap.size w w' := by
  have HC := Lib.hid (chain_any A n c fl k w (hA.more hB) hl hn)
  clear hA hl hB
  obtain ⟨q, hq⟩ : ∃ q, logB fl k n = q := ⟨_, rfl⟩
  have HQ := Lib.hid hq
  clear hq
  cases q
  · rw [cfg_no1 HQ.out]
    go_enter Try.func18, Try.ntmps18
    go_wp2_with fail
    refine HC.out.mono ?_
    rintro e w1 ⟨bs, b, hb, rfl, -, hB⟩
    rw [HQ.out] at hb
    subst hb
    go_wp2
    go_ret
    exact ⟨rfl, hB⟩
  · have hk := (log_iff HQ.out).2.2.1
    by_cases s0 : s < 0
    · rw [cfg_no2 (inB_false (.inl s0))]
      go_enter Try.func18, Try.ntmps18
      go_wp2_with fail
      refine HC.out.mono ?_
      rintro e w1 ⟨bs, b, hb, rfl, -, hB⟩
      rw [HQ.out] at hb
      subst hb
      go_wp2
      go_ret
      exact ⟨rfl, hB⟩
    by_cases s1 : (n : Int) + 1 < s
    · rw [cfg_no2 (inB_false (.inr s1))]
      go_enter Try.func18, Try.ntmps18
      go_wp2_with fail
      refine HC.out.mono ?_
      rintro e w1 ⟨bs, b, hb, rfl, -, hB⟩
      rw [HQ.out] at hb
      subst hb
      go_wp2
      go_ret
      exact ⟨rfl, hB⟩
    · rw [cfg_yes HQ.out (inB_true (by omega) (by omega))]
      go_enter Try.func18, Try.ntmps18
      go_wp2_with fail
      refine HC.out.mono ?_
      rintro e w1 ⟨bs, b, hb, rfl, hbc, hB⟩
      rw [HQ.out] at hb
      subst hb
      have hx := hbc rfl
      have HX := Lib.hid hx
      clear hx hbc
      go_wp2_with fail
      refine (config_any _ bs fl n s _ HX.out.2 HX.out.1 (log_pos HQ.out) (by omega) (by omega) hk).mono ?_
      rintro e w' ⟨rfl, rfl⟩
      go_wp2
      go_ret
      exact ⟨rfl, hB⟩

theorem exactLogValid_walk (A : Option Addr) (n c : Nat) (fl : List Int) (k : Int) (w : World) (h : Flat 2 w A n c fl) (_wk : (Lit.int .i64 k).wf = true) : Calls Try.prog 3 #[.slice A n c, .int .i64 k] w fun e w' => e = .returned (.bool true) ∧ Below w.heap.size w w' := by
  have hcap := h.cap
  have hmx := h.max
  unfold maxLen at hmx
  by_cases hl : 1048576 < n
  · have HZ := Lib.hid (show (if n ≤ 1048576 then 1048576 - (n : Int) else -1) = -1 from if_neg (by omega))
    go_enter Try.func3, Try.ntmps3
    go_wp2_with fail
    refine (szLogEntryS_any A n c _ (by omega)).mono ?_
    rintro e w' ⟨rfl, rfl⟩
    rw [HZ.out]
    go_wp2
    go_ret
    exact ⟨rfl, Below.refl _ _⟩
  have hn : n ≤ 1048576 := by omega
  have HZ := Lib.hid (show (if n ≤ 1048576 then 1048576 - (n : Int) else -1) = 1048576 - (n : Int) from if_pos hn)
  go_enter Try.func3, Try.ntmps3
  go_wp2_with fail
  refine (szLogEntryS_any A n c _ (by omega)).mono ?_
  rintro e w0 ⟨rfl, rfl⟩
  rw [HZ.out]
  go_wp2_with fail
  refine (toLogEntryS_any A n c fl _ h hn).mono ?_
  rintro e w1 ⟨rfl, L1, hb1⟩
  have lt1 := blk_lt L1
  have L1h := Lib.hid L1
  clear L1
  have h1 := h.below hb1
  go_wp2_with fail
  refine (specLogValid_any _ n n fl k _ _ (blk_row L1h.out lt1) (Nat.le_refl _) h.len hn).mono ?_
  rintro e w2 ⟨rfl, hb2⟩
  have hz2 := hb2.size
  have h2 := h1.below hb2
  have hbb2 : Below w0.heap.size w0 w2 := hb1.trans (hb2.mono (by omega))
  clear L1h lt1 h1 hb1 hb2
  go_wp2_with fail
  refine (toLogEntryS_any A n c fl _ h2 hn).mono ?_
  rintro e w3 ⟨rfl, L3, hb3⟩
  have lt3 := blk_lt L3
  have L3h := Lib.hid L3
  clear L3
  have h3 := h2.below hb3
  go_wp2_with fail
  refine (implLogValid_any _ n n fl k _ _ (blk_row L3h.out lt3) (Nat.le_refl _) h.len hn).mono ?_
  rintro e w4 ⟨rfl, hb4⟩
  have hz4 := hb4.size
  have h4 := h3.below hb4
  have L4h := Lib.hid (blk_below L3h.out hb4 lt3)
  clear L3h h3
  go_wp2_with fail
  refine (toLogEntryS_any A n c fl _ h4 hn).mono ?_
  rintro e w5 ⟨rfl, L5, hb5⟩
  have lt5 := blk_lt L5
  have L5h := Lib.hid L5
  have L45 := Lib.hid (blk_below L4h.out hb5 (by omega))
  clear L5
  have hz5 := hb5.size
  go_wp2_with fail
  refine (eqLogEntryS_same _ _ n n n fl _ (blk_row L45.out (by omega)) (blk_row L5h.out lt5) h.len hn).mono ?_
  rintro e w6 ⟨rfl, hb6⟩
  have hz0 := hbb2.size
  have hz3 := hb3.size
  have hbf : Below w0.heap.size w0 w6 := (((hbb2.trans (hb3.mono hz0)).trans (hb4.mono (by omega))).trans (hb5.mono (by omega))).trans (hb6.mono (by omega))
  go_wp2
  go_ret
  exact ⟨rfl, hbf⟩

theorem exactLogConfig_walk (A : Option Addr) (n c : Nat) (fl : List Int) (k : Int) (s : Int) (w : World) (h : Flat 2 w A n c fl) (_wk : (Lit.int .i64 k).wf = true) (_ws : (Lit.int .i64 s).wf = true) : Calls Try.prog 8 #[.slice A n c, .int .i64 k, .int .i64 s] w fun e w' => e = .returned (.bool true) ∧ Below w.heap.size w w' := by
  have hcap := h.cap
  have hmx := h.max
  unfold maxLen at hmx
  by_cases hl : 1048576 < n
  · have HZ := Lib.hid (show (if n ≤ 1048576 then 1048576 - (n : Int) else -1) = -1 from if_neg (by omega))
    go_enter Try.func8, Try.ntmps8
    go_wp2_with fail
    refine (szLogEntryS_any A n c _ (by omega)).mono ?_
    rintro e w' ⟨rfl, rfl⟩
    rw [HZ.out]
    go_wp2
    go_ret
    exact ⟨rfl, Below.refl _ _⟩
  have hn : n ≤ 1048576 := by omega
  have HZ := Lib.hid (show (if n ≤ 1048576 then 1048576 - (n : Int) else -1) = 1048576 - (n : Int) from if_pos hn)
  go_enter Try.func8, Try.ntmps8
  go_wp2_with fail
  refine (szLogEntryS_any A n c _ (by omega)).mono ?_
  rintro e w0 ⟨rfl, rfl⟩
  rw [HZ.out]
  go_wp2_with fail
  refine (toLogEntryS_any A n c fl _ h hn).mono ?_
  rintro e w1 ⟨rfl, L1, hb1⟩
  have lt1 := blk_lt L1
  have L1h := Lib.hid L1
  clear L1
  have h1 := h.below hb1
  go_wp2_with fail
  refine (specLogConfig_any _ n n fl k _ _ (blk_row L1h.out lt1) (Nat.le_refl _) h.len hn s).mono ?_
  rintro e w2 ⟨rfl, hb2⟩
  have hz2 := hb2.size
  have h2 := h1.below hb2
  have hbb2 : Below w0.heap.size w0 w2 := hb1.trans (hb2.mono (by omega))
  clear L1h lt1 h1 hb1 hb2
  go_wp2_with fail
  refine (toLogEntryS_any A n c fl _ h2 hn).mono ?_
  rintro e w3 ⟨rfl, L3, hb3⟩
  have lt3 := blk_lt L3
  have L3h := Lib.hid L3
  clear L3
  have h3 := h2.below hb3
  go_wp2_with fail
  refine (implLogConfig_any _ n n fl k _ _ (blk_row L3h.out lt3) (Nat.le_refl _) h.len hn s).mono ?_
  rintro e w4 ⟨rfl, hb4⟩
  have hz4 := hb4.size
  have h4 := h3.below hb4
  have L4h := Lib.hid (blk_below L3h.out hb4 lt3)
  clear L3h h3
  go_wp2_with fail
  refine (toLogEntryS_any A n c fl _ h4 hn).mono ?_
  rintro e w5 ⟨rfl, L5, hb5⟩
  have lt5 := blk_lt L5
  have L5h := Lib.hid L5
  have L45 := Lib.hid (blk_below L4h.out hb5 (by omega))
  clear L5
  have hz5 := hb5.size
  go_wp2_with fail
  refine (eqLogEntryS_same _ _ n n n fl _ (blk_row L45.out (by omega)) (blk_row L5h.out lt5) h.len hn).mono ?_
  rintro e w6 ⟨rfl, hb6⟩
  have hz0 := hbb2.size
  have hz3 := hb3.size
  have hbf : Below w0.heap.size w0 w6 := (((hbb2.trans (hb3.mono hz0)).trans (hb4.mono (by omega))).trans (hb5.mono (by omega))).trans (hb6.mono (by omega))
  go_wp2
  go_ret
  exact ⟨rfl, hbf⟩
end Go.Proofs.Ytijilikkdnpbmaa
