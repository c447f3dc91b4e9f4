/- ExprDepth: the reference's, the program's, the law FnExactExprDepth. -/
import Derived.Test.YtbokieephhffnaaEx8
namespace Go.Proofs.Ytbokieephhffnaa
open Go.RowKit
set_option maxHeartbeats 4000000

theorem pl_depth2 {s : ByteArray} {g : Nat → Option (Tr × Nat)} (hend : ∀ i t e, g i = some (t, e) → i < e ∧ e ≤ s.size) (hg : ∀ i t e, g i = some (t, e) → depthT t ≤ e - i) : ∀ f i ts e, pl s g f i = some (ts, e) → depthL ts ≤ e - i
  | 0, i, ts, e, h => by simp [pl] at h
  | f + 1, i, ts, e, h => by
    unfold pl at h
    cases hgi : g i with
    | none => simp [hgi] at h
    | some x =>
      obtain ⟨t, j⟩ := x
      have h1 := hg i t j hgi
      have h2 := hend i t j hgi
      simp only [hgi] at h
      by_cases h41 : bt s j = 41
      · rw [if_pos h41] at h
        simp only [Option.some.injEq, Prod.mk.injEq] at h
        obtain ⟨rfl, rfl⟩ := h
        simp [depthL]
        omega
      · rw [if_neg h41] at h
        by_cases h44 : bt s j = 44
        · rw [if_pos h44] at h
          cases hp : pl s g f (j + 1) with
          | none => simp [hp] at h
          | some y =>
            obtain ⟨ts', e'⟩ := y
            simp only [hp, Option.some.injEq, Prod.mk.injEq] at h
            obtain ⟨rfl, rfl⟩ := h
            have h3 := pl_depth2 hend hg f (j + 1) ts' e' hp
            have h4 := pl_end hend f (j + 1) ts' e' hp
            show max _ _ ≤ _
            omega
        · rw [if_neg h44] at h
          cases h
theorem pe_depth2 {s : ByteArray} : ∀ f i t e, pe s f i = some (t, e) → depthT t ≤ e - i
  | 0, i, t, e, h => by simp [pe] at h
  | f + 1, i, t, e, h => by
    unfold pe at h
    by_cases hd : isD (bt s i) = true
    · rw [if_pos hd] at h
      by_cases h40 : bt s (i + 1) = 40
      · rw [if_pos h40] at h
        cases hp : pl s (pe s f) f (i + 2) with
        | none => simp [hp] at h
        | some y =>
          obtain ⟨ts', e'⟩ := y
          simp only [hp] at h
          have h3 := pl_depth2 (pe_end f) (pe_depth2 f) f (i + 2) ts' e' hp
          have h4 := pl_end (pe_end f) f (i + 2) ts' e' hp
          split at h
          · simp only [Option.some.injEq, Prod.mk.injEq] at h
            obtain ⟨rfl, rfl⟩ := h
            show depthL ts' + 1 ≤ _
            omega
          · cases h
      · rw [if_neg h40] at h
        simp only [Option.some.injEq, Prod.mk.injEq] at h
        obtain ⟨rfl, rfl⟩ := h
        exact Nat.zero_le _
    · rw [if_neg hd] at h
      cases h
theorem whole_depth {u : ByteArray} {t : Tr} (h : Whole u t) : depthT t ≤ u.size := by
  obtain ⟨f, hf⟩ := h
  have := pe_depth2 f 0 t _ hf
  omega
/-- The depth that the first k operands give. -/
def dK (ts : List Tr) (k : Nat) : Nat := if k = 0 then 0 else depthL (ts.take k) + 1
theorem dK_next {ts : List Tr} {k : Nat} {t : Tr} (h : ts[k]? = some t) : dK ts (k + 1) = max (dK ts k) (depthT t + 1) := by
  unfold dK
  rw [if_neg (by omega), take_snoc h, depthL_snoc]
  by_cases hk : k = 0
  · subst hk
    simp [depthL]
  · rw [if_neg hk]
    omega
theorem dK_all {n : Nat} {ts : List Tr} (h : 0 < ts.length) : dK ts ts.length = depthT (.gate n ts) := by
  unfold dK
  rw [if_neg (by omega), List.take_length]
  rfl

theorem l2Depth_any (m : Nat) : ∀ (u : ByteArray) (t : Tr) (W : World), u.size ≤ m → u.size ≤ 40 → Whole u t → Calls Try.prog 20 #[.string u] W fun e W' => e = .returned (.int .i64 (depthT t : Nat)) ∧ Below W.heap.size W W' := by
  induction m with
  | zero =>
    intro u t W hm hs hw
    obtain ⟨f, hf⟩ := hw
    have := pe_end _ _ _ _ hf
    omega
  | succ m IH =>
    intro u t W hm hs hw
    cases t with
    | leaf n =>
      have HC := Lib.hid (l2Parts_leaf u n hw W)
      clear hw
      go_enter Try.func20, Try.ntmps20
      go_wp2_with fail
      refine HC.out.mono ?_
      rintro e w1 ⟨v, rfl, ho, hb⟩
      have HB := Lib.hid hb
      obtain ⟨A, c, hv, _, _, _⟩ := owns_row ho
      subst hv
      clear hb ho
      go_wp2_with fail
      go_loop [3, 5] (fun d i => d = .int .i64 0 ∧ i = .int .i64 0) (fun _ _ => 0)
      case atStart => exact ⟨rfl, rfl⟩
      case round =>
        obtain ⟨rfl, rfl⟩ := hrel
        go_wp2
        go_ret
        exact ⟨rfl, HB.out⟩
    | gate n ts =>
      have hdep := whole_depth hw
      have HC := Lib.hid (l2Parts_gate u n ts hw hs W)
      have h0 : 0 < ts.length := by
        obtain ⟨f, _, hpl, _⟩ := gate_parts hw
        exact (pl_end (pe_end f) _ _ _ _ hpl).2.2
      have HA := Lib.hid (dK_all (n := n) h0)
      have HD := Lib.hid hdep
      clear hw h0 hdep
      go_enter Try.func20, Try.ntmps20
      go_wp2_with fail
      refine HC.out.mono ?_
      rintro e w1 ⟨v, ps, rfl, ho, hok, hb⟩
      have HK := Lib.hid hok
      obtain ⟨A, c, hv, hlc, hcm, hrow⟩ := owns_row ho
      unfold maxLen at hcm
      obtain ⟨L, hL⟩ : ∃ L, ps.length = L := ⟨_, rfl⟩
      rw [hL] at hv hlc
      have HL := Lib.hid hL
      have HI := Lib.hid (show Row w1 w1.heap.size A (ps.map Value.string) ∧ Below W.heap.size W w1 from ⟨hrow, hb⟩)
      subst hv
      clear hb ho hok hrow hL
      go_wp2_with fail
      go_loopw [3, 5] (fun d i wr => ∃ k : Nat, k ≤ L ∧ i = .int .i64 k ∧ d = .int .i64 (dK ts k : Nat) ∧ (Row wr wr.heap.size A (ps.map Value.string) ∧ Below W.heap.size W wr)) (fun _ i _ => L - (intOf i).toNat)
      case atStart => exact ⟨0, Nat.zero_le _, rfl, rfl, HI.out⟩
      case round =>
        obtain ⟨k, hk, rfl, rfl, hrow, hB⟩ := hrel
        have HR := Lib.hid hrow
        have HB := Lib.hid hB
        have hsz := hB.size
        clear hrow hB
        by_cases hkn : k < L
        · have i1 : (k : Int) < L := by omega
          have hkp : k < ps.length := by rw [HL.out]; exact hkn
          have hkt : k < ts.length := by rw [← HK.out.1]; exact hkp
          obtain ⟨hw, hsm⟩ := HK.out.2 k _ _ (List.getElem?_eq_getElem hkp) (List.getElem?_eq_getElem hkt)
          have hnx := dK_next (List.getElem?_eq_getElem hkt)
          obtain ⟨b, off, hA, hbl, hcell⟩ := HR.out.at_ (k := k) (u := .string ps[k]) (by simp [hkp])
          have hdt := whole_depth hw
          generalize ps[k] = p at hw hsm hcell hdt
          generalize ts[k] = t at hw hnx hdt
          have HN := Lib.hid hnx
          have HCk := Lib.hid (IH p t wr (by omega) (by omega) hw)
          subst hA
          clear hw hnx hkp hkt
          obtain ⟨D, hD⟩ : ∃ D, depthT t = D := ⟨_, rfl⟩
          rw [hD] at HN HCk hdt
          generalize dK ts k = q at HN ⊢
          go_wp2_with (go_at_call 20; refine HCk.out.mono ?_; rintro e w2 ⟨rfl, hb2⟩; have HB2 := Lib.hid hb2; clear hb2)
          go_roundw
          case rel => exact ⟨k + 1, by omega, by go_num, by rw [HN.out]; congr 1; first | omega | (split <;> omega), ((HR.out.below HB2.out).more HB2.out.size), HB.out.trans (HB2.out.mono hsz)⟩
          case measure => simp [intOf]; omega
        · obtain rfl : k = L := by omega
          have HF := Lib.hid (show dK ts k = depthT (.gate n ts) by rw [← HA.out, ← HK.out.1, HL.out])
          generalize dK ts k = q at HF ⊢
          go_wp2
          go_ret
          exact ⟨ret_i (by rw [HF.out]), HB.out⟩

theorem specDepth_no (s : ByteArray) (hs : s.size ≤ 1048576) (h : exOk s = false) (w : World) : Calls Try.prog 11 #[.string s] w fun e w' => e = .returned (.int .i64 (-1)) ∧ Below w.heap.size w w' := by
  have hc := specExprValid_any s hs w
  rw [h] at hc
  have HC := Lib.hid hc
  clear hc h
  go_enter Try.func11, Try.ntmps11
  go_wp2_with (go_at_call 9; refine HC.out.mono ?_; rintro e w' ⟨rfl, rfl⟩)
  go_ret
  exact ⟨rfl, Below.refl _ _⟩
theorem specDepth_yes (s : ByteArray) (t : Tr) (hs : s.size ≤ 1048576) (h : exOk s = true) (ht : tree s = some (t, s.size)) (w : World) : Calls Try.prog 11 #[.string s] w fun e w' => e = .returned (.int .i64 (depthT t : Nat)) ∧ Below w.heap.size w w' := by
  have hc := specExprValid_any s hs w
  rw [h] at hc
  have HC := Lib.hid hc
  have HD := Lib.hid (l2Depth_any s.size s t w (Nat.le_refl _) (exOk_tree h).1 ⟨_, ht⟩)
  clear hc h ht
  go_enter Try.func11, Try.ntmps11
  go_wp2_with (first | (go_at_call 9; refine HC.out.mono ?_; rintro e w' ⟨rfl, rfl⟩) | (go_at_call 20; refine HD.out.mono ?_; rintro e w' ⟨rfl, hb⟩; have HB := Lib.hid hb; clear hb))
  go_ret
  exact ⟨rfl, HB.out⟩
theorem implDepth_no (s : ByteArray) (hs : s.size ≤ 1048576) (h : exOk s = false) (w : World) : Calls Try.prog 12 #[.string s] w fun e w' => e = .returned (.int .i64 (-1)) ∧ Below w.heap.size w w' := by
  have HC := Lib.hid (parse_any s hs w)
  have H0 := Lib.hid h
  clear h
  go_enter Try.func12, Try.ntmps12
  go_wp2_with fail
  refine HC.out.mono ?_
  rintro e w1 ⟨hb, ⟨h0, rfl⟩ | ⟨h1, v, t, -, rfl, ht⟩⟩
  · have HB := Lib.hid hb
    clear hb h0
    go_wp2_with fail
    go_ret
    exact ⟨rfl, HB.out⟩
  · rw [H0.out] at h1
    cases h1
theorem implDepth_yes (s : ByteArray) (t : Tr) (hs : s.size ≤ 1048576) (h : exOk s = true) (ht : tree s = some (t, s.size)) (w : World) : Calls Try.prog 12 #[.string s] w fun e w' => e = .returned (.int .i64 (depthT t : Nat)) ∧ Below w.heap.size w w' := by
  have HC := Lib.hid (parse_any s hs w)
  have H1 := Lib.hid h
  have HT := Lib.hid ht
  have h40 := (exOk_tree h).1
  have hdep : depthT t ≤ s.size := whole_depth ⟨_, ht⟩
  clear h ht
  go_enter Try.func12, Try.ntmps12
  go_wp2_with fail
  refine HC.out.mono ?_
  rintro e w1 ⟨hb, ⟨h0, rfl⟩ | ⟨h1, v, t', ht', rfl, hi⟩⟩
  · rw [H1.out] at h0
    cases h0
  · have HB := Lib.hid hb
    rw [HT.out] at ht'
    simp only [Option.some.injEq, Prod.mk.injEq, and_true] at ht'
    subst ht'
    have HD := Lib.hid (implDepth_any hi (by omega))
    obtain ⟨T, b, rfl⟩ := hi.iface
    clear hb h1 hi
    go_wp2_with (go_at_call 21; refine HD.out.mono ?_; rintro e w' ⟨rfl, rfl⟩)
    go_ret
    exact ⟨rfl, HB.out⟩

/-- Both depths are this number. -/
theorem depth_both (s : ByteArray) (hs : s.size ≤ 1048576) : ∃ r : Int, (∀ w, Calls Try.prog 11 #[.string s] w fun e w' => e = .returned (.int .i64 r) ∧ Below w.heap.size w w') ∧ (∀ w, Calls Try.prog 12 #[.string s] w fun e w' => e = .returned (.int .i64 r) ∧ Below w.heap.size w w') := by
  cases h : exOk s
  · exact ⟨-1, specDepth_no s hs h, implDepth_no s hs h⟩
  · obtain ⟨_, t, ht⟩ := exOk_tree h
    exact ⟨(depthT t : Nat), specDepth_yes s t hs h ht, implDepth_yes s t hs h ht⟩

theorem exactExprDepth_walk (s : ByteArray) (h : s.size ≤ maxLen) (w : World) : Calls Try.prog 4 #[.string s] w fun e w' => e = .returned (.bool true) ∧ Below w.heap.size w w' := by
  unfold maxLen at h
  by_cases hl : 1048576 < s.size
  · have hl2 : (1048576 : Int) < s.size := by omega
    go_enter Try.func4, Try.ntmps4
    go_wp2
    go_ret
    exact ⟨rfl, Below.refl _ _⟩
  have hs : s.size ≤ 1048576 := by omega
  have hl2 : ¬ (1048576 : Int) < s.size := by omega
  obtain ⟨r, h1, h2⟩ := depth_both s hs
  have H1 := Lib.hid h1
  have H2 := Lib.hid h2
  clear h1 h2
  go_enter Try.func4, Try.ntmps4
  go_wp2_with fail
  refine (H1.out w).mono ?_
  rintro e w1 ⟨rfl, hb1⟩
  go_wp2_with fail
  refine (H2.out w1).mono ?_
  rintro e w2 ⟨rfl, hb2⟩
  have HB := Lib.hid (hb1.trans (hb2.mono hb1.size))
  clear hb1 hb2
  go_wp2_with fail
  go_ret
  exact ⟨rfl, HB.out⟩
end Go.Proofs.Ytbokieephhffnaa
