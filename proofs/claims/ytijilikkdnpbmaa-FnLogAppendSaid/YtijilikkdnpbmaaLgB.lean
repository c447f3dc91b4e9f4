/- The law FnLogAppend: its walk. -/
import Derived.Test.YtijilikkdnpbmaaLog9
import Derived.Test.YtijilikkdnpbmaaLogS
import Derived.Deep.DrawnRows
namespace Go.Proofs.Ytijilikkdnpbmaa
open Go.RowKit
set_option maxHeartbeats 4000000
set_option linter.unusedVariables false
attribute [local go_sem ↓] Go.wp_at_zero Go.wp_at_succ

theorem log_snoc_yes {fl : List Int} {m : Nat} {k x y : Int} (hl : fl.length = m * 2) (h : logB fl k m = true) (h12 : m < 12) (hb : entB x y k = true) : logB (fl ++ [x, y]) k (m + 1) = true := by
  obtain ⟨h1, h2, _, h4⟩ := log_iff h
  unfold logB
  rw [ent_snoc hl, hb, h4, inB_true h1 h2]
  simp
  omega
theorem ap_yes {fl : List Int} {k x y : Int} {n : Nat} (h : apOk fl k n x y = true) : logB fl k n = true ∧ entB x y k = true ∧ n < 12 ∧ apN fl k n x y = n + 1 ∧ apF fl k n x y = fl ++ [x, y] := by
  unfold apOk at h
  simp only [Bool.and_eq_true, decide_eq_true_eq] at h
  obtain ⟨⟨h1, h2⟩, h3⟩ := h
  exact ⟨h1, h2, h3, by simp [apN, h1, h2, h3], by simp [apF, h1, h2, h3]⟩
theorem ap_no {fl : List Int} {k x y : Int} {n : Nat} (h : apOk fl k n x y = false) : apN fl k n x y = 0 ∨ n = 12 := by
  by_cases h12 : n < 12
  · left
    have : (logB fl k n && entB x y k) = false := by
      unfold apOk at h
      rw [decide_eq_true h12, Bool.and_true] at h
      exact h
    simp only [apN, this]
    rfl
  · cases hq : logB fl k n
    · left
      simp [apN, hq]
    · right
      have := (log_iff hq).2.2.1
      omega
theorem ap_le {fl : List Int} {k x y : Int} {n : Nat} : apN fl k n x y ≤ n + 1 := by
  unfold apN
  split
  · split <;> omega
  · omega
theorem ap_len {fl : List Int} {k x y : Int} {n : Nat} (hl : fl.length = n * 2) : (apF fl k n x y).length = apN fl k n x y * 2 := by
  unfold apF apN
  split
  · split
    · simp [hl]; omega
    · exact hl
  · rfl
theorem implAppend_is {b : Bool} {N : Nat} {L : List Int} (A : Option Addr) (n c : Nat) (fl : List Int) (k x y : Int) (w : World) (B : Nat) (hA : Row w B A (fl.map (Value.int .i64))) (hB : B ≤ w.heap.size) (hl : fl.length = n * 2) (hn : n ≤ 1048576) (hAn : A = none → n = 0) (h1 : apOk fl k n x y = b) (h2 : apN fl k n x y = N) (h3 : apF fl k n x y = L) : Calls Try.prog 26 #[.slice A n c, .int .i64 k, .agg #[.int .i64 x, .int .i64 y]] w fun e w' => ∃ B2 c2, e = .returned (.tuple #[.slice B2 N c2, .bool b]) ∧ DLog w' B2 N c2 L ∧ Below w.heap.size w w' :=
  (implAppend_any A n c fl k x y w B hA hB hl hn hAn).mono fun e w' ⟨v, b', m', l', e1, e2, e3, he, ho, hb⟩ => by
    rw [h1] at e1; rw [h2] at e2; rw [h3] at e3
    subst e1 e2 e3
    obtain ⟨A5, c5, rfl, _, _, hA5⟩ := ownr_form ho
    exact ⟨A5, c5, he, ownr_dlog ho hA5, hb⟩
theorem specAppend_is {b : Bool} {N : Nat} {L : List Int} (A : Option Addr) (n c : Nat) (fl : List Int) (k x y : Int) (w : World) (B : Nat) (hA : Row w B A (fl.map (Value.int .i64))) (hB : B ≤ w.heap.size) (hl : fl.length = n * 2) (hn : n ≤ 1048576) (hAn : A = none → n = 0) (h1 : apOk fl k n x y = b) (h2 : apN fl k n x y = N) (h3 : apF fl k n x y = L) : Calls Try.prog 25 #[.slice A n c, .int .i64 k, .agg #[.int .i64 x, .int .i64 y]] w fun e w' => ∃ B2 c2, e = .returned (.tuple #[.slice B2 N c2, .bool b]) ∧ DLog w' B2 N c2 L ∧ Below w.heap.size w w' :=
  (specAppend_any A n c fl k x y w B hA hB hl hn hAn).mono fun e w' ⟨v, b', m', l', e1, e2, e3, he, ho, hb⟩ => by
    rw [h1] at e1; rw [h2] at e2; rw [h3] at e3
    subst e1 e2 e3
    obtain ⟨A5, c5, rfl, _, _, hA5⟩ := ownr_form ho
    exact ⟨A5, c5, he, ownr_dlog ho hA5, hb⟩

theorem logAppend_walk (A : Option Addr) (na ca : Nat) (zs0 : List Int) (w : World) (h : Ints .u8 w A na ca zs0) : Calls Try.prog 10 #[.slice A na ca] w fun e w' => e = .returned (.bool true) ∧ Below w.heap.size w w' := by
  have hmx := h.max
  unfold maxLen at hmx
  by_cases hl : 1048576 < na
  · go_enter Try.func10, Try.ntmps10
    go_wp2
    go_ret
    exact ⟨rfl, Below.refl _ _⟩
  go_enter Try.func10, Try.ntmps10
  go_wp2_with fail
  refine (drawLogAppend_any A na ca zs0 _ h).mono ?_
  rintro e wd ⟨B, m, cc, fl, k, x, y, rfl, hD, ⟨hm, hk0, hk6, hx0, hx1, hy0, hy1⟩, hbd⟩
  have hbz := hbd.size
  have hDm := hD.max
  have hDc := hD.cap
  have HD := Lib.hid hD
  clear hD
  obtain ⟨q, hq⟩ : ∃ q, apOk fl k m x y = q := ⟨_, rfl⟩
  obtain ⟨N, hN⟩ : ∃ N, apN fl k m x y = N := ⟨_, rfl⟩
  obtain ⟨L, hL⟩ : ∃ L, apF fl k m x y = L := ⟨_, rfl⟩
  have hNl : N ≤ m + 1 := by rw [← hN]; exact ap_le
  have HQ := Lib.hid hq
  have HN := Lib.hid hN
  have HL := Lib.hid hL
  have HLL := Lib.hid (show L.length = N * 2 by rw [← HL.out, ← HN.out]; exact ap_len HD.out.len)
  clear hq hN hL
  go_wp2_with fail
  refine (specAppend_is B m cc fl k x y _ _ (HD.out.row.alloc (Nat.le_refl _) _) (by simp) HD.out.len (by omega) HD.out.nil HQ.out HN.out HL.out).mono ?_
  rintro e wa ⟨Bs, cs, rfl, hDs, hba⟩
  have hza := hba.size
  simp at hza
  have hEa := (hba.block wd.heap.size (by simp)).trans (heap_alloc_new wd _)
  have R1 := Lib.hid ((HD.out.row.alloc (Nat.le_refl _) _).below (hba.mono (by simp)))
  have hbwa := (hbd.alloc hbz (.cells #[.int .i64 x, .int .i64 y] 33)).trans (hba.mono (by simp; omega))
  have r0 : wa.cell? ⟨wd.heap.size, 0, none⟩ = some (.int .i64 x) := by simp [World.cell?, hEa]
  have r1 : wa.cell? ⟨wd.heap.size, 1, none⟩ = some (.int .i64 y) := by simp [World.cell?, hEa]
  have hcs := hDs.cap
  have hms := hDs.max
  have HDs := Lib.hid hDs
  clear hbd hba hDs hEa
  go_wp2_with fail
  refine (implAppend_is B m cc fl k x y _ _ R1.out (by omega) HD.out.len (by omega) HD.out.nil HQ.out HN.out HL.out).mono ?_
  rintro e wb ⟨Bi, ci, rfl, hDi, hbb⟩
  have hzb := hbb.size
  have R2 := Lib.hid (R1.out.keep fun p hp => hbb.cell (Nat.lt_of_lt_of_le hp (by omega)))
  have RS := Lib.hid (HDs.out.row.below hbb)
  have hbwb := hbwa.trans (hbb.mono (by omega))
  have s0 := (hbb.cell (p := ⟨wd.heap.size, 0, none⟩) (by show wd.heap.size < _; omega)).trans r0
  have s1 := (hbb.cell (p := ⟨wd.heap.size, 1, none⟩) (by show wd.heap.size < _; omega)).trans r1
  have hci := hDi.cap
  have hmi := hDi.max
  have HDi := Lib.hid hDi
  clear hbwa hbb R1 r0 r1 hDi
  go_wp2_with fail
  refine (sameLog_same Bi Bs N ci cs L wb _ _ HDi.out.row RS.out HLL.out (by omega)).mono ?_
  rintro e wc ⟨rfl, z, hz⟩
  have hbc : Below wb.heap.size wb wc := by rw [hz]; exact below_drewN (Below.refl _ _) z
  have hzc := hbc.size
  have t0 := (hbc.cell (p := ⟨wd.heap.size, 0, none⟩) (by show wd.heap.size < _; omega)).trans s0
  have t1 := (hbc.cell (p := ⟨wd.heap.size, 1, none⟩) (by show wd.heap.size < _; omega)).trans s1
  have R3 := Lib.hid (R2.out.keep (w' := wc) fun p hp => hbc.cell (Nat.lt_of_lt_of_le hp (by omega)))
  have RI := Lib.hid (HDi.out.row.below hbc)
  have RS3 := Lib.hid (RS.out.keep (w' := wc) fun p hp => hbc.cell (Nat.lt_of_lt_of_le hp (by omega)))
  have hbwc := hbwb.trans (hbc.mono (by omega))
  clear hz hbc s0 s1 hbwb
  cases q
  · have hno := ap_no HQ.out
    rw [HN.out] at hno
    go_wp2_with fail
    refine (sameLog_same Bi Bs N ci cs L wc _ _ RI.out RS3.out HLL.out (by omega)).mono ?_
    rintro e we ⟨rfl, z, rfl⟩
    rcases hno with rfl | hm12
    · go_wp2
      go_ret
      exact ⟨by first | rfl | (apply ret_bool; simp), below_drewN hbwc _⟩
    · have i1 : ((m : Int) == 12) = true := by simp; omega
      by_cases h0 : N = 0
      · subst h0
        go_wp2
        go_ret
        exact ⟨by first | rfl | (apply ret_bool; simp), below_drewN hbwc _⟩
      · have i2 : ((N : Int) == 0) = false := by simp; omega
        go_wp2
        go_ret
        exact ⟨by first | rfl | (apply ret_bool; simp; omega), below_drewN hbwc _⟩
  · obtain ⟨a1, a2, a3, a4, a5⟩ := ap_yes HQ.out
    rw [HN.out] at a4
    rw [HL.out] at a5
    subst a5
    have HLV := Lib.hid (show logB (fl ++ [x, y]) k N = true by rw [a4]; exact log_snoc_yes HD.out.len a1 a3 a2)
    have hNm : N = m + 1 := a4
    clear a4
    obtain ⟨bi, offi, rfl, hbi, u0, u1⟩ := row_src RI.out HLL.out m (by omega)
    have hsn := getD_snoc HD.out.len x y
    rw [hsn.1] at u0
    rw [hsn.2] at u1
    have RT := Lib.hid (show Row wc wb.heap.size (some ⟨bi, offi, none⟩) (fl.map (Value.int .i64)) by
      have := RI.out.take (m * 2)
      rw [← List.map_take, List.take_append_of_le_length (Nat.le_of_eq HD.out.len.symm), List.take_of_length_le (Nat.le_of_eq HD.out.len)] at this
      exact this)
    have i1 : (m : Int) < (N : Int) := by omega
    have i2 : (0 : Int) ≤ (m : Int) := by omega
    have i4 : ((N : Int) == (m : Int) + 1) = true := by simp; omega
    have i5 : ((N : Int) == IntKind.i64.wrap ((m : Int) + 1)) = true := by rw [IntWalk.i64_in _ (by omega)]; exact i4
    have i3 : (m : Int) ≤ (ci : Int) := by omega
    have q0 : (x == x) = true := by simp
    have q1 : (y == y) = true := by simp
    have hN2 : N ≤ 1048576 := by omega
    have hNge : m + 1 ≤ N := by omega
    clear a1 a2 hsn hNm
    go_wp2
    go_region_held3 (fun w' => w'.cell? ⟨bi, offi + m * 2, none⟩ = some (.int .i64 x) ∧ w'.cell? ⟨bi, offi + m * 2 + 1, none⟩ = some (.int .i64 y) ∧ w'.cell? ⟨wd.heap.size, 0, none⟩ = some (.int .i64 x) ∧ w'.cell? ⟨wd.heap.size, 1, none⟩ = some (.int .i64 y)) (first | exact ⟨u0, u1, t0, t1⟩ | assumption | (have hh := ‹_ ∧ _ ∧ _ ∧ _›; exact ⟨(hbk.cell (p := ⟨bi, offi + m * 2, none⟩) (by show bi < _; omega)).trans hh.1, (hbk.cell (p := ⟨bi, offi + m * 2 + 1, none⟩) (by show bi < _; omega)).trans hh.2.1, (hbk.cell (p := ⟨wd.heap.size, 0, none⟩) (by show wd.heap.size < _; omega)).trans hh.2.2.1, (hbk.cell (p := ⟨wd.heap.size, 1, none⟩) (by show wd.heap.size < _; omega)).trans hh.2.2.2⟩))
      (first
        | (go_at_call 27; refine (sameLog_same _ B m ci cc fl wc.drew _ _ RT.out R3.out HD.out.len (by omega)).mono ?_; rintro e w5 ⟨rfl, z5, hz5⟩; have hbk : Below wc.heap.size wc w5 := (by rw [hz5]; exact below_drewN (below_drewN (Below.refl _ _) 1) z5); have hk5 := hbk.size; clear hz5)
        | (go_at_call 14; refine (implLogValid_is _ N ci (fl ++ [x, y]) k _ wb.heap.size (RI.out.keep fun p hp => hbk.cell (Nat.lt_of_lt_of_le hp hzc)) (by omega) HLL.out (by omega) HLV.out).mono ?_; rintro e w6 ⟨rfl, hb6⟩; have hbk5 := hbk; have hbk := hb6))
    all_goals go_wp2
    all_goals go_ret
    all_goals exact ⟨rfl, (hbwc.trans (hbk5.mono (by omega))).trans (hb6.mono (by omega))⟩
end Go.Proofs.Ytijilikkdnpbmaa
