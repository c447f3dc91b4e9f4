/- LogValues, the reference's and the program's. -/
import Derived.Test.YtijilikkdnpbmaaLog7
namespace Go.Proofs.Ytijilikkdnpbmaa
open Go.RowKit
set_option maxHeartbeats 4000000
set_option linter.unusedVariables false

/-- The commands among the first k entries. -/
def valsTo (fl : List Int) : Nat → List Int
  | 0 => []
  | k + 1 => valsTo fl k ++ (if fC fl k = 0 then [fV fl k] else [])
theorem vals_len (fl : List Int) : ∀ k, (valsTo fl k).length ≤ k
  | 0 => Nat.le_refl 0
  | k + 1 => by
    have := vals_len fl k
    simp only [valsTo, List.length_append]
    split <;> simp <;> omega
theorem vals_pre (fl : List Int) {i : Nat} : ∀ n, i ≤ n → ∃ r, valsTo fl n = valsTo fl i ++ r
  | 0, h => by
    obtain rfl : i = 0 := by omega
    exact ⟨[], rfl⟩
  | n + 1, h => by
    by_cases e : i = n + 1
    · subst e; exact ⟨[], by simp⟩
    · obtain ⟨r, hr⟩ := vals_pre fl (i := i) n (by omega)
      exact ⟨r ++ (if fC fl n = 0 then [fV fl n] else []), by simp only [valsTo, hr, List.append_assoc]⟩
theorem vals_at (fl : List Int) {i n : Nat} (h : i < n) (hc : fC fl i = 0) : (valsTo fl i).length < (valsTo fl n).length ∧ (valsTo fl n).getD (valsTo fl i).length 0 = fV fl i ∧ (valsTo fl (i + 1)).length = (valsTo fl i).length + 1 := by
  have e1 : valsTo fl (i + 1) = valsTo fl i ++ [fV fl i] := by simp only [valsTo, hc, if_true]
  obtain ⟨r, hr⟩ := vals_pre fl (i := i + 1) n h
  rw [hr, e1]
  refine ⟨by simp <;> omega, ?_, by simp⟩
  simp
def lvB (fl : List Int) (k : Int) (n : Nat) : List Int := if logB fl k n then valsTo fl n else []
theorem own_nil (w : World) (B : Nat) : OwnI w B (.slice none 0 0) [] := World.ownsRow_nil w B 3 1
theorem own_empty {B : Nat} (w : World) (hB : B ≤ w.heap.size) : OwnI (w.alloc (.cells #[] 3)) B (.slice (some ⟨w.heap.size, 0, none⟩) 0 0) [] := owns_empty w _ hB

theorem implLogValues_any (A : Option Addr) (n c : Nat) (fl : List Int) (k : Int) (w : World) (B : Nat) (hA : Row w B A (fl.map (Value.int .i64))) (hB : B ≤ w.heap.size) (hl : fl.length = n * 2) (hn : n ≤ 1048576) : Calls Try.prog 21 #[.slice A n c, .int .i64 k] w fun e w' => ∃ v, e = .returned v ∧ OwnI w' w.heap.size v (lvB fl k n) ∧ Below w.heap.size w w' := by
  have HC := Lib.hid (chain_any A n c fl k w (hA.more hB) hl hn)
  clear hA hl hB
  obtain ⟨q, hq⟩ : ∃ q, logB fl k n = q := ⟨_, rfl⟩
  have HQ := Lib.hid hq
  clear hq
  cases q
  · have HX := Lib.hid (show lvB fl k n = [] by simp [lvB, HQ.out])
    go_enter Try.func21, Try.ntmps21
    go_wp2_with fail
    refine HC.out.mono ?_
    rintro e w1 ⟨bs, b, hb, rfl, -, hB⟩
    rw [HQ.out] at hb
    subst hb
    go_wp2
    go_ret
    exact ⟨_, rfl, by rw [HX.out]; exact own_nil _ _, hB⟩
  · have HX := Lib.hid (show lvB fl k n = valsTo fl n by simp [lvB, HQ.out])
    go_enter Try.func21, Try.ntmps21
    go_wp2_with fail
    refine HC.out.mono ?_
    rintro e w1 ⟨bs, b, hb, rfl, hbc, hB⟩
    rw [HQ.out] at hb
    subst hb
    have hx := hbc rfl
    have HL := Lib.hid hx.1
    have HC1 := Lib.hid hx.2
    clear hx hbc
    have hz1 := hB.size
    have hn12 := (log_iff HQ.out).2.2.1
    go_wp2_with fail
    go_loopg [7, 8] (n + 1) (fun g u p wr => ∃ j : Nat, g = n + 1 - j ∧ j ≤ n ∧ p = .pointer (ptr bs j) ∧ OwnI wr w1.heap.size u (valsTo fl j) ∧ Below w1.heap.size w1 wr)
    case atStart => exact ⟨0, rfl, Nat.zero_le _, rfl, own_nil _ _, Below.refl _ _⟩
    case round =>
      obtain ⟨j, hg, hj, rfl, hown, hb1⟩ := hrel
      have HG := Lib.hid hg
      clear hg
      have hsz := hb1.size
      by_cases hjn : j < n
      · have hjb : j < bs.length := by rw [HL.out]; exact hjn
        obtain ⟨b, hb⟩ : ∃ b, bs[j]? = some b := ⟨bs[j], by simp [hjb]⟩
        have hp : ptr bs j = some ⟨b, 0, none⟩ := by unfold ptr; rw [hb]; rfl
        have hrec := (HC1.out.below hb1 (Nat.le_refl _)).rec_ j b hb
        unfold recO at hrec
        have c0 : wr.cell? ⟨b, 0, none⟩ = some (.int .i64 (fV fl j)) := by simp [World.cell?, hrec]
        have c3 : wr.cell? ⟨b, 3, none⟩ = some (.pointer (ptr bs (j + 1))) := by simp [World.cell?, hrec]
        have hbz := lt_heap (HC1.out.rec_ j b hb)
        rw [hp]
        clear hrec hp hb hjb
        have he := ent_iff.1 (ent_at hjn (log_iff HQ.out).2.2.2)
        have HN := Lib.hid (show valsTo fl (j + 1) = valsTo fl j ++ (if fC fl j = 0 then [fV fl j] else []) from rfl)
        have hln := vals_len fl j
        rcases (show (fV fl j ≠ 0 ∧ fC fl j = 0) ∨ (fV fl j = 0 ∧ fC fl j ≠ 0) by omega) with ⟨hv, hc⟩ | ⟨hv, hc⟩
        · have q1 : (fV fl j != 0) = true := by simpa using hv
          have HCC := Lib.hid hc
          clear hc he hv
          go_wp2_with (at_builtin; refine wpl_append_int rfl _ _ (by rfl) w1.heap.size _ _ _ (by rfl) hown (by rfl) (by omega) hsz ?_; intro v' w2 hown2 hb2 _ _; have c3' := (hb2.cell (p := ⟨b, 3, none⟩) hbz).trans c3)
          go_roundg (n + 1 - (j + 1))
          case measure => rw [HG.out]; omega
          case rel => exact ⟨j + 1, rfl, by omega, rfl, by rw [HN.out, if_pos HCC.out]; exact hown2, hb1.trans hb2⟩
        · have q1 : (fV fl j != 0) = false := by simp [hv]
          have HCC := Lib.hid hc
          have HO := Lib.hid hown
          clear hc he hv hown
          go_wp2
          go_roundg (n + 1 - (j + 1))
          case measure => rw [HG.out]; omega
          case rel => exact ⟨j + 1, rfl, by omega, rfl, by rw [HN.out, if_neg HCC.out, List.append_nil]; exact HO.out, hb1⟩
      · obtain rfl : j = n := by omega
        have hp : ptr bs j = none := ptr_none (by rw [HL.out]; omega)
        rw [hp]
        clear hp
        have HO := Lib.hid hown
        clear hown
        go_wp2
        go_ret
        exact ⟨_, rfl, by rw [HX.out]; exact owns_less HO.out (by omega), hB.trans (hb1.mono hz1)⟩

theorem specLogValues_any (A : Option Addr) (n c : Nat) (fl : List Int) (k : Int) (w : World) (B : Nat) (hA : Row w B A (fl.map (Value.int .i64))) (hB : B ≤ w.heap.size) (hl : fl.length = n * 2) (hn : n ≤ 1048576) : Calls Try.prog 23 #[.slice A n c, .int .i64 k] w fun e w' => ∃ v, e = .returned v ∧ OwnI w' w.heap.size v (lvB fl k n) ∧ Below w.heap.size w w' := by
  have HR := Lib.hid hA
  have HL := Lib.hid hl
  have hBw := hB
  clear hA hl hB
  obtain ⟨q, hq⟩ : ∃ q, logB fl k n = q := ⟨_, rfl⟩
  have HQ := Lib.hid hq
  clear hq
  go_enter Try.func23, Try.ntmps23
  go_wp2_with fail
  refine (specLogValid_is A n c fl k _ B (HR.out.alloc hBw _) (by simp; omega) HL.out hn HQ.out).mono ?_
  rintro e w1 ⟨rfl, hb1⟩
  have hown1 : OwnI w1 w.heap.size (.slice (some ⟨w.heap.size, 0, none⟩) 0 0) [] := owns_below (own_empty w (Nat.le_refl _)) hb1 (Nat.le_refl _)
  have hbw1 : Below w.heap.size w w1 := ((Below.refl _ _).alloc (Nat.le_refl _) _).trans (hb1.mono (by simp))
  have hz1 := hbw1.size
  have HS := Lib.hid (row_src (HR.out.keep (w' := w1) fun p hp => hbw1.cell (Nat.lt_of_lt_of_le hp hBw)) HL.out)
  clear hb1
  cases q
  · have HX := Lib.hid (show lvB fl k n = [] by simp [lvB, HQ.out])
    have HO := Lib.hid hown1
    clear hown1
    go_wp2
    go_ret
    exact ⟨_, rfl, by rw [HX.out]; exact HO.out, hbw1⟩
  · have HX := Lib.hid (show lvB fl k n = valsTo fl n by simp [lvB, HQ.out])
    have hn12 := (log_iff HQ.out).2.2.1
    go_wp2_with fail
    go_loopw [5, 6] (fun u i wr => ∃ j : Nat, j ≤ n ∧ i = .int .i64 j ∧ OwnI wr w.heap.size u (valsTo fl j) ∧ Below w.heap.size w1 wr) (fun _ i _ => n - (intOf i).toNat)
    case atStart => exact ⟨0, Nat.zero_le _, rfl, hown1, Below.refl _ _⟩
    case round =>
      obtain ⟨j, hj, rfl, hown, hb⟩ := hrel
      clear hown1
      have hsz := hb.size
      by_cases hjn : j < n
      · obtain ⟨b, off, rfl, hbb, d0, d1⟩ := HS.out j hjn
        have c0 := (hb.cell (p := ⟨b, off + j * 2, none⟩) (Nat.lt_of_lt_of_le hbb hBw)).trans d0
        have c1 := (hb.cell (p := ⟨b, off + j * 2 + 1, none⟩) (Nat.lt_of_lt_of_le hbb hBw)).trans d1
        clear d0 d1
        have HN := Lib.hid (show valsTo fl (j + 1) = valsTo fl j ++ (if fC fl j = 0 then [fV fl j] else []) from rfl)
        have hln := vals_len fl j
        have i1 : (j : Int) < n := by omega
        generalize fV fl j = v at c0 HN
        generalize fC fl j = cc at c1 HN
        by_cases hc : cc = 0
        · have q1 : (cc == 0) = true := by simpa using hc
          have HCC := Lib.hid hc
          clear hc
          go_wp2_with (at_builtin; refine wpl_append_int rfl _ _ (by rfl) w.heap.size _ _ _ (by rfl) hown (by rfl) (by omega) (by omega) ?_; intro v' w2 hown2 hb2 _ _)
          go_roundw
          case rel => exact ⟨j + 1, by omega, by go_num, by rw [HN.out, if_pos HCC.out]; exact hown2, hb.trans hb2⟩
          case measure => simp [intOf]; omega
        · have q1 : (cc == 0) = false := by simpa using hc
          have HO := Lib.hid hown
          clear hown
          go_wp2
          go_roundw
          case rel => exact ⟨j + 1, by omega, by go_num, by rw [HN.out, if_neg hc, List.append_nil]; exact HO.out, hb⟩
          case measure => simp [intOf]; omega
      · obtain rfl : j = n := by omega
        have HO := Lib.hid hown
        clear hown
        go_wp2
        go_ret
        exact ⟨_, rfl, by rw [HX.out]; exact HO.out, hbw1.trans hb⟩

theorem int_src {w : World} {B n : Nat} {A : Option Addr} {zs : List Int} (h : Row w B A (zs.map (Value.int .i64))) (hl : zs.length = n) : ∀ k : Nat, k < n → ∃ b off, A = some ⟨b, off, none⟩ ∧ b < B ∧ w.cell? ⟨b, off + k, none⟩ = some (.int .i64 (zs.getD k 0)) := fun k hk => by
  have hkl : k < zs.length := by omega
  exact h.at_ (by simp [hkl])
theorem sameInts_same (A B : Option Addr) (n c d : Nat) (zs : List Int) (w : World) (B1 B2 : Nat) (hA : Row w B1 A (zs.map (Value.int .i64))) (hB : Row w B2 B (zs.map (Value.int .i64))) (hl : zs.length = n) (hn : n ≤ 1048576) :
    Calls Try.prog 22 #[.slice A n c, .slice B n d] w fun e w' => e = .returned (.bool true) ∧ ∃ m, w' = w.drewN m := by
  have HA := Lib.hid (int_src hA hl)
  have HB := Lib.hid (int_src hB hl)
  clear hA hB hl
  go_enter Try.func22, Try.ntmps22
  go_wp2
  go_loopw [5] (fun i wr => ∃ k m : Nat, k ≤ n ∧ i = .int .i64 k ∧ wr = w.drewN m) (fun i _ => n - (intOf i).toNat)
  case atStart => exact ⟨0, 0, Nat.zero_le _, rfl, rfl⟩
  case round =>
    obtain ⟨k, m, hk, rfl, rfl⟩ := hrel
    by_cases hkn : k < n
    · obtain ⟨b, off, rfl, _, h1⟩ := HA.out k hkn
      obtain ⟨b2, off2, rfl, _, h2⟩ := HB.out k hkn
      generalize zs.getD k 0 = v at h1 h2
      have i1 : (k : Int) < n := by omega
      have hq : (v != v) = false := by simp
      go_wp2
      go_quiet (fail)
      go_wp2
      go_roundw
      case rel => exact ⟨k + 1, _, by omega, by go_num, rfl⟩
      case measure => simp [intOf]; omega
    · go_wp2
      go_ret
      exact ⟨rfl, m, rfl⟩
end Go.Proofs.Ytijilikkdnpbmaa
