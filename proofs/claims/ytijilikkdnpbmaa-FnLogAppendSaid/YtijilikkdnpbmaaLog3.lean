/- LogValid and LogConfig: the reference's and the program's. -/
import Derived.Test.YtijilikkdnpbmaaLog2
import Derived.Deep.LoopGhost
namespace Go.Proofs.Ytijilikkdnpbmaa
open Go.RowKit
set_option maxHeartbeats 2000000
set_option linter.unusedVariables false

theorem specLogValid_any (A : Option Addr) (n c : Nat) (fl : List Int) (k : Int) (w : World) (B : Nat) (hA : Row w B A (fl.map (Value.int .i64))) (hB : B ≤ w.heap.size) (hl : fl.length = n * 2) (hn : n ≤ 1048576) : Calls Try.prog 12 #[.slice A n c, .int .i64 k] w fun e w' => e = .returned (.bool (logB fl k n)) ∧ Below w.heap.size w w' := by
  have HA := Lib.hid (row_src hA hl)
  have hBw := hB
  clear hA hl hB
  have HL := Lib.hid (show entTo fl k n = true → logB fl k n = (inB k 1 5 && decide (n ≤ 12)) from fun h => by simp [logB, h])
  have HL0 := Lib.hid (show entTo fl k n = false → logB fl k n = false from fun h => by simp [logB, h])
  go_enter Try.func12, Try.ntmps12
  go_wp2
  go_loopw [5] (fun i wr => ∃ j : Nat, j ≤ n ∧ i = .int .i64 j ∧ entTo fl k j = true ∧ Below w.heap.size w wr) (fun i _ => n - (intOf i).toNat)
  case atStart => exact ⟨0, Nat.zero_le _, rfl, rfl, Below.refl _ _⟩
  case round =>
    obtain ⟨j, hj, rfl, hto, hB⟩ := hrel
    have hsz := hB.size
    have HT := Lib.hid hto
    clear hto
    by_cases hjn : j < n
    · obtain ⟨b, off, rfl, hb, hc0, hc1⟩ := HA.out j hjn
      have c0 := (hB.cell (p := ⟨b, off + j * 2, none⟩) (Nat.lt_of_lt_of_le hb hBw)).trans hc0
      have c1 := (hB.cell (p := ⟨b, off + j * 2 + 1, none⟩) (Nat.lt_of_lt_of_le hb hBw)).trans hc1
      clear hc0 hc1
      have HN := Lib.hid (show entTo fl k (j + 1) = (entTo fl k j && entB (fV fl j) (fC fl j) k) from rfl)
      have HF := Lib.hid (ent_bad (fl := fl) (n := k) hjn)
      have i1 : (j : Int) < n := by omega
      cases hb' : entB (fV fl j) (fC fl j) k
      · have HR := Lib.hid (HL0.out (HF.out hb'))
        go_wp2_with (go_at_call 28; refine (l31Entry_any _ _ _ _).mono ?_; rintro e w' ⟨rfl, rfl⟩)
        go_ret
        exact ⟨ret_bool HR.out.symm, by (repeat (first | (with_reducible exact Below.refl _ _) | (with_reducible assumption) | (with_reducible refine below_drewN ?_ _) | (with_reducible refine Below.drew ?_) | (with_reducible refine Below.alloc ?_ (by (first | omega | (show _ < _; omega) | (simp; omega) | (simp; done))) _) | (with_reducible refine Below.setCell ?_ (by (first | omega | (show _ < _; omega) | (simp; omega) | (simp; done))) _) | (with_reducible refine Below.trans ?_ (Below.mono (by with_reducible assumption) (by (first | omega | (show _ < _; omega) | (simp; omega) | (simp; done))))) | (with_reducible refine below_grown ?_ (by with_reducible assumption) (by (first | omega | (show _ < _; omega) | (simp; omega) | (simp; done))) (by (first | omega | (show _ < _; omega) | (simp; omega) | (simp; done))))))⟩
      · go_wp2_with (go_at_call 28; refine (l31Entry_any _ _ _ _).mono ?_; rintro e w' ⟨rfl, rfl⟩)
        go_roundw
        case rel => exact ⟨j + 1, by omega, by go_num, by rw [HN.out, HT.out, hb']; rfl, by (repeat (first | (with_reducible exact Below.refl _ _) | (with_reducible assumption) | (with_reducible refine below_drewN ?_ _) | (with_reducible refine Below.drew ?_) | (with_reducible refine Below.alloc ?_ (by (first | omega | (show _ < _; omega) | (simp; omega) | (simp; done))) _) | (with_reducible refine Below.setCell ?_ (by (first | omega | (show _ < _; omega) | (simp; omega) | (simp; done))) _) | (with_reducible refine Below.trans ?_ (Below.mono (by with_reducible assumption) (by (first | omega | (show _ < _; omega) | (simp; omega) | (simp; done))))) | (with_reducible refine below_grown ?_ (by with_reducible assumption) (by (first | omega | (show _ < _; omega) | (simp; omega) | (simp; done))) (by (first | omega | (show _ < _; omega) | (simp; omega) | (simp; done))))))⟩
        case measure => simp [intOf]; omega
    · obtain rfl : j = n := by omega
      have HR := Lib.hid (HL.out HT.out)
      cases hq : inB k 1 5
      · have HQ := Lib.hid hq
        go_wp2_with (go_at_call 29; refine (l6In_any _ _ _ _).mono ?_; rintro e w' ⟨rfl, rfl⟩)
        go_ret
        exact ⟨ret_bool (by rw [HR.out, HQ.out]; first | (simp; done) | (simp; omega)), hB⟩
      · have HQ := Lib.hid hq
        go_wp2_with (go_at_call 29; refine (l6In_any _ _ _ _).mono ?_; rintro e w' ⟨rfl, rfl⟩)
        go_ret
        exact ⟨ret_bool (by rw [HR.out, HQ.out]; first | (simp; done) | (simp; omega)), hB⟩

theorem implLogValid_any (A : Option Addr) (n c : Nat) (fl : List Int) (k : Int) (w : World) (B : Nat) (hA : Row w B A (fl.map (Value.int .i64))) (hB : B ≤ w.heap.size) (hl : fl.length = n * 2) (hn : n ≤ 1048576) : Calls Try.prog 14 #[.slice A n c, .int .i64 k] w fun e w' => e = .returned (.bool (logB fl k n)) ∧ Below w.heap.size w w' := by
  have HC := Lib.hid (chain_any A n c fl k w (hA.more hB) hl hn)
  clear hA hl hB
  go_enter Try.func14, Try.ntmps14
  go_wp2_with fail
  refine HC.out.mono ?_
  rintro e w1 ⟨bs, b, hb, rfl, -, hB⟩
  have HB := Lib.hid hb
  clear hb
  go_wp2
  go_ret
  exact ⟨ret_bool HB.out.symm, hB⟩

/-- How many entries decide a slot. -/
def stopAt (n : Nat) (s : Int) : Nat := min n (s - 1).toNat
/-- The configuration after the first k entries. -/
def cfgTo (fl : List Int) : Nat → Int
  | 0 => 1
  | k + 1 => if 0 < fC fl k then fC fl k else cfgTo fl k
theorem l31Config_any (A : Option Addr) (n c : Nat) (fl : List Int) (k : Int) (w : World) (B : Nat) (hA : Row w B A (fl.map (Value.int .i64))) (hB : B ≤ w.heap.size) (hl : fl.length = n * 2) (hn : n ≤ 1048576) (s : Int) (h0 : 0 ≤ s) (h1 : s ≤ n + 1) : Calls Try.prog 37 #[.slice A n c, .int .i64 s] w fun e w' => e = .returned (.int .i64 (cfgTo fl (stopAt n s))) ∧ w' = w := by
  have HA := Lib.hid (row_src hA hl)
  clear hA hl hB
  go_enter Try.func37, Try.ntmps37
  go_wp2
  go_loop [5, 6] (fun v i => ∃ j : Nat, j ≤ stopAt n s ∧ i = .int .i64 j ∧ v = .int .i64 (cfgTo fl j)) (fun _ i => n - (intOf i).toNat)
  case atStart => exact ⟨0, Nat.zero_le _, rfl, rfl⟩
  case round =>
    obtain ⟨j, hj, rfl, rfl⟩ := hrel
    by_cases hjn : j < n
    · by_cases hjs : (j : Int) + 2 ≤ s
      · obtain ⟨b, off, rfl, hb, hc0, hc1⟩ := HA.out j hjn
        have HN := Lib.hid (show cfgTo fl (j + 1) = if 0 < fC fl j then fC fl j else cfgTo fl j from rfl)
        have i1 : (j : Int) < n := by omega
        by_cases hq : 0 < fC fl j
        all_goals
          go_wp2
          go_round
          case rel => exact ⟨j + 1, by have := hj; unfold stopAt at this ⊢; omega, by go_num, by rw [HN.out]; simp [hq]⟩
          case measure => simp [intOf]; omega
      · have hj' : j = stopAt n s := by have := hj; unfold stopAt at this ⊢; omega
        have HJ := Lib.hid hj'
        clear hj'
        have i1 : (j : Int) < n := by omega
        go_wp2
        go_ret
        exact ⟨ret_int (by rw [← HJ.out]), rfl⟩
    · have hj' : j = stopAt n s := by have := hj; unfold stopAt at this ⊢; omega
      have HJ := Lib.hid hj'
      clear hj'
      go_wp2
      go_ret
      exact ⟨ret_int (by rw [← HJ.out]), rfl⟩

theorem config_any (Fb : Nat) (bs : List Nat) (fl : List Int) (n : Nat) (s : Int) (w : World) (hc : Chn w Fb bs fl) (hl : bs.length = n) (hv : ∀ j, j < n → 0 ≤ fC fl j) (h0 : 0 ≤ s) (h1 : s ≤ n + 1) (hn : n ≤ 12) :
    Calls Try.prog 36 #[.pointer (ptr bs 0), .int .i64 s] w fun e w' => e = .returned (.int .i64 (cfgTo fl (stopAt n s))) ∧ w' = w := by
  have HL := Lib.hid hl
  have HR := Lib.hid hc.rec_
  have HV := Lib.hid hv
  clear hc hl hv
  go_enter Try.func36, Try.ntmps36
  go_wp2
  go_loopg [5, 6] (n + 1) (fun g v p wr => wr = w ∧ ∃ j : Nat, g = n + 1 - j ∧ j ≤ stopAt n s ∧ p = .pointer (ptr bs j) ∧ v = .int .i64 (cfgTo fl j))
  case atStart => exact ⟨rfl, 0, rfl, Nat.zero_le _, rfl, rfl⟩
  case round =>
    obtain ⟨rfl, j, hg, hj, rfl, rfl⟩ := hrel
    have HG := Lib.hid hg
    clear hg
    by_cases hjn : j < n
    · have hjb : j < bs.length := by rw [HL.out]; exact hjn
      obtain ⟨b, hb⟩ : ∃ b, bs[j]? = some b := ⟨bs[j], by simp [hjb]⟩
      have hp : ptr bs j = some ⟨b, 0, none⟩ := by unfold ptr; rw [hb]; rfl
      have hrec := HR.out j b hb
      unfold recO at hrec
      have c1 : wr.cell? ⟨b, 1, none⟩ = some (.int .i64 (fC fl j)) := by simp [World.cell?, hrec]
      have c2 : wr.cell? ⟨b, 2, none⟩ = some (.int .i64 (j : Int)) := by simp [World.cell?, hrec]
      have c3 : wr.cell? ⟨b, 3, none⟩ = some (.pointer (ptr bs (j + 1))) := by simp [World.cell?, hrec]
      rw [hp]
      clear hrec hp hb hjb
      have hv0 := HV.out j hjn
      by_cases hjs : (j : Int) + 2 ≤ s
      · have HN := Lib.hid (show cfgTo fl (j + 1) = if 0 < fC fl j then fC fl j else cfgTo fl j from rfl)
        rcases (show fC fl j = 0 ∨ 0 < fC fl j by omega) with hq | hq
        · have q1 : (fC fl j != 0) = false := by simp [hq]
          have HQ := Lib.hid hq
          clear hq
          go_wp2
          go_roundg (n + 1 - (j + 1))
          case measure => rw [HG.out]; omega
          case rel => exact ⟨rfl, j + 1, rfl, by have := hj; unfold stopAt at this ⊢; omega, rfl, by rw [HN.out, HQ.out]; simp⟩
        · have q1 : (fC fl j != 0) = true := by simp; omega
          go_wp2
          go_roundg (n + 1 - (j + 1))
          case measure => rw [HG.out]; omega
          case rel => exact ⟨rfl, j + 1, rfl, by have := hj; unfold stopAt at this ⊢; omega, rfl, by rw [HN.out, if_pos hq]⟩
      · have hj' : j = stopAt n s := by have := hj; unfold stopAt at this ⊢; omega
        have HJ := Lib.hid hj'
        clear hj'
        go_wp2
        go_ret
        exact ⟨ret_int (by rw [← HJ.out]), rfl⟩
    · have hj' : j = stopAt n s := by have := hj; unfold stopAt at this ⊢; omega
      have HJ := Lib.hid hj'
      clear hj'
      have hp : ptr bs j = none := ptr_none (by rw [HL.out]; omega)
      rw [hp]
      clear hp
      go_wp2
      go_ret
      exact ⟨ret_int (by rw [← HJ.out]), rfl⟩
end Go.Proofs.Ytijilikkdnpbmaa
