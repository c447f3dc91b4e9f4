/- ChooseValue: the program's, the reference's. -/
import Derived.Test.YtagiiclmlpflkaaCh1
namespace Go.Proofs.Ytagiiclmlpflkaa
open Go.RowKit
set_option maxHeartbeats 2000000
set_option linter.unusedVariables false

/-- The first k acceptors are valid. -/
def accTo (fl : List Int) : Nat → Bool
  | 0 => true
  | k + 1 => accTo fl k && accB (fl.getD (k * 3) 0) (fl.getD (k * 3 + 1) 0) (fl.getD (k * 3 + 2) 0)
theorem accTo_le {fl : List Int} : ∀ {m k : Nat}, k ≤ m → accTo fl m = true → accTo fl k = true
  | 0, k, h, hn => by
    have : k = 0 := by omega
    subst this
    exact hn
  | m + 1, k, h, hn => by
    by_cases hk : k = m + 1
    · subst hk; exact hn
    · simp only [accTo, Bool.and_eq_true] at hn
      exact accTo_le (by omega) hn.1
theorem acc_bad {fl : List Int} {m k : Nat} (h : k < m) (hb : accB (fl.getD (k * 3) 0) (fl.getD (k * 3 + 1) 0) (fl.getD (k * 3 + 2) 0) = false) : accTo fl m = false := by
  cases hm : accTo fl m
  · rfl
  · have := accTo_le (k := k + 1) (by omega) hm
    simp only [accTo, hb, Bool.and_false] at this
    cases this
/-- The highest accepted ballot of the first k, and the value that goes with it (o: the own one). -/
def bestA (fl : List Int) : Nat → Int
  | 0 => 0
  | k + 1 => if bestA fl k < fl.getD (k * 3 + 1) 0 then fl.getD (k * 3 + 1) 0 else bestA fl k
def bestV (fl : List Int) (o : Int) : Nat → Int
  | 0 => o
  | k + 1 => if bestA fl k < fl.getD (k * 3 + 1) 0 then fl.getD (k * 3 + 2) 0 else bestV fl o k
/-- The arguments are valid. -/
def chB (fl : List Int) (n : Nat) (o : Int) : Bool := inB o 1 99 && accTo fl n
def chV (fl : List Int) (n : Nat) (o : Int) : Int := if chB fl n o then bestV fl o n else 0
theorem ret_iv {a b : Int} {p q : Bool} (h : a = b) (h2 : p = q) : Ending.returned (.tuple #[.int .i64 a, .bool p]) = .returned (.tuple #[.int .i64 b, .bool q]) := by rw [h, h2]

theorem l21Choose_any (A : Option Addr) (n c : Nat) (fl : List Int) (o : Int) (w : World) (B : Nat) (hA : Row w B A (fl.map (Value.int .i64))) (hB : B ≤ w.heap.size) (hl : fl.length = n * 3) (hn : n ≤ 1048576) : Calls Try.prog 16 #[.slice A n c, .int .i64 o] w fun e w' => e = .returned (.int .i64 (bestV fl o n)) ∧ w' = w := by
  have HA := Lib.hid (rec_src hA hl)
  clear hA hl hB
  go_enter Try.func16, Try.ntmps16
  go_wp2
  go_loop [1, 5, 6] (fun ov hv i => ∃ j : Nat, j ≤ n ∧ i = .int .i64 j ∧ hv = .int .i64 (bestA fl j) ∧ ov = .int .i64 (bestV fl o j)) (fun _ _ i => n - (intOf i).toNat)
  case atStart => exact ⟨0, Nat.zero_le _, rfl, rfl, rfl⟩
  case round =>
    obtain ⟨j, hj, rfl, rfl, rfl⟩ := hrel
    by_cases hjn : j < n
    · obtain ⟨b, off, rfl, hb, c0, c1, c2⟩ := HA.out j hjn
      have H1 := Lib.hid (show bestA fl (j + 1) = if bestA fl j < fl.getD (j * 3 + 1) 0 then fl.getD (j * 3 + 1) 0 else bestA fl j from rfl)
      have H2 := Lib.hid (show bestV fl o (j + 1) = if bestA fl j < fl.getD (j * 3 + 1) 0 then fl.getD (j * 3 + 2) 0 else bestV fl o j from rfl)
      generalize fl.getD (j * 3) 0 = p at c0
      generalize fl.getD (j * 3 + 1) 0 = a at c1 H1 H2
      generalize fl.getD (j * 3 + 2) 0 = v at c2 H1 H2
      have i1 : (j : Int) < n := by omega
      by_cases hq : bestA fl j < a
      all_goals
        go_wp2
        go_round
        case rel => exact ⟨j + 1, by omega, by go_num, by rw [H1.out]; simp [hq], by rw [H2.out]; simp [hq]⟩
        case measure => simp [intOf]; omega
    · obtain rfl : j = n := by omega
      go_wp2
      go_ret
      exact ⟨rfl, rfl⟩

theorem specChoose_any (A : Option Addr) (n c : Nat) (fl : List Int) (o : Int) (w : World) (B : Nat) (hA : Row w B A (fl.map (Value.int .i64))) (hB : B ≤ w.heap.size) (hl : fl.length = n * 3) (hn : n ≤ 1048576) : Calls Try.prog 6 #[.slice A n c, .int .i64 o] w fun e w' => e = .returned (.tuple #[.int .i64 (chV fl n o), .bool (chB fl n o)]) ∧ Below w.heap.size w w' := by
  have HA := Lib.hid (rec_src hA hl)
  have HR := Lib.hid hA
  have HL := Lib.hid hl
  have hBw := hB
  clear hA hl hB
  go_enter Try.func6, Try.ntmps6
  go_wp2
  go_loopw [6] (fun i wr => ∃ j : Nat, j ≤ n ∧ i = .int .i64 j ∧ accTo fl j = true ∧ Below w.heap.size w wr) (fun i _ => n - (intOf i).toNat)
  case atStart => exact ⟨0, Nat.zero_le _, rfl, rfl, Below.refl _ _⟩
  case round =>
    obtain ⟨j, hj, rfl, hto, hB⟩ := hrel
    have hsz := hB.size
    have HT := Lib.hid hto
    clear hto
    by_cases hjn : j < n
    · obtain ⟨b, off, rfl, hb, d0, d1, d2⟩ := HA.out j hjn
      have c0 := (hB.cell (p := ⟨b, off + j * 3, none⟩) (Nat.lt_of_lt_of_le hb hBw)).trans d0
      have c1 := (hB.cell (p := ⟨b, off + j * 3 + 1, none⟩) (Nat.lt_of_lt_of_le hb hBw)).trans d1
      have c2 := (hB.cell (p := ⟨b, off + j * 3 + 2, none⟩) (Nat.lt_of_lt_of_le hb hBw)).trans d2
      clear d0 d1 d2
      have HN := Lib.hid (show accTo fl (j + 1) = (accTo fl j && accB (fl.getD (j * 3) 0) (fl.getD (j * 3 + 1) 0) (fl.getD (j * 3 + 2) 0)) from rfl)
      have HF := Lib.hid (acc_bad (fl := fl) hjn)
      generalize fl.getD (j * 3) 0 = p at c0 HN HF
      generalize fl.getD (j * 3 + 1) 0 = a at c1 HN HF
      generalize fl.getD (j * 3 + 2) 0 = v at c2 HN HF
      have i1 : (j : Int) < n := by omega
      cases hb' : accB p a v
      · have HX := Lib.hid (show chB fl n o = false by simp [chB, HF.out hb'])
        go_wp2_with (go_at_call 14; refine (specValid_any _ _ _ _).mono ?_; rintro e w' ⟨rfl, rfl⟩)
        go_ret2
        exact ⟨ret_iv (by simp [chV, HX.out]) HX.out.symm, by (repeat (first | (with_reducible exact Below.refl _ _) | (with_reducible assumption) | (with_reducible refine below_drewN ?_ _) | (with_reducible refine Below.drew ?_) | (with_reducible refine Below.alloc ?_ (by (first | omega | (show _ < _; omega) | (simp; omega) | (simp; done))) _) | (with_reducible refine Below.setCell ?_ (by (first | omega | (show _ < _; omega) | (simp; omega) | (simp; done))) _) | (with_reducible refine Below.trans ?_ (Below.mono (by with_reducible assumption) (by (first | omega | (show _ < _; omega) | (simp; omega) | (simp; done))))) | (with_reducible refine below_grown ?_ (by with_reducible assumption) (by (first | omega | (show _ < _; omega) | (simp; omega) | (simp; done))) (by (first | omega | (show _ < _; omega) | (simp; omega) | (simp; done))))))⟩
      · go_wp2_with (go_at_call 14; refine (specValid_any _ _ _ _).mono ?_; rintro e w' ⟨rfl, rfl⟩)
        go_roundw
        case rel => exact ⟨j + 1, by omega, by go_num, by rw [HN.out, HT.out, hb']; rfl, by (repeat (first | (with_reducible exact Below.refl _ _) | (with_reducible assumption) | (with_reducible refine below_drewN ?_ _) | (with_reducible refine Below.drew ?_) | (with_reducible refine Below.alloc ?_ (by (first | omega | (show _ < _; omega) | (simp; omega) | (simp; done))) _) | (with_reducible refine Below.setCell ?_ (by (first | omega | (show _ < _; omega) | (simp; omega) | (simp; done))) _) | (with_reducible refine Below.trans ?_ (Below.mono (by with_reducible assumption) (by (first | omega | (show _ < _; omega) | (simp; omega) | (simp; done))))) | (with_reducible refine below_grown ?_ (by with_reducible assumption) (by (first | omega | (show _ < _; omega) | (simp; omega) | (simp; done))) (by (first | omega | (show _ < _; omega) | (simp; omega) | (simp; done))))))⟩
        case measure => simp [intOf]; omega
    · obtain rfl : j = n := by omega
      cases hq : inB o 1 99
      · have HX := Lib.hid (show chB fl j o = false by simp [chB, hq])
        go_wp2_with (go_at_call 15; refine (l21Value_any _ _).mono ?_; rintro e w' ⟨rfl, rfl⟩)
        go_ret2
        exact ⟨ret_iv (by simp [chV, HX.out]) HX.out.symm, hB⟩
      · have HX := Lib.hid (show chB fl j o = true by simp [chB, hq, HT.out])
        go_wp2_with (first | (go_at_call 15; refine (l21Value_any _ _).mono ?_; rintro e w' ⟨rfl, rfl⟩) | (go_at_call 16; refine (l21Choose_any A j c fl o _ B (HR.out.keep fun p hp => hB.cell (Nat.lt_of_lt_of_le hp hBw)) (by omega) HL.out hn).mono ?_; rintro e w' ⟨rfl, rfl⟩))
        go_ret2
        exact ⟨ret_iv (by simp [chV, HX.out]) HX.out.symm, hB⟩

theorem closure_any (p a v : Int) (w : World) : Calls Try.prog 19 #[.agg #[.int .i64 p, .int .i64 a, .int .i64 v]] w fun e w' => e = .returned (.bool (!accB p a v)) ∧ w' = (w.alloc (.cells #[.int .i64 p, .int .i64 a, .int .i64 v] 29)).alloc (.cells #[.int .i64 p, .int .i64 a, .int .i64 v] 29) := by
  go_enter Try.func19, Try.ntmps19
  go_wp2_with (go_at_call 20; refine (implValid_any _ _ _ _).mono ?_; rintro e w' ⟨rfl, rfl⟩)
  go_ret
  exact ⟨rfl, rfl⟩
/-- What IndexFunc hands back: a number, at least 0 exactly if an element is not valid. -/
def IdxRes (fl : List Int) (n : Nat) (w : World) (e : Ending) (w' : World) : Prop := ∃ q : Int, e = .returned (.int .i64 q) ∧ (0 ≤ q ↔ accTo fl n = false) ∧ Below w.heap.size w w'
theorem indexFunc_any (A : Option Addr) (n c : Nat) (fl : List Int) (w : World) (B : Nat) (hA : Row w B A (fl.map (Value.int .i64))) (hB : B ≤ w.heap.size) (hl : fl.length = n * 3) (hn : n ≤ 1048576) : Calls Try.prog 24 #[.slice A n c, (.func (.func 19) #[] #[])] w (IdxRes fl n w) := by
  have HA := Lib.hid (rec_src hA hl)
  have hBw := hB
  clear hA hl hB
  go_enter Try.func24, Try.ntmps24
  go_wp2
  go_loopw [8] (fun i wr => ∃ j : Nat, j ≤ n ∧ i = .int .i64 j ∧ accTo fl j = true ∧ Below w.heap.size w wr) (fun i _ => n - (intOf i).toNat)
  case atStart => exact ⟨0, Nat.zero_le _, rfl, rfl, Below.refl _ _⟩
  case round =>
    obtain ⟨j, hj, rfl, hto, hB⟩ := hrel
    have hsz := hB.size
    have HT := Lib.hid hto
    clear hto
    by_cases hjn : j < n
    · obtain ⟨b, off, rfl, hb, d0, d1, d2⟩ := HA.out j hjn
      have c0 := (hB.cell (p := ⟨b, off + j * 3, none⟩) (Nat.lt_of_lt_of_le hb hBw)).trans d0
      have c1 := (hB.cell (p := ⟨b, off + j * 3 + 1, none⟩) (Nat.lt_of_lt_of_le hb hBw)).trans d1
      have c2 := (hB.cell (p := ⟨b, off + j * 3 + 2, none⟩) (Nat.lt_of_lt_of_le hb hBw)).trans d2
      clear d0 d1 d2
      have HN := Lib.hid (show accTo fl (j + 1) = (accTo fl j && accB (fl.getD (j * 3) 0) (fl.getD (j * 3 + 1) 0) (fl.getD (j * 3 + 2) 0)) from rfl)
      have HF := Lib.hid (acc_bad (fl := fl) hjn)
      generalize fl.getD (j * 3) 0 = p at c0 HN HF
      generalize fl.getD (j * 3 + 1) 0 = a at c1 HN HF
      generalize fl.getD (j * 3 + 2) 0 = v at c2 HN HF
      have i1 : (j : Int) < n := by omega
      cases hb' : accB p a v
      · have HX := Lib.hid (HF.out hb')
        go_wp2_with (go_at_call 19; refine (closure_any _ _ _ _).mono ?_; rintro e w' ⟨rfl, rfl⟩)
        go_ret
        exact ⟨_, rfl, ⟨fun _ => HX.out, fun _ => by omega⟩, by (repeat (first | (with_reducible exact Below.refl _ _) | (with_reducible assumption) | (with_reducible refine below_drewN ?_ _) | (with_reducible refine Below.drew ?_) | (with_reducible refine Below.alloc ?_ (by (first | omega | (show _ < _; omega) | (simp; omega) | (simp; done))) _) | (with_reducible refine Below.setCell ?_ (by (first | omega | (show _ < _; omega) | (simp; omega) | (simp; done))) _) | (with_reducible refine Below.trans ?_ (Below.mono (by with_reducible assumption) (by (first | omega | (show _ < _; omega) | (simp; omega) | (simp; done))))) | (with_reducible refine below_grown ?_ (by with_reducible assumption) (by (first | omega | (show _ < _; omega) | (simp; omega) | (simp; done))) (by (first | omega | (show _ < _; omega) | (simp; omega) | (simp; done))))))⟩
      · go_wp2_with (go_at_call 19; refine (closure_any _ _ _ _).mono ?_; rintro e w' ⟨rfl, rfl⟩)
        go_roundw
        case rel => exact ⟨j + 1, by omega, by go_num, by rw [HN.out, HT.out, hb']; rfl, by (repeat (first | (with_reducible exact Below.refl _ _) | (with_reducible assumption) | (with_reducible refine below_drewN ?_ _) | (with_reducible refine Below.drew ?_) | (with_reducible refine Below.alloc ?_ (by (first | omega | (show _ < _; omega) | (simp; omega) | (simp; done))) _) | (with_reducible refine Below.setCell ?_ (by (first | omega | (show _ < _; omega) | (simp; omega) | (simp; done))) _) | (with_reducible refine Below.trans ?_ (Below.mono (by with_reducible assumption) (by (first | omega | (show _ < _; omega) | (simp; omega) | (simp; done))))) | (with_reducible refine below_grown ?_ (by with_reducible assumption) (by (first | omega | (show _ < _; omega) | (simp; omega) | (simp; done))) (by (first | omega | (show _ < _; omega) | (simp; omega) | (simp; done))))))⟩
        case measure => simp [intOf]; omega
    · obtain rfl : j = n := by omega
      go_wp2
      go_ret
      exact ⟨_, rfl, ⟨fun h => absurd h (by omega), fun h => by rw [HT.out] at h; cases h⟩, hB⟩
theorem containsFunc_any (A : Option Addr) (n c : Nat) (fl : List Int) (w : World) (B : Nat) (hA : Row w B A (fl.map (Value.int .i64))) (hB : B ≤ w.heap.size) (hl : fl.length = n * 3) (hn : n ≤ 1048576) : Calls Try.prog 18 #[.slice A n c, (.func (.func 19) #[] #[])] w fun e w' => e = .returned (.bool (!accTo fl n)) ∧ Below w.heap.size w w' := by
  have HI := Lib.hid (indexFunc_any A n c fl w B hA hB hl hn)
  clear hA hB hl
  go_enter Try.func18, Try.ntmps18
  go_wp2_with fail
  refine HI.out.mono ?_
  rintro e w1 ⟨q, rfl, hq, hb⟩
  have HQ := Lib.hid hq
  clear hq
  cases ha : accTo fl n
  · have h1 : 0 ≤ q := HQ.out.2 ha
    go_wp2
    go_ret
    exact ⟨ret_bool (by rw [ha]; rfl), hb⟩
  · have h1 : ¬ 0 ≤ q := fun h => by rw [HQ.out.1 h] at ha; cases ha
    go_wp2
    go_ret
    exact ⟨ret_bool (by rw [ha]; simpa using h1), hb⟩
end Go.Proofs.Ytagiiclmlpflkaa
