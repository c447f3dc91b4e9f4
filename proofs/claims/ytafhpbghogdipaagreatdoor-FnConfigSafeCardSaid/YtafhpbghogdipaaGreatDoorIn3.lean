/- slices.Grow, Concat, Index, Contains over masks. -/
import Derived.Test.YtafhpbghogdipaaGreatDoorIn2
import Derived.Lib.AppendZerosOnto
import Derived.Lib.Walk
namespace Go.Proofs.YtafhpbghogdipaaGreatDoor
open Go.RowKit
set_option maxHeartbeats 4000000
set_option maxRecDepth 100000

def OwnC (w : World) (B : Nat) (v : Value) (zs : List Int) : Prop := w.ownsRow B 46 1 v zs.length (zs.map (Value.int .u64))
set_option maxRecDepth 100000 in
theorem grow_any (n : Nat) (w : World) (hn : n ≤ 1000000) : Calls Tryz.prog 27 #[.slice none 0 0, .int .i64 n] w fun e w' =>
    ∃ v, e = .returned v ∧ OwnC w' w.heap.size v [] ∧ Below w.heap.size w w' := by
  obtain ⟨i0, hi, hz0, hz1, hz2⟩ := info_parts crew_info
  have h1 : ¬ ((n : Int) < 0) := by omega
  have h3 : wrap64 ((n : Int)) = (n : Int) := by unfold wrap64; omega
  by_cases hn0 : n = 0
  · subst hn0
    go_enter Tryz.func27, Tryz.ntmps27
    go_wp2
    go_ret
    exact ⟨_, rfl, World.ownsRow_nil _ _ _ _, Below.refl _ _⟩
  · have h4 : (n : Int) > 0 := by omega
    have hrz : ∀ ty, (Builtin.append_ #[33, 3] ty #[.slice none 0 0, .int .i64 (n : Int)]).run Tryz.prog w =
        .ok (.slice (some ⟨w.heap.size, 0, none⟩) n (grownCap w n 0 46)) (w.drew.alloc (.cells (([] : List Value).toArray ++ Builtin.zeroCells (Value.int .u64 0).cells n ++ Builtin.zeroCells (Value.int .u64 0).cells (grownCap w n 0 46 - n)) 46)) := fun ty => by
      have h := Lib.run_append_grow_zeros w 33 3 ty 46 i0 (.int .u64 0) .i64 .i64 Tryz.underlying33 Tryz.underlying3 hi hz0 none 0 0 [] (run_firstCells_none w.drew i0.size 0 0 0) n (by omega) (by omega) (by omega) (by omega)
        (by rw [hz2]; omega) (by rw [hz2]; exact growslice_fits (by omega) (by omega))
      simpa using h
    have hGn : n ≤ grownCap w n 0 46 := grownCap_ge w _ _ _
    have hGm : grownCap w n 0 46 ≤ maxLen := grownCap_le_maxLen w n 0 46 (by unfold maxLen; omega)
    obtain ⟨G, hG⟩ : ∃ G, G = grownCap w n 0 46 := ⟨_, rfl⟩
    rw [← hG] at hrz hGn hGm
    have hG63 : G ≤ 9223372036854775807 := by unfold maxLen at hGm; omega
    clear hG hi hz0 hz1 hz2
    have hcs : (([] : List Value).toArray ++ Builtin.zeroCells (Value.int .u64 0).cells n ++ Builtin.zeroCells (Value.int .u64 0).cells (G - n)).size = G * 1 := by
      simp [size_zeroCells, Value.cells]
      omega
    obtain ⟨cur, hcur⟩ : ∃ cur, cur = ([] : List Value).toArray ++ Builtin.zeroCells (Value.int .u64 0).cells n ++ Builtin.zeroCells (Value.int .u64 0).cells (G - n) := ⟨_, rfl⟩
    rw [← hcur] at hrz hcs
    clear hcur
    go_enter Tryz.func27, Tryz.ntmps27
    go_wp2_with (at_builtin; refine Lib.wpList_append_run _ rfl _ _ _ _ rfl _ _ rfl rfl _ _ (hrz _) ?_)
    all_goals (go_ret; exact ⟨_, rfl, World.ownsRow_made w.drew cur G (Nat.le_refl _) hGm hcs, (Below.refl _ _).drew.alloc (Nat.le_refl _) _⟩)

/-- The first k rows, one behind the other. -/
def catR (rows : Nat → List Int) : Nat → List Int
  | 0 => []
  | k + 1 => catR rows k ++ rows k
theorem catR_len {rows : Nat → List Int} {n : Nat} (h : ∀ i, i < n → (rows i).length ≤ 20) : ∀ k, k ≤ n → (catR rows k).length ≤ k * 20
  | 0, _ => by simp [catR]
  | k + 1, hk => by
    have := catR_len h k (by omega)
    have := h k (by omega)
    simp only [catR, List.length_append]
    omega
/-- The rows are there. -/
structure RowsAt (w : World) (B C n : Nat) (rows : Nat → List Int) : Prop where
  at_ : ∀ i, i < n → ∃ A c, w.cell? ⟨C, i, none⟩ = some (.slice A (rows i).length c) ∧ (rows i).length ≤ c ∧ c ≤ maxLen ∧ (A = none → (rows i).length = 0) ∧ Row w B A ((rows i).map (Value.int .u64))
  len : ∀ i, i < n → (rows i).length ≤ 20
  lt : C < B
theorem RowsAt.below {w w' : World} {B C n : Nat} {rows : Nat → List Int} (h : RowsAt w B C n rows) (hb : Below B w w') : RowsAt w' B C n rows :=
  ⟨fun i hi => by
    obtain ⟨A, c, h1, h2, h3, h4, h5⟩ := h.at_ i hi
    exact ⟨A, c, by rw [hb.cell (by exact h.lt)]; exact h1, h2, h3, h4, h5.below hb⟩, h.len, h.lt⟩
theorem concat_wp (C n cp : Nat) (rows : Nat → List Int) (w : World) (h : RowsAt w w.heap.size C n rows) (hn : n ≤ 20) :
    ∃ cd, Tryz.f16.body = some cd ∧ cd.wp Tryz.prog (bodyPost Tryz.prog Tryz.f16 fun e w' => ∃ v, e = .returned v ∧ OwnC w' w.heap.size v (catR rows n) ∧ Below w.heap.size w w') { tmps := #[.slice (some ⟨C, 0, none⟩) n cp] ++ Array.replicate (Tryz.f16.ntmps - (#[Value.slice (some ⟨C, 0, none⟩) n cp] : Array Value).size) undef, defers := [] } w := by
  have H := Lib.hid h
  have HL := Lib.hid (catR_len h.len)
  have hC := h.lt
  clear h
  obtain ⟨i0, hi, hz0, hz1, hz2⟩ := info_parts crew_info
  have HI := Lib.hid hi
  have HI0 := Lib.hid hz0
  have HI1 := Lib.hid hz1
  have HI2 := Lib.hid hz2
  clear hi hz0 hz1 hz2
  refine ⟨_, rfl, ?_⟩
  simp only [Tryz.ntmps16, List.size_toArray, List.length_cons, List.length_nil, Nat.reduceAdd, Nat.reduceSub, Array.replicate_succ, Array.replicate_zero, List.push_toArray, List.append_toArray, List.nil_append, List.cons_append]
  go_wp2
  go_loop [3, 11] (fun u i => ∃ k : Nat, k ≤ n ∧ i = .int .i64 k ∧ u = .int .i64 ((catR rows k).length : Nat)) (fun _ i => n - (intOf i).toNat)
  case atStart => exact ⟨0, Nat.zero_le _, rfl, rfl⟩
  case round =>
    obtain ⟨k, hk, rfl, rfl⟩ := hrel
    by_cases hkn : k < n
    · have i1 : (k : Int) < n := by omega
      obtain ⟨A, c, hcell, _, _, _, _⟩ := H.out.at_ k hkn
      have hlk := H.out.len k hkn
      have hl0 := HL.out k hk
      have hnx : (catR rows (k + 1)).length = (catR rows k).length + (rows k).length := by simp [catR]
      have HN := Lib.hid hnx
      clear hnx
      generalize (rows k).length = l at hcell hlk HN
      generalize (catR rows k).length = m at hl0 HN
      have hw : wrap64 ((m : Int) + (l : Int)) = (m : Int) + (l : Int) := by unfold wrap64; omega
      have hneg : ¬ ((m : Int) + (l : Int) < 0) := by omega
      go_wp2
      go_round
      case rel => exact ⟨k + 1, by omega, by go_num, by rw [HN.out]; go_num⟩
      case measure => simp [intOf]; omega
    · obtain rfl : k = n := by omega
      have hl0 := HL.out k hk
      have hgrow := grow_any (catR rows k).length w (by omega)
      have HG := Lib.hid hgrow
      clear hgrow
      generalize (catR rows k).length = m at hl0 HG
      go_wp2_with fail
      refine HG.out.mono ?_
      rintro e w1 ⟨v, rfl, ho, hb⟩
      have HO := Lib.hid ho
      have HB := Lib.hid hb
      clear ho
      go_wp2
      go_loopw [6, 27] (fun u i wr => ∃ j : Nat, j ≤ k ∧ i = .int .i64 j ∧ OwnC wr w.heap.size u (catR rows j) ∧ Below w.heap.size w wr) (fun _ i _ => k - (intOf i).toNat)
      case atStart => exact ⟨0, Nat.zero_le _, rfl, HO.out, HB.out⟩
      case round =>
        obtain ⟨j, hj, rfl, hown, hbw⟩ := hrel
        have HOw := Lib.hid hown
        have hsz := hbw.size
        clear hown
        by_cases hjk : j < k
        · have i1 : (j : Int) < k := by omega
          obtain ⟨A, c, hcell, _, _, hnil, hrow⟩ := (H.out.below hbw).at_ j hjk
          have hlj := H.out.len j hjk
          have hl0 := HL.out j hj
          have HR := Lib.hid hrow
          have HNil := Lib.hid hnil
          clear hrow hnil
          have hnx : catR rows (j + 1) = catR rows j ++ rows j := rfl
          have HN := Lib.hid hnx
          clear hnx
          go_wp2_with (at_builtin; refine wpl_append_all rfl _ _ 33 (by rfl) w.heap.size 46 i0 (.int .u64 0) 1 8 Tryz.underlying33 HI.out HI0.out HI1.out HI2.out rfl (by omega) _ _ _ (by rfl) HOw.out _ A _ c _ (by rfl) HR.out (by simp) HNil.out (by simp [Value.oneCell']) (by omega) (by omega) (by omega) hsz ?_; intro v' w2 hown2 hb2 _ _)
          go_roundw
          case rel => exact ⟨j + 1, by omega, by go_num, by rw [HN.out]; unfold OwnC; rw [List.length_append, List.map_append]; exact hown2, hbw.trans hb2⟩
          case measure => simp [intOf]; omega
        · obtain rfl : j = k := by omega
          go_wp2
          go_ret
          exact ⟨_, rfl, HOw.out, hbw⟩

def hasZ (zs : List Int) : Nat → Bool
  | 0 => false
  | k + 1 => hasZ zs k || zs.getD k 0 == 0
theorem hasZ_is {zs : List Int} {k : Nat} : ∀ {n : Nat}, k < n → zs.getD k 0 = 0 → hasZ zs n = true
  | 0, h, _ => absurd h (by omega)
  | n + 1, h, hm => by
    by_cases e : k = n
    · subst e; simp only [hasZ, hm]; simp
    · simp only [hasZ, hasZ_is (n := n) (by omega) hm, Bool.true_or]
theorem index_any (A : Option Addr) (n c : Nat) (zs : List Int) (w : World) (B : Nat) (hA : Row w B A (zs.map (Value.int .u64))) (hl : zs.length = n) (hn : n ≤ 1000000) :
    Calls Tryz.prog 26 #[.slice A n c, .int .u64 0] w fun e w' => (∃ r : Int, e = .returned (.int .i64 r) ∧ decide (0 ≤ r) = hasZ zs n ∧ -1 ≤ r ∧ r ≤ 1000000) ∧ w' = w := by
  have HA := Lib.hid hA
  have HL := Lib.hid hl
  clear hA hl
  obtain ⟨q, hq⟩ : ∃ q, q = hasZ zs n := ⟨_, rfl⟩
  rw [← hq]
  have HQ := Lib.hid hq
  clear hq
  go_enter Tryz.func26, Tryz.ntmps26
  go_wp2
  go_loop [8] (fun i => ∃ k : Nat, k ≤ n ∧ i = .int .i64 k ∧ hasZ zs k = false) (fun i => n - (intOf i).toNat)
  case atStart => exact ⟨0, Nat.zero_le _, rfl, rfl⟩
  case round =>
    obtain ⟨k, hk, rfl, hno⟩ := hrel
    have HN := Lib.hid hno
    clear hno
    by_cases hkn : k < n
    · have i1 : (k : Int) < n := by omega
      have hg : (zs.map (Value.int .u64))[k]? = some (.int .u64 (zs.getD k 0)) := by
        have hkl : k < zs.length := by rw [HL.out]; exact hkn
        simp [hkl]
      obtain ⟨b, off, rfl, _, hc⟩ := HA.out.at_ hg
      clear hg
      have HX := Lib.hid (show hasZ zs (k + 1) = (hasZ zs k || zs.getD k 0 == 0) from rfl)
      have HY := Lib.hid (fun h => hasZ_is (zs := zs) hkn h)
      generalize zs.getD k 0 = v at hc HX HY
      by_cases hv : v = 0
      · subst hv
        have HF : Hid (q = true) := Lib.hid (by rw [HQ.out]; exact HY.out rfl)
        go_wp2
        go_ret
        exact ⟨⟨_, rfl, by rw [HF.out]; simp, by omega, by omega⟩, rfl⟩
      · have hv2 : ¬ (0 : Int) = v := fun h => hv h.symm
        have hv3 : (v == 0) = false := by simp [hv]
        go_wp2
        go_round
        case rel => exact ⟨k + 1, by omega, by go_num, by rw [HX.out, HN.out, hv3]; rfl⟩
        case measure => simp [intOf]; omega
    · obtain rfl : k = n := by omega
      have HF : Hid (q = false) := Lib.hid (by rw [HQ.out]; exact HN.out)
      go_wp2
      go_ret
      exact ⟨⟨_, rfl, by rw [HF.out]; rfl, by omega, by omega⟩, rfl⟩
theorem contains_wp (A : Option Addr) (n c : Nat) (zs : List Int) (w : World) (B : Nat) (hA : Row w B A (zs.map (Value.int .u64))) (hl : zs.length = n) (hn : n ≤ 1000000) :
    ∃ cd, Tryz.f15.body = some cd ∧ cd.wp Tryz.prog (bodyPost Tryz.prog Tryz.f15 fun e w' => e = .returned (.bool (hasZ zs n)) ∧ w' = w) { tmps := #[.slice A n c, .int .u64 0] ++ Array.replicate (Tryz.f15.ntmps - (#[Value.slice A n c, .int .u64 0] : Array Value).size) undef, defers := [] } w := by
  have H := Lib.hid (index_any A n c zs w B hA hl hn)
  clear hA hl
  obtain ⟨q, hq⟩ : ∃ q, q = hasZ zs n := ⟨_, rfl⟩
  rw [← hq] at H ⊢
  clear hq
  refine ⟨_, rfl, ?_⟩
  simp only [Tryz.ntmps15, List.size_toArray, List.length_cons, List.length_nil, Nat.reduceAdd, Nat.reduceSub, Array.replicate_succ, Array.replicate_zero, List.push_toArray, List.append_toArray, List.nil_append, List.cons_append]
  go_wp2_with fail
  refine H.out.mono ?_
  rintro e w1 ⟨⟨r, rfl, hr, h1, h2⟩, rfl⟩
  by_cases h0 : 0 ≤ r
  · have hq : q = true := by rw [← hr]; simpa using h0
    subst hq
    go_wp2
    go_ret
    exact ⟨rfl, rfl⟩
  · have hq : q = false := by rw [← hr]; simpa using h0
    subst hq
    go_wp2
    go_ret
    exact ⟨rfl, rfl⟩
end Go.Proofs.YtafhpbghogdipaaGreatDoor
