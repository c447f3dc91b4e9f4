/- The draws of expressions: some text of few bytes. -/
import Derived.Test.YtiepoadnncnbkaaSq3
import Derived.Laws.IdiomStrings
namespace Go.Proofs.Ytiepoadnncnbkaa
open Go.RowKit
set_option maxHeartbeats 4000000

theorem heap_lt {w : World} {b : Nat} {o : Obj} (h : w.heap[b]? = some o) : b < w.heap.size := by
  rcases Nat.lt_or_ge b w.heap.size with hlt | hge
  · exact hlt
  · rw [Array.getElem?_eq_none hge] at h; cases h
theorem grown_below' {a w w' : World} {row : Option Nat} {K : Nat} (h : a.grownBy w row) (hb : Below K w w') (hK : a.heap.size ≤ K) : a.grownBy w' row :=
  ⟨hb.os.trans h.os, hb.tape.trans h.tape, hb.output.trans h.output, Nat.le_trans h.size hb.size, fun i hi hne => (hb.block i (by omega)).trans (h.block i hi hne)⟩
/-- n strings, each of lo to hi bytes. -/
def StrArr (arr : Array Value) (n lo hi : Nat) : Prop := arr.size = n ∧ ∀ k, k < n → ∃ str, arr[k]? = some (.string str) ∧ lo ≤ str.size ∧ str.size ≤ hi
/-- A text was drawn by the reader in block R. -/
def DrS (R B : Nat) (q : Int) (lo hi : Nat) (w : World) (e : Ending) (w' : World) : Prop := ∃ str : ByteArray, e = .returned (.string str) ∧ (lo ≤ str.size ∧ str.size ≤ hi) ∧ Rdr w' R B q ∧ w.grownBy w' (some R)
theorem blk_kept {w w' : World} {R b : Nat} {o : Obj} (h : w.heap[b]? = some o) (hg : w.grownBy w' (some R)) (hb : b ≠ R) : w'.heap[b]? = some o :=
  (hg.block b (heap_lt h) (by intro e; cases e; exact hb rfl)).trans h
theorem arr_cell {w : World} {b k n lo hi : Nat} {arr : Array Value} {T : TypeId} (h : w.heap[b]? = some (.cells arr T (0, 0))) (hs : StrArr arr n lo hi) (hk : k < n) : ∃ str, w.cell? ⟨b, k, none⟩ = some (.string str) ∧ lo ≤ str.size ∧ str.size ≤ hi := by
  obtain ⟨str, h1, h2⟩ := hs.2 k hk
  exact ⟨str, by rw [cell_of_row w b k arr T (0, 0) h]; exact h1, h2⟩
theorem of_any (R : Nat) {B : Nat} (q : Int) (w : World) (hR : Rdr w R B q) (hq : q ≤ 49000) (b n lo hi : Nat) (arr : Array Value) (T : TypeId) (hb : w.heap[b]? = some (.cells arr T (0, 0))) (hbR : b ≠ R) (hs : StrArr arr n lo hi) (h1 : 1 ≤ n) (h2 : n ≤ 1000) :
    Calls Try.prog 65 #[.pointer (some ⟨R, 0, none⟩), .slice (some ⟨b, 0, none⟩) n n] w (DrS R B (q + 1) lo hi w) := by
  have HB := Lib.hid hb
  have HS := Lib.hid hs
  clear hb hs
  go_enter Try.func65, Try.ntmps65
  go_wp2_with fail
  (apply Calls.mono; focus (apply pick_abs; exact hR; omega)); rintro e wp ⟨v, rfl, hv0, hv1, hrd, hsz, hcp, hfp, hgp⟩
  replace hv1 := hv1 (by omega)
  obtain ⟨k, rfl⟩ := Int.eq_ofNat_of_zero_le hv0
  have hkn : k < n := by omega
  obtain ⟨str, hc, hlo, hhi⟩ := arr_cell HB.out HS.out hkn
  have hc2 : wp.cell? ⟨b, k, none⟩ = some (.string str) := (hcp b k hbR).trans hc
  have HR2 := Lib.hid hrd
  have HG2 := Lib.hid hgp
  clear hcp hfp hgp hrd hsz hc
  go_wp2_with fail
  go_ret
  exact ⟨str, rfl, ⟨hlo, hhi⟩, HR2.out, HG2.out⟩

@[go_sem] theorem sz1 (x : UInt8) : (⟨#[x]⟩ : ByteArray).size = 1 := rfl
theorem l6Dec_small (n : Int) (h0 : 0 ≤ n) (h10 : n < 10) (w : World) : Calls Try.prog 71 #[.int .i64 n] w fun e w' => ∃ str : ByteArray, e = .returned (.string str) ∧ str.size = 1 ∧ Below w.heap.size w w' := by
  have m1 : ¬ n < -9223372036854775807 := by omega
  have m2 : ¬ n < 0 := by omega
  have m3 : IntKind.u8.wrap (48 + n) = 48 + n := by
    have : IntKind.u8.wrap (48 + n) = (48 + n) % 256 := by first | rfl | simp [IntKind.wrap]
    omega
  obtain ⟨x, hx⟩ : ∃ x : UInt8, ((x.toNat : Nat) : Int) = 48 + n := ⟨UInt8.ofNat (48 + n).toNat, by simp; omega⟩
  have hconv : ∀ W : World, (convert 33 9 (.slice (some ⟨W.heap.size, 0, none⟩) 1 1)).run Try.prog (W.alloc (.cells #[.int .u8 (48 + n)] 5)) = .ok (.string ⟨#[x]⟩) (W.alloc (.cells #[.int .u8 (48 + n)] 5)) := fun W => by
    have := run_convert_bytes_back (P := Try.prog) (W.alloc (.cells #[.int .u8 (48 + n)] 5)) 33 9 5 ⟨W.heap.size, 0, none⟩ 1 [x] Try.underlying33 Try.underlying5 Try.underlying9 (fun j hj => by
      have hj0 : j = 0 := by simpa using hj
      subst hj0
      have := cell_of_row (W.alloc (.cells #[.int .u8 (48 + n)] 5)) W.heap.size 0 #[.int .u8 (48 + n)] 5 (0, 0) (heap_alloc_new W _)
      simp [Addr.add, this, hx])
    exact this
  go_enter Try.func71, Try.ntmps71
  go_wp2
  go_ret
  exact ⟨_, rfl, rfl, (Below.refl _ _).alloc (Nat.le_refl _) _⟩

theorem l91Leaf_any (R : Nat) {B : Nat} (q : Int) (w : World) (hR : Rdr w R B q) (hq : q ≤ 49000) : Calls Try.prog 64 #[.pointer (some ⟨R, 0, none⟩)] w (DrS R B (q + 1) 1 1 w) := by
  have hlt := hR.lt
  go_enter Try.func64, Try.ntmps64
  go_wp2_with fail
  refine (of_any R q _ (hR.alloc _) hq w.heap.size 6 1 1 _ _ (heap_alloc_new w _) (by omega) ?_ (by omega) (by omega)).mono ?_
  · exact ⟨rfl, fun k hk => match k, hk with | 0, _ => ⟨_, rfl, by decide, by decide⟩ | 1, _ => ⟨_, rfl, by decide, by decide⟩ | 2, _ => ⟨_, rfl, by decide, by decide⟩ | 3, _ => ⟨_, rfl, by decide, by decide⟩ | 4, _ => ⟨_, rfl, by decide, by decide⟩ | 5, _ => ⟨_, rfl, by decide, by decide⟩ | (k + 6), hk => absurd hk (by omega)⟩
  rintro e w1 ⟨str, rfl, hs, hrd, hg⟩
  have HS := Lib.hid hs
  have HR2 := Lib.hid hrd
  have HG := Lib.hid (grown_trans (grown_alloc (World.grownBy.refl w (some R)) _) hg)
  clear hs hrd hg
  go_wp2_with fail
  go_ret
  exact ⟨str, rfl, HS.out, HR2.out, HG.out⟩

theorem l91List_any (R : Nat) {B : Nat} (q : Int) (w : World) (hR : Rdr w R B q) (hq : q ≤ 49000) (b n lo hi : Nat) (arr : Array Value) (T : TypeId) (hb : w.heap[b]? = some (.cells arr T (0, 0))) (hbR : b ≠ R) (hs : StrArr arr n lo hi) (h1 : 1 ≤ n) (h3 : n ≤ 3) (hhi : hi ≤ 20) :
    Calls Try.prog 66 #[.pointer (some ⟨R, 0, none⟩), .slice (some ⟨b, 0, none⟩) n n] w (DrS R B (q + 1) 3 (3 + n * (hi + 1)) w) := by
  have HB := Lib.hid hb
  have HS := Lib.hid hs
  clear hb hs
  go_enter Try.func66, Try.ntmps66
  go_wp2_with fail
  (apply Calls.mono; focus (apply pick_abs; exact hR; omega)); rintro e wp ⟨v, rfl, hv0, hv1, hrd, hsz, hcp, hfp, hgp⟩
  replace hv1 := hv1 (by omega)
  have HB2 := Lib.hid (blk_kept HB.out hgp hbR)
  have HG2 := Lib.hid hgp
  have HR2 := Lib.hid hrd
  clear hcp hfp hgp hrd hsz
  go_wp2_with fail
  refine (l6Dec_small (1 + v) (by omega) (by omega) wp).mono ?_
  rintro e w2 ⟨d, rfl, hd, hb2⟩
  have HB3 := Lib.hid ((hb2.block b (heap_lt HB2.out)).trans HB2.out)
  have HG3 := Lib.hid (grown_below' HG2.out hb2 HG2.out.size)
  have HR3 := Lib.hid (Rdr.keepB hb2 HR2.out)
  clear hb2
  go_wp2_with fail
  go_loop [5, 6] (fun u i => ∃ (k : Nat) (str : ByteArray), k ≤ n ∧ i = .int .i64 k ∧ u = .string str ∧ 2 ≤ str.size ∧ str.size ≤ 2 + k * (hi + 1)) (fun _ i => n - (intOf i).toNat)
  case atStart => exact ⟨0, _, Nat.zero_le _, rfl, rfl, by simp [hd, sz1], by simp [hd, sz1]⟩
  case round =>
    obtain ⟨k, str, hk, rfl, rfl, hl, hh⟩ := hrel
    by_cases hkn : k < n
    · have i1 : (k : Int) < n := by omega
      obtain ⟨s2, hc, hlo2, hhi2⟩ := arr_cell HB3.out HS.out hkn
      have hmul : (k + 1) * (hi + 1) = k * (hi + 1) + (hi + 1) := Nat.succ_mul _ _
      have HM := Lib.hid hmul
      have HL := Lib.hid (And.intro hl hh)
      have hkh : k * (hi + 1) ≤ 3 * 21 := Nat.mul_le_mul (by omega) (by omega)
      have hs1 : ¬ 9223372036854775807 < str.size + s2.size := by omega
      have hs2 : ¬ 9223372036854775807 < str.size + 1 := by omega
      have hs3 : ¬ 9223372036854775807 < str.size + 1 + s2.size := by omega
      clear hmul hl hh hkh
      by_cases hk0 : k = 0
      · have hd0 : ¬ (0 : Int) < k := by omega
        clear hk0
        go_wp2
        go_round
        case rel => exact ⟨k + 1, _, by omega, by go_num, rfl, by have := HL.out; simp; omega, by have := HL.out; have := HM.out; simp; omega⟩
        case measure => simp [intOf]; omega
      · have hd0 : (0 : Int) < k := by omega
        clear hk0
        go_wp2
        go_round
        case rel => exact ⟨k + 1, _, by omega, by go_num, rfl, by have := HL.out; simp [sz1]; omega, by have := HL.out; have := HM.out; simp [sz1]; omega⟩
        case measure => simp [intOf]; omega
    · obtain rfl : k = n := by omega
      have HL := Lib.hid (And.intro hl hh)
      have hkh : k * (hi + 1) ≤ 3 * 21 := Nat.mul_le_mul (by omega) (by omega)
      have hs2 : ¬ 9223372036854775807 < str.size + 1 := by omega
      clear hl hh hkh
      go_wp2
      go_ret
      exact ⟨_, rfl, ⟨by have := HL.out; simp [sz1]; omega, by have := HL.out; simp [sz1]; omega⟩, HR3.out, HG3.out⟩
end Go.Proofs.Ytiepoadnncnbkaa
