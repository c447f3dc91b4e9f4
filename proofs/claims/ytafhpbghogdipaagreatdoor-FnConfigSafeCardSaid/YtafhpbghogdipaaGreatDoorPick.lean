/- The reader of a code: spec.l6Open and its method pick. -/
import Derived.Test.YtafhpbghogdipaaGreatDoorOpen
import Derived.WalkSpells
import Derived.WalkLawsBesides
import Derived.Deep.QuietTactic
import Derived.BigQuiet
import Derived.Deep.Draws
import Derived.IntWalk
import Derived.Laws.BitsAllLaws
import Derived.Laws.BitsLemmas
import Derived.Outline
import Derived.Handy
namespace Go.Proofs.YtafhpbghogdipaaGreatDoor
open Go.RowKit

theorem ofInt_i64 (a : Nat) (ha : a < 9223372036854775808) : (BitVec.ofInt 64 (a : Int)).toNat = a := by
  rw [BitVec.ofInt_natCast, BitVec.toNat_ofNat]; exact Nat.mod_eq_of_lt (by omega)
theorem i64_xor_nat (a b : Nat) (ha : a < 9223372036854775808) (hb : b < 9223372036854775808) : bits .xor .i64 (a : Int) (b : Int) = ((a ^^^ b : Nat) : Int) := by
  have hx : a ^^^ b < 2 ^ 63 := Nat.xor_lt_two_pow (by omega) (by omega)
  show IntKind.i64.wrap ((BitVec.ofInt 64 (a : Int) ^^^ BitVec.ofInt 64 (b : Int)).toNat : Int) = _
  rw [BitVec.toNat_xor, ofInt_i64 a ha, ofInt_i64 b hb, IntKind.wrap_i64]
  omega

/-- Block R is a reader of the code zs, which lies at A below block B, itself at R or below it; its place is p. -/
structure Rdr (w : World) (R B : Nat) (p : Int) : Prop where
  ex : ∃ (A : Option Addr) (n c : Nat) (zs : List Int), w.heap[R]? = some (.cells #[.slice A n c, .int .i64 p] 59 (0, 0)) ∧ Row w B A (zs.map (Value.int .u8)) ∧ zs.length = n ∧ (∀ z ∈ zs, 0 ≤ z ∧ z ≤ 255) ∧ n ≤ 2000
  lo : 0 ≤ p
  le : B ≤ R

section
variable {w w' : World} {R B : Nat} {p : Int}
theorem Rdr.lt (h : Rdr w R B p) : R < w.heap.size := by
  obtain ⟨A, n, c, zs, hR, _⟩ := h.ex
  rcases Nat.lt_or_ge R w.heap.size with hlt | hge
  · exact hlt
  · rw [Array.getElem?_eq_none hge] at hR; cases hR
theorem Rdr.keep (h : Rdr w R B p) (hb : Below (R + 1) w w') : Rdr w' R B p := by
  obtain ⟨A, n, c, zs, hR, hrow, hr⟩ := h.ex
  exact ⟨⟨A, n, c, zs, (hb.block R (by omega)).trans hR, hrow.below (hb.mono (by have := h.le; omega)), hr⟩, h.lo, h.le⟩
theorem Rdr.drew (h : Rdr w R B p) : Rdr w.drew R B p := h.keep ((Below.refl _ _).drew)
theorem Rdr.drewN (h : Rdr w R B p) (k : Nat) : Rdr (w.drewN k) R B p := h.keep ⟨rfl, rfl, rfl, Nat.le_refl _, fun _ _ => rfl⟩
theorem Rdr.alloc (h : Rdr w R B p) (o : Obj) : Rdr (w.alloc o) R B p := h.keep ((Below.refl _ _).alloc h.lt _)
theorem Rdr.setCell {q : Addr} (hq : R < q.block) (h : Rdr w R B p) (u : Value) : Rdr (w.setCell q u) R B p := h.keep ((Below.refl _ _).setCell hq _)
theorem Rdr.next (h : Rdr w R B p) : Rdr (w.setCell ⟨R, 1, none⟩ (.int .i64 (p + 1))) R B (p + 1) := by
  obtain ⟨A, n, c, zs, hR, hrow, hr⟩ := h.ex
  refine ⟨⟨A, n, c, zs, ?_, hrow.setCell h.le _, hr⟩, by have := h.lo; omega, h.le⟩
  simp [World.setCell, Array.getElem?_modify, hR]
theorem Rdr.setLow {q : Addr} (h1 : B ≤ q.block) (h2 : q.block < R ∨ R < q.block) (h : Rdr w R B p) (u : Value) : Rdr (w.setCell q u) R B p := by
  obtain ⟨A, n, c, zs, hR, hrow, hr⟩ := h.ex
  exact ⟨⟨A, n, c, zs, (Below.heap_setCell w q u R (by omega)).trans hR, hrow.setCell h1 _, hr⟩, h.lo, h.le⟩
theorem Rdr.new (w : World) (B : Nat) (hB : B ≤ w.heap.size) (A : Option Addr) (n c : Nat) (zs : List Int) (hrow : Row w B A (zs.map (Value.int .u8))) (hn : zs.length = n) (hz : ∀ z ∈ zs, 0 ≤ z ∧ z ≤ 255) (h2 : n ≤ 2000) :
    Rdr (w.alloc (.cells #[.slice A n c, .int .i64 0] 59)) w.heap.size B 0 := by
  refine ⟨⟨A, n, c, zs, heap_alloc_new w _, hrow.alloc hB _, hn, hz, h2⟩, by omega, hB⟩
theorem grown_drewN {a w : World} {row : Option Nat} (h : a.grownBy w row) (n : Nat) : a.grownBy (w.drewN n) row := ⟨h.os, h.tape, h.output, h.size, h.block⟩
theorem grown_drew {a w : World} {row : Option Nat} (h : a.grownBy w row) : a.grownBy w.drew row := ⟨h.os, h.tape, h.output, h.size, h.block⟩
theorem grown_alloc {a w : World} {row : Option Nat} (h : a.grownBy w row) (o : Obj) : a.grownBy (w.alloc o) row :=
  ⟨h.os, h.tape, h.output, Nat.le_trans h.size (by simp), fun i hi hne => (Below.heap_alloc w o i (Nat.lt_of_lt_of_le hi h.size)).trans (h.block i hi hne)⟩
theorem grown_setCell {a w : World} {g : Nat} (h : a.grownBy w (some g)) {p : Addr} (hp : p.block = g ∨ a.heap.size ≤ p.block) (u : Value) : a.grownBy (w.setCell p u) (some g) :=
  ⟨h.os, h.tape, h.output, by simpa [World.setCell] using h.size, fun i hi hne => (Below.heap_setCell w p u i (by
    rintro rfl
    rcases hp with hp | hp
    · exact hne (by rw [hp])
    · omega)).trans (h.block i hi hne)⟩
theorem below_drewN {B : Nat} {a w : World} (h : Below B a w) (n : Nat) : Below B a (w.drewN n) := ⟨h.os, h.tape, h.output, h.size, h.block⟩
/-- What is below B stays where only block g, at B or above it, and new blocks have turned. -/
theorem below_grown {B g : Nat} {a w w' : World} (h : Below B a w) (hg : w.grownBy w' (some g)) (hB : B ≤ w.heap.size) (hgB : B ≤ g) : Below B a w' :=
  h.grown hg hB (fun k hk => by cases hk; exact hgB)
end

theorem l6Open_any (A : Option Addr) (n c : Nat) (zs : List Int) (w w0 : World) (h : Ints .u8 w0 A n c zs) (hbel : Below w0.heap.size w0 w) :
    Calls Tryz.prog 9 #[.slice A n c] w fun e w' => e = .returned (.pointer (some ⟨w.heap.size, 0, none⟩)) ∧ ∃ n' c', w' = w.alloc (.cells #[.slice A n' c', .int .i64 0] 59) ∧ Rdr w' w.heap.size w0.heap.size 0 := by
  have hz : ∀ z ∈ zs, 0 ≤ z ∧ z ≤ 255 := fun z hz => bounds_u8 (h.fit z hz)
  obtain ⟨hrow0, hl, hcap, hmax, _⟩ := h
  have hrow := hrow0.below hbel
  have hB := hbel.size
  clear hrow0 hbel
  unfold maxLen at hmax
  by_cases h1 : 2000 < n
  · have R1 := Rdr.new w w0.heap.size hB A 2000 c (zs.take 2000) (by rw [List.map_take]; exact hrow.take 2000) (by simp; omega) (fun z hz' => hz z (List.mem_of_mem_take hz')) (by omega)
    obtain ⟨b, off, rfl, _, _⟩ := hrow (by intro h; simp at h; simp [h] at hl; omega)
    clear hrow hz hB
    go_enter Tryz.func9, Tryz.ntmps9
    go_wp2
    go_ret
    exact ⟨rfl, _, _, rfl, R1⟩
  · have R1 := Rdr.new w w0.heap.size hB A n c zs hrow hl hz (by omega)
    clear hrow hz hB
    go_enter Tryz.func9, Tryz.ntmps9
    go_wp2
    go_ret
    exact ⟨rfl, _, _, rfl, R1⟩

theorem pick_any (R : Nat) {B : Nat} (p m : Int) (w : World) (h : Rdr w R B p) (hp : p ≤ 50000) :
    Calls Tryz.prog 20 #[.pointer (some ⟨R, 0, none⟩), .int .i64 m] w fun e w' => ∃ v : Int, e = .returned (.int .i64 v) ∧ 0 ≤ v ∧ (1 ≤ m → v < m) ∧ ∃ k, w' = (w.setCell ⟨R, 1, none⟩ (.int .i64 (p + 1))).drewN k := by
  obtain ⟨⟨A, n, c, zs, hR, hrow, hn, hz, hn2⟩, hlo, hle⟩ := h
  have c0 : w.cell? ⟨R, 0, none⟩ = some (.slice A n c) := by simp [World.cell?, hR]
  have c1 : w.cell? ⟨R, 1, none⟩ = some (.int .i64 p) := by simp [World.cell?, hR]
  have f1 : w.frozen? ⟨R, 1, none⟩ = false := by simp [World.frozen?, hR]
  by_cases h1 : m < 1
  · go_enter Tryz.func20, Tryz.ntmps20
    go_wp2
    go_ret
    exact ⟨0, rfl, by omega, by omega, 0, rfl⟩
  by_cases h2 : n = 0
  · subst h2
    go_enter Tryz.func20, Tryz.ntmps20
    go_wp2
    go_ret
    exact ⟨0, rfl, by omega, by omega, 0, rfl⟩
  by_cases h3 : p < n
  · obtain ⟨b, off, rfl, hb, hc⟩ := hrow (by intro h; simp at h; simp [h] at hn; omega)
    have hbR : b ≠ R := by omega
    have hbR2 : b < R := by omega
    have hk : p.toNat < zs.length := by omega
    have hc0 := hc p.toNat (.int .u8 zs[p.toNat]) (by simp [hk])
    have hz0 := hz zs[p.toNat] (List.getElem_mem hk)
    clear hc
    generalize zs[p.toNat] = z at *
    obtain ⟨z0, z1⟩ := hz0
    have hn0 : ((n : Int) == 0) = false := by simp; omega
    go_enter Tryz.func20, Tryz.ntmps20
    go_wp2
    go_ret
    exact ⟨z % m, rfl, Int.emod_nonneg _ (by omega), Int.emod_lt_of_pos _ (by omega), 0, rfl⟩
  · obtain ⟨b, off, rfl, hb, hc⟩ := hrow (by intro h; simp at h; simp [h] at hn; omega)
    have a0 : 0 ≤ p % n := Int.emod_nonneg _ (by omega)
    have a1 : p % n < n := Int.emod_lt_of_pos _ (by omega)
    have b0 : 0 ≤ (p * 7 + 3) % n := Int.emod_nonneg _ (by omega)
    have b1 : (p * 7 + 3) % n < n := Int.emod_lt_of_pos _ (by omega)
    have hk : (p % n).toNat < zs.length := by omega
    have hk' : ((p * 7 + 3) % n).toNat < zs.length := by omega
    have hc0 := hc (p % n).toNat (.int .u8 zs[(p % n).toNat]) (by simp [hk])
    have hc1 := hc ((p * 7 + 3) % n).toNat (.int .u8 zs[((p * 7 + 3) % n).toNat]) (by simp [hk'])
    have hz0 := hz zs[(p % n).toNat] (List.getElem_mem hk)
    have hz1 := hz zs[((p * 7 + 3) % n).toNat] (List.getElem_mem hk')
    clear hc
    generalize zs[(p % n).toNat] = z at *
    generalize zs[((p * 7 + 3) % n).toNat] = z' at *
    obtain ⟨z0, z1⟩ := hz0
    obtain ⟨z2, z3⟩ := hz1
    have hn0 : ((n : Int) == 0) = false := by simp; omega
    have q0 : 0 ≤ p / n := Int.ediv_nonneg hlo (by omega)
    have q1 : p / n ≤ p := Int.ediv_le_self _ hlo
    have hbR : b ≠ R := by omega
    have hbR2 : b < R := by omega
    have d1 : Int.tmod p n = p % n := Int.tmod_eq_emod_of_nonneg hlo
    have d2 : Int.tmod (p * 7 + 3) n = (p * 7 + 3) % n := Int.tmod_eq_emod_of_nonneg (by omega)
    have d3 : Int.tdiv p n = p / n := Int.tdiv_eq_ediv_of_nonneg hlo
    have e1 : IntKind.i64.wrap (p * 7) = p * 7 := IntWalk.i64_in _ (by omega)
    have e2 : IntKind.i64.wrap (p * 7 + 3) = p * 7 + 3 := IntWalk.i64_in _ (by omega)
    have e3 : IntKind.i64.wrap (z * 131) = z * 131 := IntWalk.i64_in _ (by omega)
    have e4 : IntKind.i64.wrap (z' * 1117) = z' * 1117 := IntWalk.i64_in _ (by omega)
    have e5 : IntKind.i64.wrap (z * 131 + z' * 1117) = z * 131 + z' * 1117 := IntWalk.i64_in _ (by omega)
    have e6 : IntKind.i64.wrap (p * 29) = p * 29 := IntWalk.i64_in _ (by omega)
    have e7 : IntKind.i64.wrap (z * 131 + z' * 1117 + p * 29) = z * 131 + z' * 1117 + p * 29 := IntWalk.i64_in _ (by omega)
    have e8 : IntKind.i64.wrap (p / n) = p / n := IntWalk.i64_in _ (by omega)
    have e9 : IntKind.i64.wrap (p / n * 53) = p / n * 53 := IntWalk.i64_in _ (by omega)
    have e10 : IntKind.i64.wrap (z * 131 + z' * 1117 + p * 29 + p / n * 53) = z * 131 + z' * 1117 + p * 29 + p / n * 53 := IntWalk.i64_in _ (by omega)
    have hs0 : 0 ≤ z * 131 + z' * 1117 + p * 29 + p / n * 53 := by omega
    have hs1 : z * 131 + z' * 1117 + p * 29 + p / n * 53 < 16777216 := by omega
    obtain ⟨y, y0, y1, hy⟩ : ∃ y : Int, 0 ≤ y ∧ y < 16777216 ∧ bits .xor .i64 (z * 131 + z' * 1117 + p * 29 + p / n * 53) ((z * 131 + z' * 1117 + p * 29 + p / n * 53) / 64) = y := by
      obtain ⟨k, hk⟩ := Int.eq_ofNat_of_zero_le hs0
      rw [hk] at hs1 ⊢
      have h64 : (k : Int) / 64 = ((k / 64 : Nat) : Int) := by omega
      rw [h64, i64_xor_nat k (k / 64) (by omega) (by omega)]
      exact ⟨_, by omega, by have := Nat.xor_lt_two_pow (n := 24) (x := k) (y := k / 64) (by omega) (by omega); omega, rfl⟩
    clear hrow hR hz hn hk hk'
    go_enter Tryz.func20, Tryz.ntmps20
    go_wp2
    go_quiet (fail)
    clear e1 e2 e3 e4 e5 e6 e7 e8 e9 e10 d1 d2 d3
    go_wp2
    go_ret
    exact ⟨y % m, rfl, Int.emod_nonneg y (by omega), fun _ => Int.emod_lt_of_pos y (by omega), _, rfl⟩
end Go.Proofs.YtafhpbghogdipaaGreatDoor
