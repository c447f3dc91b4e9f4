/- The reference's Intersects: common members; hits; all pairs. -/
import Derived.Test.YtafhpbghogdipaaGreatDoorFam3
import Derived.Test.YtafhpbghogdipaaGreatDoorCanon
namespace Go.Proofs.YtafhpbghogdipaaGreatDoor
open Go.RowKit
set_option maxHeartbeats 4000000

/-- What a and b have in common. -/
def interL (a b : List Int) : List Int := a.filter fun x => b.any fun y => y == x
theorem inter_next (zs ys : List Int) (k : Nat) (h : k < zs.length) : interL (zs.take (k + 1)) ys = interL (zs.take k) ys ++ (if ys.any (fun y => y == zs.getD k 0) = true then [zs.getD k 0] else []) := by
  have hg : zs.getD k 0 = zs[k] := by simp [h]
  rw [hg, List.take_succ_eq_append_getElem h]
  unfold interL
  rw [List.filter_append]
  congr 1
  cases hc : ys.any (fun y => y == zs[k]) <;> simp [hc]
theorem inter_len (zs ys : List Int) (k : Nat) : (interL (zs.take k) ys).length ≤ zs.length := by
  unfold interL
  refine Nat.le_trans (List.length_filter_le _ _) ?_
  simp
  omega
theorem l1Intersect_any (A : Option Addr) (n c : Nat) (zs : List Int) (A2 : Option Addr) (n2 c2 : Nat) (ys : List Int) (w : World) (hA : Row w w.heap.size A (zs.map (Value.int .i64))) (hl : zs.length = n) (hn : n ≤ 1048576)
    (hB : Row w w.heap.size A2 (ys.map (Value.int .i64))) (hl2 : ys.length = n2) (hn2 : n2 ≤ 1048576) :
    Calls Tryz.prog 41 #[.slice A n c, .slice A2 n2 c2] w fun e w' => ∃ v, e = .returned v ∧ OwnI w' w.heap.size v (interL zs ys) ∧ Below w.heap.size w w' := by
  have HA := Lib.hid hA
  have HB := Lib.hid hB
  have HL := Lib.hid hl
  have HL2 := Lib.hid hl2
  clear hA hB hl hl2
  go_enter Tryz.func41, Tryz.ntmps41
  go_wp2_with fail
  have hb0 : Below w.heap.size w (w.alloc (.cells #[] 3)) := (Below.refl _ _).alloc (Nat.le_refl _) _
  have ho0 : OwnI (w.alloc (.cells #[] 3)) w.heap.size (.slice (some ⟨w.heap.size, 0, none⟩) 0 0) [] := owns_empty w _ (Nat.le_refl _)
  have HB2 := Lib.hid hb0
  have HO2 := Lib.hid ho0
  clear hb0 ho0
  go_loopw [5, 6] (fun u i wr => ∃ k : Nat, k ≤ n ∧ i = .int .i64 k ∧ OwnI wr w.heap.size u (interL (zs.take k) ys) ∧ Below w.heap.size w wr) (fun _ i _ => n - (intOf i).toNat)
  case atStart => exact ⟨0, Nat.zero_le _, rfl, by simpa [interL] using HO2.out, HB2.out⟩
  case round =>
    obtain ⟨k, hk, rfl, hown, hB⟩ := hrel
    have HO := Lib.hid hown
    have hsz := hB.size
    clear hown
    by_cases hkn : k < n
    · have i1 : (k : Int) < n := by omega
      have hkl : k < zs.length := by rw [HL.out]; exact hkn
      obtain ⟨b, off, rfl, hblt, h1⟩ := (HA.out.src HL.out) k hkn
      have hc1 : wr.cell? ⟨b, off + k, none⟩ = some (.int .i64 (zs.getD k 0)) := (hB.cell (p := ⟨b, off + k, none⟩) hblt).trans h1
      have HN := Lib.hid (inter_next zs ys k hkl)
      have hlen : (interL (zs.take k) ys).length ≤ 10000000 := by have := inter_len zs ys k; have := HL.out; omega
      clear h1
      generalize zs.getD k 0 = v at hc1 HN
      have hcon := l1Contains_any A2 n2 c2 ys v wr w.heap.size (HB.out.below hB) HL2.out hn2
      obtain ⟨q, hq⟩ : ∃ q, q = ys.any (fun y => y == v) := ⟨_, rfl⟩
      rw [← hq] at hcon HN
      have HC := Lib.hid hcon
      clear hcon hq
      cases q
      · go_wp2_with (first | (go_at_call 70; refine HC.out.mono ?_; rintro e w' ⟨rfl, rfl⟩))
        go_roundw
        case rel => exact ⟨k + 1, by omega, by go_num, by rw [HN.out]; simpa using HO.out, hB⟩
        case measure => simp [intOf]; omega
      · go_wp2_with (first
          | (go_at_call 70; refine HC.out.mono ?_; rintro e w' ⟨rfl, rfl⟩)
          | (at_builtin; refine wpl_append_int rfl _ _ (by rfl) w.heap.size _ _ _ (by rfl) HO.out (by rfl) (by omega) hsz ?_; intro v' w1 hown1 hb1 _ _))
        go_roundw
        case rel => exact ⟨k + 1, by omega, by go_num, by rw [HN.out]; exact hown1, hB.trans hb1⟩
        case measure => simp [intOf]; omega
    · have hfin := HO.out
      rw [List.take_of_length_le (by rw [HL.out]; omega)] at hfin
      have HF := Lib.hid hfin
      clear hfin
      go_wp2
      go_ret
      exact ⟨_, rfl, HF.out, hB⟩

/-- zs meets each of the first k lists. -/
def hitTo (zss : List (List Int)) (zs : List Int) : Nat → Bool
  | 0 => true
  | k + 1 => hitTo zss zs k && !(((interL (rw_ zss k) zs).length : Int) == 0)
theorem hit_no {zss : List (List Int)} {zs : List Int} {k : Nat} : ∀ {n : Nat}, k < n → (((interL (rw_ zss k) zs).length : Int) == 0) = true → hitTo zss zs n = false
  | 0, h, _ => absurd h (by omega)
  | n + 1, h, hm => by
    by_cases e : k = n
    · subst e; simp only [hitTo, hm]; simp
    · simp only [hitTo, hit_no (n := n) (by omega) hm, Bool.false_and]
theorem l3Hits_any (A : Option Addr) (n c : Nat) (zss : List (List Int)) (A2 : Option Addr) (n2 c2 : Nat) (zs : List Int) (w : World) (h : Mat w w.heap.size A n zss) (hz : SzOk zss n) (hB : Row w w.heap.size A2 (zs.map (Value.int .i64))) (hl2 : zs.length = n2) (hn2 : n2 ≤ 1048576) :
    Calls Tryz.prog 24 #[.slice A n c, .slice A2 n2 c2] w fun e w' => e = .returned (.bool (hitTo zss zs n)) ∧ Below w.heap.size w w' := by
  have hn := hz.1
  have HM := Lib.hid h
  have HZ := Lib.hid hz
  have HB := Lib.hid hB
  have HL2 := Lib.hid hl2
  clear h hz hB hl2
  obtain ⟨r, hr⟩ : ∃ r, r = hitTo zss zs n := ⟨_, rfl⟩
  rw [← hr]
  have HR := Lib.hid hr
  clear hr
  go_enter Tryz.func24, Tryz.ntmps24
  go_wp2
  go_loopw [5] (fun i wr => ∃ k : Nat, k ≤ n ∧ i = .int .i64 k ∧ hitTo zss zs k = true ∧ Below w.heap.size w wr) (fun i _ => n - (intOf i).toNat)
  case atStart => exact ⟨0, Nat.zero_le _, rfl, rfl, Below.refl _ _⟩
  case round =>
    obtain ⟨k, hk, rfl, hno, hbw⟩ := hrel
    have HN := Lib.hid hno
    have hsz := hbw.size
    clear hno
    by_cases hkn : k < n
    · have i1 : (k : Int) < n := by omega
      obtain ⟨b, off, C, cc, g⟩ := (HM.out.below hbw).get hkn
      have G := Lib.hid g
      obtain rfl := g.adr
      have hcell := g.cell
      have hc := l1Intersect_any C _ cc (rw_ zss k) A2 n2 c2 zs wr (g.row.more hsz) rfl (HZ.out.2 k hkn) ((HB.out.below hbw).more hsz) HL2.out hn2
      have HX := Lib.hid (show hitTo zss zs (k + 1) = (hitTo zss zs k && !(((interL (rw_ zss k) zs).length : Int) == 0)) from rfl)
      have HY := Lib.hid (fun h => hit_no (zss := zss) (zs := zs) hkn h)
      clear g
      obtain ⟨l, hl⟩ : ∃ l, l = (interL (rw_ zss k) zs).length := ⟨_, rfl⟩
      rw [← hl] at HX HY
      have HC := Lib.hid hc
      have HLn := Lib.hid hl
      clear hc hl
      by_cases hl0 : l = 0
      · have HF : Hid (r = false) := Lib.hid (by rw [HR.out]; exact HY.out (by simp [hl0]))
        go_wp2_with (go_at_call 41; refine HC.out.mono ?_; rintro e w1 ⟨v, rfl, ho, hb1⟩; obtain ⟨A4, c4, hv, _, _, _⟩ := owns_row ho; rw [← HLn.out, hl0] at hv; subst hv; replace hb1 := hbw.trans (hb1.mono hsz); clear ho)
        go_ret
        exact ⟨ret_bool' HF.out.symm, hb1⟩
      · have hl1 : ((l : Nat) : Int) ≠ 0 := by omega
        have hl2' : (((l : Nat) : Int) == 0) = false := by simp; omega
        go_wp2_with (go_at_call 41; refine HC.out.mono ?_; rintro e w1 ⟨v, rfl, ho, hb1⟩; obtain ⟨A4, c4, hv, _, _, _⟩ := owns_row ho; rw [← HLn.out] at hv; subst hv; replace hb1 := hbw.trans (hb1.mono hsz); clear ho)
        go_roundw
        case rel => exact ⟨k + 1, by omega, by go_num, by rw [HX.out, HN.out, hl2']; rfl, hb1⟩
        case measure => simp [intOf]; omega
    · obtain rfl : k = n := by omega
      have HF : Hid (r = true) := Lib.hid (by rw [HR.out]; exact HN.out)
      go_wp2
      go_ret
      exact ⟨ret_bool' HF.out.symm, hbw⟩
end Go.Proofs.YtafhpbghogdipaaGreatDoor
