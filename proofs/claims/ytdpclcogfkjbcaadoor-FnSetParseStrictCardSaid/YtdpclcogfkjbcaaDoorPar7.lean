/- The law FnSetParseStrict: its walk. -/
import Derived.Test.YtdpclcogfkjbcaaDoorPar6
import Derived.Laws.IdiomStrings
import Derived.Deep.RegionHeld3
namespace Go.Proofs.YtdpclcogfkjbcaaDoor
open Go.RowKit
set_option maxHeartbeats 8000000
set_option linter.unusedVariables false

theorem heap_ltP {w : World} {b : Nat} {o : Obj} (h : w.heap[b]? = some o) : b < w.heap.size := by
  rcases Nat.lt_or_ge b w.heap.size with hlt | hge
  · exact hlt
  · rw [Array.getElem?_eq_none hge] at h; cases h
/-- n strings, each of lo to hi bytes. -/
def StrArr (arr : Array Value) (n lo hi : Nat) : Prop := arr.size = n ∧ ∀ k, k < n → ∃ str, arr[k]? = some (.string str) ∧ lo ≤ str.size ∧ str.size ≤ hi
/-- A text was drawn by the reader in block R. -/
def DrS (R B : Nat) (q : Int) (lo hi : Nat) (w : World) (e : Ending) (w' : World) : Prop := ∃ str : ByteArray, e = .returned (.string str) ∧ (lo ≤ str.size ∧ str.size ≤ hi) ∧ Rdr w' R B q ∧ w.grownBy w' (some R)
theorem blk_kept {w w' : World} {R b : Nat} {o : Obj} (h : w.heap[b]? = some o) (hg : w.grownBy w' (some R)) (hb : b ≠ R) : w'.heap[b]? = some o :=
  (hg.block b (heap_ltP h) (by intro e; cases e; exact hb rfl)).trans h
theorem arr_cell {w : World} {b k n lo hi : Nat} {arr : Array Value} {T : TypeId} (h : w.heap[b]? = some (.cells arr T (0, 0))) (hs : StrArr arr n lo hi) (hk : k < n) : ∃ str, w.cell? ⟨b, k, none⟩ = some (.string str) ∧ lo ≤ str.size ∧ str.size ≤ hi := by
  obtain ⟨str, h1, h2⟩ := hs.2 k hk
  exact ⟨str, by rw [cell_of_row w b k arr T (0, 0) h]; exact h1, h2⟩
theorem of_any (R : Nat) {B : Nat} (q : Int) (w : World) (hR : Rdr w R B q) (hq : q ≤ 49000) (b n lo hi : Nat) (arr : Array Value) (T : TypeId) (hb : w.heap[b]? = some (.cells arr T (0, 0))) (hbR : b ≠ R) (hs : StrArr arr n lo hi) (h1 : 1 ≤ n) (h2 : n ≤ 1000) :
    Calls Tryd.prog 30 #[.pointer (some ⟨R, 0, none⟩), .slice (some ⟨b, 0, none⟩) n n] w (DrS R B (q + 1) lo hi w) := by
  have HB := Lib.hid hb
  have HS := Lib.hid hs
  clear hb hs
  go_enter Tryd.func30, Tryd.ntmps30
  go_wp2_with fail
  (apply Calls.mono; focus (apply pick_abs; exact hR; omega)); rintro e wp ⟨v, rfl, hv0, hv1, hrd, hsz, hcp, hfp, hgp⟩
  replace hv1 := hv1 (by omega)
  obtain ⟨k, rfl⟩ := Int.eq_ofNat_of_zero_le hv0
  have hkn : k < n := by omega
  obtain ⟨str, hc, hlo, hhi⟩ := arr_cell HB.out HS.out hkn
  have hc2 : wp.cell? ⟨b, k, none⟩ = some (.string str) := (hcp b k hbR).trans hc
  have HR2 := Lib.hid hrd
  have HG2 := Lib.hid hgp
  clear hcp hfp hgp hrd hsz hc
  go_wp2_with fail
  go_ret
  exact ⟨str, rfl, ⟨hlo, hhi⟩, HR2.out, HG2.out⟩


theorem fmtO_size (zs : List Int) : (fmtO zs).size ≤ 100 := by
  unfold fmtO
  cases hs : setB zs
  · rw [if_neg (by simp)]
    decide
  · rw [if_pos rfl]
    exact fmtS_size hs
theorem drawParse_any (A : Option Addr) (n c : Nat) (zs0 : List Int) (w : World) (h : Ints .u8 w A n c zs0) : Calls Tryd.prog 16 #[.slice A n c] w fun e w' => ∃ t : ByteArray, e = .returned (.string t) ∧ t.size ≤ 201 ∧ Below w.heap.size w w' := by
  go_enter Tryd.func16, Tryd.ntmps16
  go_wp2_with fail
  (refine (l6Open_any A n c zs0 _ w h (by (repeat (first | (with_reducible exact Below.refl _ _) | (with_reducible assumption) | (with_reducible refine below_drewN ?_ _) | (with_reducible refine Below.drew ?_) | (with_reducible refine Below.alloc ?_ (by (first | omega | (show _ < _; omega) | (simp; omega) | (simp; done))) _) | (with_reducible refine Below.setCell ?_ (by (first | omega | (show _ < _; omega) | (simp; omega) | (simp; done))) _) | (with_reducible refine Below.trans ?_ (Below.mono (by with_reducible assumption) (by (first | omega | (show _ < _; omega) | (simp; omega) | (simp; done))))) | (with_reducible refine below_grown ?_ (by with_reducible assumption) (by (first | omega | (show _ < _; omega) | (simp; omega) | (simp; done))) (by (first | omega | (show _ < _; omega) | (simp; omega) | (simp; done)))))))).mono ?_; rintro e w1 ⟨rfl, n', c', hw1, hrd⟩; have hbw1 : Below w.heap.size w w1 := (by rw [hw1]; exact (Below.refl _ _).alloc (Nat.le_refl _) _); have hsw1 : w.heap.size + 1 ≤ w1.heap.size := (by rw [hw1]; simp); clear hw1)
  obtain ⟨R, hRR⟩ : ∃ R, w.heap.size = R := ⟨_, rfl⟩
  rw [hRR] at hrd hbw1 hsw1 ⊢
  have HRR := Lib.hid hRR
  clear hRR
  go_wp2_with fail
  refine (l91Set_any R 0 _ hrd (by omega)).mono ?_
  rintro e w2 ⟨A', n', c', zs, rfl, hl, hn, hrow, ⟨q', hq', hr2⟩, hg⟩
  have HB2 := Lib.hid (below_grown hbw1 hg (by omega) (by omega))
  have hz2 := hg.size
  have HF := Lib.hid (specFormat_any A' n' c' zs w2 hrow hl (by omega))
  have hsz := fmtO_size zs
  have HR2 := Lib.hid hr2
  clear hg hrd hr2 hrow hl
  generalize fmtO zs = str at HF hsz
  go_wp2_with fail
  refine HF.out.mono ?_
  rintro e w3 ⟨rfl, hb3⟩
  have hz3 := hb3.size
  have HB3 := Lib.hid (HB2.out.trans (hb3.mono (by omega)))
  have HR3 := Lib.hid (HR2.out.keep (hb3.mono (by omega)))
  clear hb3
  go_wp2_with fail
  (apply Calls.mono; focus (apply pick_abs; exact HR3.out; omega)); rintro e wa ⟨xa, rfl, hx0a, hx1a, hrda, hsza, hcpa, hfpa, hgpa⟩
  replace hx1a := hx1a (by omega)
  obtain ⟨k, rfl⟩ := Int.eq_ofNat_of_zero_le hx0a
  have HRa := Lib.hid hrda
  have hza := hgpa.size
  have HBa := Lib.hid (below_grown HB3.out hgpa (by omega) (by omega))
  clear hcpa hfpa hsza hrda hgpa
  go_wp2_with fail
  (apply Calls.mono; focus (apply pick_abs; exact HRa.out; omega)); rintro e wb ⟨xb, rfl, hx0b, hx1b, hrdb, hszb, hcpb, hfpb, hgpb⟩
  have HRb := Lib.hid hrdb
  have hzb := hgpb.size
  have HBb := Lib.hid (below_grown HBa.out hgpb (by omega) (by omega))
  clear hcpb hfpb hszb hrdb hgpb
  have n0 : (0 : Int) ≤ k := by omega
  have n1 : (k : Int) ≤ str.size := by omega
  have e1 : (str.extract 0 k).size = k := by simp [ByteArray.size_extract]; omega
  have e2 : (str.extract k str.size).size = str.size - k := by simp [ByteArray.size_extract]
  obtain ⟨p1, hp1⟩ : ∃ p, str.extract 0 k = p := ⟨_, rfl⟩
  obtain ⟨p2, hp2⟩ : ∃ p, str.extract k str.size = p := ⟨_, rfl⟩
  rw [hp1] at e1
  rw [hp2] at e2
  have E1 := Lib.hid e1
  have E2 := Lib.hid e2
  have hp1s : p1.size ≤ 100 := by omega
  have hp2s : p2.size ≤ 100 := by omega
  by_cases hva : xb = 0
  · subst hva
    clear e1 e2
    go_wp2_with fail
    go_ret
    exact ⟨_, rfl, by omega, by rw [HRR.out]; exact HBb.out⟩
  · by_cases hvb : xb = 1
    · subst hvb
      have HZ := Lib.hid (show R + 1 ≤ wb.heap.size by omega)
      clear e1 e2 hz2 hz3 hza hzb
      go_wp2_with fail
      go_region_held3 (fun _ => True) (trivial) ((go_at_call 30; (apply Calls.mono; focus (apply of_any (lo := 1) (hi := 1) (n := 4) R _ _ (Rdr.alloc (Rdr.drew HRb.out) _); (focus omega); (focus (exact heap_alloc_new _ _)); (focus (have hl := HRb.out.lt; simp; omega)); (focus (exact ⟨rfl, fun k hk => match k, hk with | 0, _ => ⟨_, rfl, by decide, by decide⟩ | 1, _ => ⟨_, rfl, by decide, by decide⟩ | 2, _ => ⟨_, rfl, by decide, by decide⟩ | 3, _ => ⟨_, rfl, by decide, by decide⟩ | (k + 4), hk => absurd hk (by omega)⟩)); (focus omega); omega)); rintro e wc ⟨s3, rfl, hs3, hrd3, hg3⟩; have HG3 := Lib.hid hg3; have HS3 := Lib.hid hs3; have hs3a : s3.size ≤ 1 := hs3.2; have c1 : ¬ 9223372036854775807 < p1.size + s3.size := (by omega); have c2 : ¬ 9223372036854775807 < p1.size + s3.size + p2.size := (by omega); clear hrd3 hg3 hs3))
      all_goals go_wp2
      all_goals go_ret
      all_goals exact ⟨_, rfl, by have := HS3.out; have := E1.out; have := E2.out; simp; omega, (by rw [HRR.out]; exact below_grown ((Below.drew HBb.out).alloc (by have := HZ.out; simp; omega) _) HG3.out (by have := HZ.out; simp; omega) (by have := HZ.out; first | omega | (simp; omega)))⟩
    · have q0 : (xb == 0) = false := by simpa using hva
      have q1 : (xb == 1) = false := by simpa using hvb
      clear hva hvb e1 e2
      go_wp2_with fail
      go_ret
      exact ⟨str, rfl, by omega, by rw [HRR.out]; exact HBb.out⟩

theorem parV_yes {t : ByteArray} (h : (parV t).2 = true) : setB (parV t).1 = true ∧ fmtO (parV t).1 = t := by
  unfold parV at h ⊢
  by_cases hc : parOk t = true ∧ fmtO (pz t) = t
  · rw [if_pos hc]
    exact ⟨(fmtO_set hc.2 (parOk_size hc.1)).1, hc.2⟩
  · rw [if_neg hc] at h
    cases h

theorem parseStrict_walk (A : Option Addr) (n c : Nat) (zs0 : List Int) (w : World) (h : Ints .u8 w A n c zs0) (hV : VF w) : Calls Tryd.prog 5 #[.slice A n c] w fun e w' => e = .returned (.bool true) ∧ Below w.heap.size w w' := by
  have hmx := h.max
  have hcp := h.cap
  unfold maxLen at hmx
  by_cases hl : 1048576 < n
  · have hl2 : (1048576 : Int) < n := by omega
    go_enter Tryd.func5, Tryd.ntmps5
    go_wp2
    go_ret
    exact ⟨rfl, Below.refl _ _⟩
  have hl2 : ¬ (1048576 : Int) < n := by omega
  have HV := Lib.hid hV
  clear hV
  go_enter Tryd.func5, Tryd.ntmps5
  go_wp2_with fail
  refine (drawParse_any A n c zs0 _ h).mono ?_
  rintro e wd ⟨t, rfl, ht, hbd⟩
  clear h
  have HBd := Lib.hid hbd
  have HS := Lib.hid (specParse_any t (by omega) wd)
  unfold ParQ at HS
  have HI := Lib.hid (fun W hW => implParse_any t (by omega) W hW)
  unfold ParQ at HI
  have hyes := parV_yes (t := t)
  have hlen := parV_len t
  clear hbd ht
  generalize (parV t).1 = zs at HI HS hlen hyes
  obtain ⟨m, hm⟩ : ∃ m, zs.length = m := ⟨_, rfl⟩
  rw [hm] at hlen
  have HL := Lib.hid hm
  clear hm
  go_wp2_with fail
  refine HS.out.mono ?_
  rintro e w1 ⟨v0, rfl, hown0, hb1⟩
  have HB1 := Lib.hid (HBd.out.trans (hb1.mono HBd.out.size))
  obtain ⟨A0, c0, hv0, _, _, hr0⟩ := owns_row hown0
  have HR0 := Lib.hid hr0
  subst hv0
  clear hown0 hb1 hr0
  go_wp2_with fail
  refine (HI.out _ (HV.out.below HB1.out)).mono ?_
  rintro e w2 ⟨v1, rfl, hown1, hb2⟩
  have HB2 := Lib.hid (HB1.out.trans (hb2.mono HB1.out.size))
  have HR02 := Lib.hid ((HR0.out.below hb2).more hb2.size)
  obtain ⟨A1, c1, hv1, _, _, hr1⟩ := owns_row hown1
  have HR1 := Lib.hid hr1
  subst hv1
  clear hown1 hb2 hr1
  rw [HL.out]
  cases hb : (parV t).2
  · clear hyes hb
    go_wp2_with fail
    refine (sameInts_same A1 A0 m c1 c0 zs w2 HR1.out HR02.out HL.out (by omega)).mono ?_
    rintro e w3 ⟨rfl, m3, hw3⟩
    have HB3 := Lib.hid (show Below w.heap.size w w3 by rw [hw3]; exact below_drewN HB2.out m3)
    have HR13 := Lib.hid (show Row w3 w3.heap.size A1 (zs.map (Value.int .i64)) by rw [hw3]; exact HR1.out)
    have HR03 := Lib.hid (show Row w3 w3.heap.size A0 (zs.map (Value.int .i64)) by rw [hw3]; exact HR02.out)
    clear hw3
    go_wp2_with fail
    refine (sameInts_same A1 A0 m c1 c0 zs w3 HR13.out HR03.out HL.out (by omega)).mono ?_
    rintro e w4 ⟨rfl, m4, hw4⟩
    have HB4 := Lib.hid (show Below w.heap.size w w4 by rw [hw4]; exact below_drewN HB3.out m4)
    clear hw4
    go_wp2_with fail
    go_ret
    exact ⟨rfl, HB4.out⟩
  · obtain ⟨hs, hf⟩ := hyes hb
    have HSet := Lib.hid hs
    have HFm := Lib.hid hf
    clear hyes hb hs hf
    go_wp2_with fail
    refine (sameInts_same A1 A0 m c1 c0 zs w2 HR1.out HR02.out HL.out (by omega)).mono ?_
    rintro e w3 ⟨rfl, m3, hw3⟩
    have HB3 := Lib.hid (show Below w.heap.size w w3 by rw [hw3]; exact below_drewN HB2.out m3)
    have HR13 := Lib.hid (show Row w3 w3.heap.size A1 (zs.map (Value.int .i64)) by rw [hw3]; exact HR1.out)
    clear hw3
    go_wp2_with fail
    refine (implSetValid_any A1 m c1 zs w3 HR13.out HL.out (by omega)).mono ?_
    rintro e w4 ⟨rfl, hw4⟩
    rw [HSet.out]
    replace hw4 := hw4.symm
    subst hw4
    go_wp2_with fail
    refine (implFormat_any A1 m c1 zs w3 HR13.out HL.out (by omega)).mono ?_
    rintro e w5 ⟨rfl, hb5⟩
    rw [HFm.out]
    have HB5 := Lib.hid (HB3.out.trans (hb5.mono HB3.out.size))
    clear hb5
    go_wp2_with fail
    go_ret
    exact ⟨rfl, HB5.out⟩
end Go.Proofs.YtdpclcogfkjbcaaDoor
