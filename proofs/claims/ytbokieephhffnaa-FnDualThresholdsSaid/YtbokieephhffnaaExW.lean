/- The laws FnExprValid and FnDepth: their walks. -/
import Derived.Test.YtbokieephhffnaaExL
namespace Go.Proofs.Ytbokieephhffnaa
open Go.RowKit
set_option maxHeartbeats 8000000
set_option linter.unusedVariables false

theorem drawDepth_any (A : Option Addr) (n c : Nat) (zs0 : List Int) (w : World) (h : Ints .u8 w A n c zs0) : Calls Try.prog 14 #[.slice A n c] w fun e w' => ∃ str : ByteArray, e = .returned (.string str) ∧ (0 ≤ str.size ∧ str.size ≤ 61) ∧ Below w.heap.size w w' := by
  go_enter Try.func14, Try.ntmps14
  go_wp2_with fail
  (refine (l6Open_any A n c zs0 _ w h (by (repeat (first | (with_reducible exact Below.refl _ _) | (with_reducible assumption) | (with_reducible refine below_drewN ?_ _) | (with_reducible refine Below.drew ?_) | (with_reducible refine Below.alloc ?_ (by (first | omega | (show _ < _; omega) | (simp; omega) | (simp; done))) _) | (with_reducible refine Below.setCell ?_ (by (first | omega | (show _ < _; omega) | (simp; omega) | (simp; done))) _) | (with_reducible refine Below.trans ?_ (Below.mono (by with_reducible assumption) (by (first | omega | (show _ < _; omega) | (simp; omega) | (simp; done))))) | (with_reducible refine below_grown ?_ (by with_reducible assumption) (by (first | omega | (show _ < _; omega) | (simp; omega) | (simp; done))) (by (first | omega | (show _ < _; omega) | (simp; omega) | (simp; done)))))))).mono ?_; rintro e w1 ⟨rfl, n', c', hw1, hrd⟩; have hbw1 : Below w.heap.size w w1 := (by rw [hw1]; exact (Below.refl _ _).alloc (Nat.le_refl _) _); have hsw1 : w.heap.size + 1 ≤ w1.heap.size := (by rw [hw1]; simp); clear hw1)
  go_wp2_with fail
  refine (l91Expr_any _ 0 _ hrd (by omega)).mono ?_
  rintro e w2 ⟨str, rfl, hs, _, hg⟩
  have HB := Lib.hid (below_grown hbw1 hg (by omega) (Nat.le_refl _))
  have HS := Lib.hid hs
  clear hg hs hrd
  go_wp2_with fail
  go_ret
  exact ⟨str, rfl, HS.out, HB.out⟩
theorem drawValid_any (A : Option Addr) (n c : Nat) (zs0 : List Int) (w : World) (h : Ints .u8 w A n c zs0) : Calls Try.prog 13 #[.slice A n c] w fun e w' => ∃ str : ByteArray, e = .returned (.string str) ∧ (0 ≤ str.size ∧ str.size ≤ 62) ∧ Below w.heap.size w w' := by
  go_enter Try.func13, Try.ntmps13
  go_wp2_with fail
  (refine (l6Open_any A n c zs0 _ w h (by (repeat (first | (with_reducible exact Below.refl _ _) | (with_reducible assumption) | (with_reducible refine below_drewN ?_ _) | (with_reducible refine Below.drew ?_) | (with_reducible refine Below.alloc ?_ (by (first | omega | (show _ < _; omega) | (simp; omega) | (simp; done))) _) | (with_reducible refine Below.setCell ?_ (by (first | omega | (show _ < _; omega) | (simp; omega) | (simp; done))) _) | (with_reducible refine Below.trans ?_ (Below.mono (by with_reducible assumption) (by (first | omega | (show _ < _; omega) | (simp; omega) | (simp; done))))) | (with_reducible refine below_grown ?_ (by with_reducible assumption) (by (first | omega | (show _ < _; omega) | (simp; omega) | (simp; done))) (by (first | omega | (show _ < _; omega) | (simp; omega) | (simp; done)))))))).mono ?_; rintro e w1 ⟨rfl, n', c', hw1, hrd⟩; have hbw1 : Below w.heap.size w w1 := (by rw [hw1]; exact (Below.refl _ _).alloc (Nat.le_refl _) _); have hsw1 : w.heap.size + 1 ≤ w1.heap.size := (by rw [hw1]; simp); clear hw1)
  obtain ⟨R, hRR⟩ : ∃ R, w.heap.size = R := ⟨_, rfl⟩
  rw [hRR] at hrd hbw1 hsw1 ⊢
  have HRR := Lib.hid hRR
  clear hRR
  go_wp2_with fail
  refine (l91Expr_any R 0 _ hrd (by omega)).mono ?_
  rintro e w2 ⟨str, rfl, hs, ⟨q', hq', hr2⟩, hg⟩
  have HB2 := Lib.hid (below_grown hbw1 hg (by omega) (by omega))
  obtain ⟨_, hs2⟩ := hs
  have HR2 := Lib.hid hr2
  have hz2 := hg.size
  clear hg hrd hr2
  go_wp2_with fail
  (apply Calls.mono; focus (apply pick_abs; exact HR2.out; omega)); rintro e wa ⟨va, rfl, hva0, hva1, hrda, hsza, hcpa, hfpa, hgpa⟩
  have HRa := Lib.hid hrda
  have hza := hgpa.size
  have HBa := Lib.hid (below_grown HB2.out hgpa (by omega) (by omega))
  clear hcpa hfpa hsza hrda hgpa
  by_cases hva : va = 0
  · subst hva
    go_wp2_with fail
    (apply Calls.mono; focus (apply pick_abs; exact HRa.out; omega)); rintro e wb ⟨vb, rfl, hvb0, hvb1, hrdb, hszb, hcpb, hfpb, hgpb⟩
    replace hvb1 := hvb1 (by omega)
    obtain ⟨k, rfl⟩ := Int.eq_ofNat_of_zero_le hvb0
    have HRb := Lib.hid hrdb
    have hzb := hgpb.size
    have HBb := Lib.hid (below_grown HBa.out hgpb (by omega) (by omega))
    clear hcpb hfpb hszb hrdb hgpb
    have n0 : (0 : Int) ≤ k := by omega
    have n1 : (k : Int) ≤ str.size := by omega
    have e1 : (str.extract 0 k).size = k := by simp [ByteArray.size_extract]; omega
    have e2 : (str.extract k str.size).size = str.size - k := by simp [ByteArray.size_extract]
    obtain ⟨p1, hp1⟩ : ∃ p, str.extract 0 k = p := ⟨_, rfl⟩
    obtain ⟨p2, hp2⟩ : ∃ p, str.extract k str.size = p := ⟨_, rfl⟩
    rw [hp1] at e1
    rw [hp2] at e2
    have E1 := Lib.hid e1
    have E2 := Lib.hid e2
    have hp1s : p1.size ≤ 100 := by omega
    have hp2s : p2.size ≤ 100 := by omega
    have HZ := Lib.hid (show R + 1 ≤ wb.heap.size by omega)
    clear e1 e2 hz2 hza hzb
    go_wp2_with fail
    go_region_held3 (fun _ => True) (trivial) ((go_at_call 25; (apply Calls.mono; focus (apply of_any (lo := 1) (hi := 1) (n := 5) R _ _ (Rdr.alloc (Rdr.drew HRb.out) _); (focus omega); (focus (exact heap_alloc_new _ _)); (focus (have hl := HRb.out.lt; simp; omega)); (focus (exact ⟨rfl, fun k hk => match k, hk with | 0, _ => ⟨_, rfl, by decide, by decide⟩ | 1, _ => ⟨_, rfl, by decide, by decide⟩ | 2, _ => ⟨_, rfl, by decide, by decide⟩ | 3, _ => ⟨_, rfl, by decide, by decide⟩ | 4, _ => ⟨_, rfl, by decide, by decide⟩ | (k + 5), hk => absurd hk (by omega)⟩)); (focus omega); omega)); rintro e wc ⟨s3, rfl, hs3, hrd3, hg3⟩; have HG3 := Lib.hid hg3; have HS3 := Lib.hid hs3; have hs3a : s3.size ≤ 1 := hs3.2; have c1 : ¬ 9223372036854775807 < p1.size + s3.size := (by omega); have c2 : ¬ 9223372036854775807 < p1.size + s3.size + p2.size := (by omega); clear hrd3 hg3 hs3))
    all_goals go_wp2
    all_goals go_ret
    all_goals exact ⟨_, rfl, ⟨Nat.zero_le _, by have := HS3.out; have := E1.out; have := E2.out; simp; omega⟩, (by rw [HRR.out]; exact below_grown ((Below.drew HBb.out).alloc (by have := HZ.out; simp; omega) _) HG3.out (by have := HZ.out; simp; omega) (by have := HZ.out; first | omega | (simp; omega)))⟩
  · have hva' : (va == 0) = false := by simpa using hva
    go_wp2_with fail
    go_ret
    exact ⟨str, rfl, ⟨Nat.zero_le _, by omega⟩, by rw [HRR.out]; exact HBa.out⟩

theorem implEx_is {b : Bool} (s : ByteArray) (w : World) (hs : s.size ≤ 1048576) (hb : exOk s = b) : Calls Try.prog 10 #[.string s] w fun e w' => e = .returned (.bool b) ∧ Below w.heap.size w w' := by
  rw [← hb]; exact implExprValid_any s hs w
theorem specEx_is {b : Bool} (s : ByteArray) (w : World) (hs : s.size ≤ 1048576) (hb : exOk s = b) : Calls Try.prog 9 #[.string s] w fun e w' => e = .returned (.bool b) ∧ w' = w := by
  rw [← hb]; exact specExprValid_any s hs w

theorem exprValid_walk (A : Option Addr) (n c : Nat) (zs0 : List Int) (w : World) (h : Ints .u8 w A n c zs0) : Calls Try.prog 5 #[.slice A n c] w fun e w' => e = .returned (.bool true) ∧ Below w.heap.size w w' := by
  have hmx := h.max
  have hcp := h.cap
  unfold maxLen at hmx
  by_cases hl : 1048576 < n
  · have hl2 : (1048576 : Int) < n := by omega
    go_enter Try.func5, Try.ntmps5
    go_wp2
    go_ret
    exact ⟨rfl, Below.refl _ _⟩
  have hl2 : ¬ (1048576 : Int) < n := by omega
  go_enter Try.func5, Try.ntmps5
  go_wp2_with fail
  refine (drawValid_any A n c zs0 _ h).mono ?_
  rintro e wd ⟨s, rfl, ⟨_, hs⟩, hbd⟩
  clear h
  obtain ⟨b, hb⟩ : ∃ b, exOk s = b := ⟨_, rfl⟩
  have HB := Lib.hid hb
  clear hb
  go_wp2_with fail
  refine (implEx_is s wd (by omega) HB.out).mono ?_
  rintro e w1 ⟨rfl, hb1⟩
  have HB1 := Lib.hid (hbd.trans (hb1.mono hbd.size))
  clear hbd hb1
  go_wp2_with fail
  refine (specEx_is s w1 (by omega) HB.out).mono ?_
  rintro e w2 ⟨rfl, hw2⟩
  replace hw2 := hw2.symm
  subst hw2
  cases b
  · go_wp2_with fail
    refine (specEx_is s w1 (by omega) HB.out).mono ?_
    rintro e w2 ⟨rfl, hw2⟩
    replace hw2 := hw2.symm
    subst hw2
    go_wp2_with fail
    go_ret
    exact ⟨rfl, HB1.out⟩
  have HM := Lib.hid (no_more s HB.out)
  have hsp : 0 < s.size := by
    obtain ⟨_, f, t, ht⟩ := ex_whole HB.out
    have := pe_end _ _ _ _ ht
    omega
  have c1 : ¬ 9223372036854775807 < s.size + 1 := by omega
  go_wp2_with fail
  refine (implEx_is _ w1 (by simp [sz1]; omega) HM.out).mono ?_
  rintro e w3 ⟨rfl, hb3⟩
  have HB3 := Lib.hid (HB1.out.trans (hb3.mono HB1.out.size))
  clear hb3
  by_cases h1 : s.size = 1
  · have h1' : ((s.size : Int) == 1) = true := by rw [h1]; rfl
    clear h1
    go_wp2_with fail
    refine (implEx_is _ w3 (by decide) no7).mono ?_
    rintro e w5 ⟨rfl, hb5⟩
    have HB5 := Lib.hid (HB3.out.trans (hb5.mono HB3.out.size))
    clear hb5
    go_wp2_with fail
    refine (implEx_is _ w5 (by decide) no0).mono ?_
    rintro e w6 ⟨rfl, hb6⟩
    have HB6 := Lib.hid (HB5.out.trans (hb6.mono HB5.out.size))
    clear hb6
    go_wp2_with fail
    refine (implEx_is _ w6 (by decide) noE).mono ?_
    rintro e w7 ⟨rfl, hb7⟩
    have HB7 := Lib.hid (HB6.out.trans (hb7.mono HB6.out.size))
    clear hb7
    go_wp2_with fail
    refine (implEx_is _ w7 (by decide) no2).mono ?_
    rintro e w8 ⟨rfl, hb8⟩
    have HB8 := Lib.hid (HB7.out.trans (hb8.mono HB7.out.size))
    clear hb8
    go_wp2_with fail
    go_ret
    exact ⟨rfl, HB8.out⟩
  · have h1' : ((s.size : Int) == 1) = false := by simp; omega
    have h1'' : (s.size == 1) = false := by simp; omega
    have j1 : IntKind.i64.wrap ((s.size : Int) - 1) = (s.size : Int) - 1 := IntWalk.i64_in _ (by omega)
    have j2 : (0 : Int) ≤ (s.size : Int) - 1 := by omega
    have j3 : ((s.size : Int) - 1).toNat = s.size - 1 := by omega
    have j4 : (s.size : Int) - 1 ≤ s.size := by omega
    have j5 : (1 : Int) ≤ s.size := by omega
    have HL := Lib.hid (no_less s HB.out h1)
    clear h1
    go_wp2_with fail
    refine (implEx_is _ w3 (by simp [ByteArray.size_extract]; omega) HL.out).mono ?_
    rintro e w4 ⟨rfl, hb4⟩
    have HB4 := Lib.hid (HB3.out.trans (hb4.mono HB3.out.size))
    clear hb4
    go_wp2_with fail
    refine (implEx_is _ w4 (by decide) no7).mono ?_
    rintro e w5 ⟨rfl, hb5⟩
    have HB5 := Lib.hid (HB4.out.trans (hb5.mono HB4.out.size))
    clear hb5
    go_wp2_with fail
    refine (implEx_is _ w5 (by decide) no0).mono ?_
    rintro e w6 ⟨rfl, hb6⟩
    have HB6 := Lib.hid (HB5.out.trans (hb6.mono HB5.out.size))
    clear hb6
    go_wp2_with fail
    refine (implEx_is _ w6 (by decide) noE).mono ?_
    rintro e w7 ⟨rfl, hb7⟩
    have HB7 := Lib.hid (HB6.out.trans (hb7.mono HB6.out.size))
    clear hb7
    go_wp2_with fail
    refine (implEx_is _ w7 (by decide) no2).mono ?_
    rintro e w8 ⟨rfl, hb8⟩
    have HB8 := Lib.hid (HB7.out.trans (hb8.mono HB7.out.size))
    clear hb8
    go_wp2_with fail
    go_ret
    exact ⟨rfl, HB8.out⟩
end Go.Proofs.Ytbokieephhffnaa
