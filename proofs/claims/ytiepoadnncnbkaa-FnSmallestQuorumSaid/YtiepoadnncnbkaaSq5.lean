/- The draws of expressions: some text of few bytes; l91Expr. -/
import Derived.Test.YtiepoadnncnbkaaSq4
import Derived.Deep.RegionHeld3
namespace Go.Proofs.Ytiepoadnncnbkaa
open Go.RowKit
set_option maxHeartbeats 8000000
set_option linter.unusedVariables false

/-- A text of at most 60 bytes was drawn. -/
def DrE (R B : Nat) (q : Int) (hi : Nat) (w : World) (e : Ending) (w' : World) : Prop := ∃ str : ByteArray, e = .returned (.string str) ∧ (0 ≤ str.size ∧ str.size ≤ hi) ∧ (∃ q', q' ≤ q + 20 ∧ Rdr w' R B q') ∧ w.grownBy w' (some R)
theorem strArr2 {a b : ByteArray} {lo hi : Nat} (ha : lo ≤ a.size ∧ a.size ≤ hi) (hb : lo ≤ b.size ∧ b.size ≤ hi) : StrArr #[.string a, .string b] 2 lo hi :=
  ⟨rfl, fun k hk => match k, hk with | 0, _ => ⟨a, rfl, ha⟩ | 1, _ => ⟨b, rfl, hb⟩ | (k + 2), hk => absurd hk (by omega)⟩
theorem strArr3 {a b c : ByteArray} {lo hi : Nat} (ha : lo ≤ a.size ∧ a.size ≤ hi) (hb : lo ≤ b.size ∧ b.size ≤ hi) (hc : lo ≤ c.size ∧ c.size ≤ hi) : StrArr #[.string a, .string b, .string c] 3 lo hi :=
  ⟨rfl, fun k hk => match k, hk with | 0, _ => ⟨a, rfl, ha⟩ | 1, _ => ⟨b, rfl, hb⟩ | 2, _ => ⟨c, rfl, hc⟩ | (k + 3), hk => absurd hk (by omega)⟩

theorem l91Expr_any (R : Nat) {B : Nat} (q : Int) (w : World) (hR : Rdr w R B q) (hq : q ≤ 40000) : Calls Try.prog 55 #[.pointer (some ⟨R, 0, none⟩)] w (DrE R B q 61 w) := by
  have hlt := hR.lt
  go_enter Try.func55, Try.ntmps55
  go_wp2_with fail
  (apply Calls.mono; focus (apply pick_abs; exact hR; omega)); rintro e wp ⟨v, rfl, hv0, hv1, hrd, hsz, hcp, hfp, hgp⟩
  replace hv1 := hv1 (by omega)
  have HR0 := Lib.hid hrd
  have HG0 := Lib.hid hgp
  clear hcp hfp hrd hgp hsz
  rcases (show v = 0 ∨ v = 1 ∨ (v = 2 ∨ v = 3) ∨ (v = 4 ∨ v = 5) by omega) with rfl | rfl | hv | hv
  · go_wp2_with fail
    refine (l91Leaf_any R _ _ HR0.out (by omega)).mono ?_
    rintro e w1 ⟨str, rfl, ⟨hl1, hl2⟩, hr1, hg1⟩
    have HR1 := Lib.hid hr1
    have HG1 := Lib.hid (grown_trans HG0.out hg1)
    clear hr1 hg1
    go_wp2_with fail
    (apply Calls.mono; focus (apply pick_abs; exact HR1.out; omega)); rintro e wa ⟨va, rfl, hva0, hva1, hrda, hsza, hcpa, hfpa, hgpa⟩
    replace hva1 := hva1 (by omega)
    have HRa := Lib.hid hrda
    have HGa := Lib.hid (grown_trans HG1.out hgpa)
    clear hcpa hfpa hsza hrda hgpa
    by_cases hva : va = 0
    · subst hva
      go_wp2_with fail
      (apply Calls.mono; focus (apply pick_abs; exact HRa.out; omega)); rintro e wb ⟨vb, rfl, hvb0, hvb1, hrdb, hszb, hcpb, hfpb, hgpb⟩
      replace hvb1 := hvb1 (by omega)
      obtain ⟨k, rfl⟩ := Int.eq_ofNat_of_zero_le hvb0
      have HRb := Lib.hid hrdb
      have HGb := Lib.hid (grown_trans HGa.out hgpb)
      clear hcpb hfpb hszb hrdb hgpb
      have n0 : (0 : Int) ≤ k := by omega
      have n1 : (k : Int) ≤ str.size := by omega
      have n2 : IntKind.i64.wrap ((k : Int) + 1) = (k : Int) + 1 := IntWalk.i64_in _ (by omega)
      have n3 : (0 : Int) ≤ (k : Int) + 1 := by omega
      have n4 : (k : Int) + 1 ≤ str.size := by omega
      have n5 : ((k : Int) + 1).toNat = k + 1 := by omega
      have e1 : (str.extract 0 k).size = k := by simp [ByteArray.size_extract]; omega
      have e2 : (str.extract (k + 1) str.size).size = str.size - (k + 1) := by simp [ByteArray.size_extract]
      obtain ⟨p1, hp1⟩ : ∃ p, str.extract 0 k = p := ⟨_, rfl⟩
      obtain ⟨p2, hp2⟩ : ∃ p, str.extract (k + 1) str.size = p := ⟨_, rfl⟩
      rw [hp1] at e1
      rw [hp2] at e2
      have E1 := Lib.hid e1
      have E2 := Lib.hid e2
      have hp1s : p1.size ≤ 100 := by omega
      have hp2s : p2.size ≤ 100 := by omega
      clear e1 e2
      go_wp2_with fail
      go_region_held3 (fun _ => True) (trivial) ((go_at_call 65; (apply Calls.mono; focus (apply of_any (lo := 0) (hi := 1) (n := 6) R _ _ (Rdr.alloc (Rdr.drew HRb.out) _); (focus omega); (focus (exact heap_alloc_new _ _)); (focus (have hl := HRb.out.lt; simp; omega)); (focus (exact ⟨rfl, fun k hk => match k, hk with | 0, _ => ⟨_, rfl, by decide, by decide⟩ | 1, _ => ⟨_, rfl, by decide, by decide⟩ | 2, _ => ⟨_, rfl, by decide, by decide⟩ | 3, _ => ⟨_, rfl, by decide, by decide⟩ | 4, _ => ⟨_, rfl, by decide, by decide⟩ | 5, _ => ⟨_, rfl, by decide, by decide⟩ | (k + 6), hk => absurd hk (by omega)⟩)); (focus omega); omega)); rintro e wc ⟨s3, rfl, hs3, hrd3, hg3⟩; have HR3 := Lib.hid hrd3; have HG3 := Lib.hid hg3; have HS3 := Lib.hid hs3; have hs3a : s3.size ≤ 1 := hs3.2; have c1 : ¬ 9223372036854775807 < p1.size + s3.size := (by omega); have c2 : ¬ 9223372036854775807 < p1.size + s3.size + p2.size := (by omega); clear hrd3 hg3 hs3))
      all_goals go_wp2
      all_goals go_ret
      all_goals exact ⟨_, rfl, ⟨Nat.zero_le _, by have := HS3.out; have := E1.out; have := E2.out; simp; omega⟩, ⟨_, by omega, HR3.out⟩, grown_trans (grown_alloc (grown_drew HGb.out) _) HG3.out⟩
    · have hva' : (va == 0) = false := by simpa using hva
      go_wp2_with fail
      go_ret
      exact ⟨str, rfl, ⟨Nat.zero_le _, by omega⟩, ⟨_, by omega, HRa.out⟩, HGa.out⟩
  · go_wp2_with fail
    have hlp := HR0.out.lt
    refine (of_any R _ _ (HR0.out.alloc _) (by omega) wp.heap.size 5 8 23 _ _ (heap_alloc_new wp _) (by omega) ?_ (by omega) (by omega)).mono ?_
    · exact ⟨rfl, fun k hk => match k, hk with | 0, _ => ⟨_, rfl, by decide, by decide⟩ | 1, _ => ⟨_, rfl, by decide, by decide⟩ | 2, _ => ⟨_, rfl, by decide, by decide⟩ | 3, _ => ⟨_, rfl, by decide, by decide⟩ | 4, _ => ⟨_, rfl, by decide, by decide⟩ | (k + 5), hk => absurd hk (by omega)⟩
    rintro e w1 ⟨str, rfl, ⟨hl1, hl2⟩, hr1, hg1⟩
    have HR1 := Lib.hid hr1
    have HG1 := Lib.hid (grown_trans (grown_alloc HG0.out _) hg1)
    clear hr1 hg1 hlp
    go_wp2_with fail
    (apply Calls.mono; focus (apply pick_abs; exact HR1.out; omega)); rintro e wa ⟨va, rfl, hva0, hva1, hrda, hsza, hcpa, hfpa, hgpa⟩
    replace hva1 := hva1 (by omega)
    have HRa := Lib.hid hrda
    have HGa := Lib.hid (grown_trans HG1.out hgpa)
    clear hcpa hfpa hsza hrda hgpa
    by_cases hva : va = 0
    · subst hva
      go_wp2_with fail
      (apply Calls.mono; focus (apply pick_abs; exact HRa.out; omega)); rintro e wb ⟨vb, rfl, hvb0, hvb1, hrdb, hszb, hcpb, hfpb, hgpb⟩
      replace hvb1 := hvb1 (by omega)
      obtain ⟨k, rfl⟩ := Int.eq_ofNat_of_zero_le hvb0
      have HRb := Lib.hid hrdb
      have HGb := Lib.hid (grown_trans HGa.out hgpb)
      clear hcpb hfpb hszb hrdb hgpb
      have n0 : (0 : Int) ≤ k := by omega
      have n1 : (k : Int) ≤ str.size := by omega
      have n2 : IntKind.i64.wrap ((k : Int) + 1) = (k : Int) + 1 := IntWalk.i64_in _ (by omega)
      have n3 : (0 : Int) ≤ (k : Int) + 1 := by omega
      have n4 : (k : Int) + 1 ≤ str.size := by omega
      have n5 : ((k : Int) + 1).toNat = k + 1 := by omega
      have e1 : (str.extract 0 k).size = k := by simp [ByteArray.size_extract]; omega
      have e2 : (str.extract (k + 1) str.size).size = str.size - (k + 1) := by simp [ByteArray.size_extract]
      obtain ⟨p1, hp1⟩ : ∃ p, str.extract 0 k = p := ⟨_, rfl⟩
      obtain ⟨p2, hp2⟩ : ∃ p, str.extract (k + 1) str.size = p := ⟨_, rfl⟩
      rw [hp1] at e1
      rw [hp2] at e2
      have E1 := Lib.hid e1
      have E2 := Lib.hid e2
      have hp1s : p1.size ≤ 100 := by omega
      have hp2s : p2.size ≤ 100 := by omega
      clear e1 e2
      go_wp2_with fail
      go_region_held3 (fun _ => True) (trivial) ((go_at_call 65; (apply Calls.mono; focus (apply of_any (lo := 0) (hi := 1) (n := 6) R _ _ (Rdr.alloc (Rdr.drew HRb.out) _); (focus omega); (focus (exact heap_alloc_new _ _)); (focus (have hl := HRb.out.lt; simp; omega)); (focus (exact ⟨rfl, fun k hk => match k, hk with | 0, _ => ⟨_, rfl, by decide, by decide⟩ | 1, _ => ⟨_, rfl, by decide, by decide⟩ | 2, _ => ⟨_, rfl, by decide, by decide⟩ | 3, _ => ⟨_, rfl, by decide, by decide⟩ | 4, _ => ⟨_, rfl, by decide, by decide⟩ | 5, _ => ⟨_, rfl, by decide, by decide⟩ | (k + 6), hk => absurd hk (by omega)⟩)); (focus omega); omega)); rintro e wc ⟨s3, rfl, hs3, hrd3, hg3⟩; have HR3 := Lib.hid hrd3; have HG3 := Lib.hid hg3; have HS3 := Lib.hid hs3; have hs3a : s3.size ≤ 1 := hs3.2; have c1 : ¬ 9223372036854775807 < p1.size + s3.size := (by omega); have c2 : ¬ 9223372036854775807 < p1.size + s3.size + p2.size := (by omega); clear hrd3 hg3 hs3))
      all_goals go_wp2
      all_goals go_ret
      all_goals exact ⟨_, rfl, ⟨Nat.zero_le _, by have := HS3.out; have := E1.out; have := E2.out; simp; omega⟩, ⟨_, by omega, HR3.out⟩, grown_trans (grown_alloc (grown_drew HGb.out) _) HG3.out⟩
    · have hva' : (va == 0) = false := by simpa using hva
      go_wp2_with fail
      go_ret
      exact ⟨str, rfl, ⟨Nat.zero_le _, by omega⟩, ⟨_, by omega, HRa.out⟩, HGa.out⟩
  · rcases hv with rfl | rfl
    all_goals
      go_wp2_with fail
      refine (l91Leaf_any R _ _ HR0.out (by omega)).mono ?_
      rintro e wl1 ⟨sl1, rfl, hl1, hrl1, hgl1⟩
      have K1 := Lib.hid hl1
      have HRl1 := Lib.hid hrl1
      have HGl1 := Lib.hid (grown_trans HG0.out hgl1)
      clear hl1 hrl1 hgl1
      go_wp2_with fail
      refine (l91Leaf_any R _ _ HRl1.out (by omega)).mono ?_
      rintro e wl2 ⟨sl2, rfl, hl2, hrl2, hgl2⟩
      have K2 := Lib.hid hl2
      have HRl2 := Lib.hid hrl2
      have HGl2 := Lib.hid (grown_trans HGl1.out hgl2)
      clear hl2 hrl2 hgl2
      go_wp2_with fail
      refine (l91Leaf_any R _ _ HRl2.out (by omega)).mono ?_
      rintro e wl3 ⟨sl3, rfl, hl3, hrl3, hgl3⟩
      have K3 := Lib.hid hl3
      have HRl3 := Lib.hid hrl3
      have HGl3 := Lib.hid (grown_trans HGl2.out hgl3)
      clear hl3 hrl3 hgl3
      go_wp2_with fail
      have hlp := HRl3.out.lt
      refine (l91List_any R _ _ (HRl3.out.alloc _) (by omega) wl3.heap.size 3 1 1 _ _ (heap_alloc_new wl3 _) (by omega) (strArr3 K1.out K2.out K3.out) (by omega) (by omega) (by omega)).mono ?_
      rintro e w1 ⟨str, rfl, ⟨hl1, hl2⟩, hr1, hg1⟩
      have HR1 := Lib.hid hr1
      have HG1 := Lib.hid (grown_trans (grown_alloc HGl3.out _) hg1)
      clear hr1 hg1 hlp
      go_wp2_with fail
      (apply Calls.mono; focus (apply pick_abs; exact HR1.out; omega)); rintro e wa ⟨va, rfl, hva0, hva1, hrda, hsza, hcpa, hfpa, hgpa⟩
      replace hva1 := hva1 (by omega)
      have HRa := Lib.hid hrda
      have HGa := Lib.hid (grown_trans HG1.out hgpa)
      clear hcpa hfpa hsza hrda hgpa
      by_cases hva : va = 0
      · subst hva
        go_wp2_with fail
        (apply Calls.mono; focus (apply pick_abs; exact HRa.out; omega)); rintro e wb ⟨vb, rfl, hvb0, hvb1, hrdb, hszb, hcpb, hfpb, hgpb⟩
        replace hvb1 := hvb1 (by omega)
        obtain ⟨k, rfl⟩ := Int.eq_ofNat_of_zero_le hvb0
        have HRb := Lib.hid hrdb
        have HGb := Lib.hid (grown_trans HGa.out hgpb)
        clear hcpb hfpb hszb hrdb hgpb
        have n0 : (0 : Int) ≤ k := by omega
        have n1 : (k : Int) ≤ str.size := by omega
        have n2 : IntKind.i64.wrap ((k : Int) + 1) = (k : Int) + 1 := IntWalk.i64_in _ (by omega)
        have n3 : (0 : Int) ≤ (k : Int) + 1 := by omega
        have n4 : (k : Int) + 1 ≤ str.size := by omega
        have n5 : ((k : Int) + 1).toNat = k + 1 := by omega
        have e1 : (str.extract 0 k).size = k := by simp [ByteArray.size_extract]; omega
        have e2 : (str.extract (k + 1) str.size).size = str.size - (k + 1) := by simp [ByteArray.size_extract]
        obtain ⟨p1, hp1⟩ : ∃ p, str.extract 0 k = p := ⟨_, rfl⟩
        obtain ⟨p2, hp2⟩ : ∃ p, str.extract (k + 1) str.size = p := ⟨_, rfl⟩
        rw [hp1] at e1
        rw [hp2] at e2
        have E1 := Lib.hid e1
        have E2 := Lib.hid e2
        have hp1s : p1.size ≤ 100 := by omega
        have hp2s : p2.size ≤ 100 := by omega
        clear e1 e2
        go_wp2_with fail
        go_region_held3 (fun _ => True) (trivial) ((go_at_call 65; (apply Calls.mono; focus (apply of_any (lo := 0) (hi := 1) (n := 6) R _ _ (Rdr.alloc (Rdr.drew HRb.out) _); (focus omega); (focus (exact heap_alloc_new _ _)); (focus (have hl := HRb.out.lt; simp; omega)); (focus (exact ⟨rfl, fun k hk => match k, hk with | 0, _ => ⟨_, rfl, by decide, by decide⟩ | 1, _ => ⟨_, rfl, by decide, by decide⟩ | 2, _ => ⟨_, rfl, by decide, by decide⟩ | 3, _ => ⟨_, rfl, by decide, by decide⟩ | 4, _ => ⟨_, rfl, by decide, by decide⟩ | 5, _ => ⟨_, rfl, by decide, by decide⟩ | (k + 6), hk => absurd hk (by omega)⟩)); (focus omega); omega)); rintro e wc ⟨s3, rfl, hs3, hrd3, hg3⟩; have HR3 := Lib.hid hrd3; have HG3 := Lib.hid hg3; have HS3 := Lib.hid hs3; have hs3a : s3.size ≤ 1 := hs3.2; have c1 : ¬ 9223372036854775807 < p1.size + s3.size := (by omega); have c2 : ¬ 9223372036854775807 < p1.size + s3.size + p2.size := (by omega); clear hrd3 hg3 hs3))
        all_goals go_wp2
        all_goals go_ret
        all_goals exact ⟨_, rfl, ⟨Nat.zero_le _, by have := HS3.out; have := E1.out; have := E2.out; simp; omega⟩, ⟨_, by omega, HR3.out⟩, grown_trans (grown_alloc (grown_drew HGb.out) _) HG3.out⟩
      · have hva' : (va == 0) = false := by simpa using hva
        go_wp2_with fail
        go_ret
        exact ⟨str, rfl, ⟨Nat.zero_le _, by omega⟩, ⟨_, by omega, HRa.out⟩, HGa.out⟩
  · rcases hv with rfl | rfl
    all_goals
      go_wp2_with fail
      refine (l91Leaf_any R _ _ HR0.out (by omega)).mono ?_
      rintro e wl1 ⟨sl1, rfl, hl1, hrl1, hgl1⟩
      have K1 := Lib.hid hl1
      have HRl1 := Lib.hid hrl1
      have HGl1 := Lib.hid (grown_trans HG0.out hgl1)
      clear hl1 hrl1 hgl1
      go_wp2_with fail
      refine (l91Leaf_any R _ _ HRl1.out (by omega)).mono ?_
      rintro e wl2 ⟨sl2, rfl, hl2, hrl2, hgl2⟩
      have K2 := Lib.hid hl2
      have HRl2 := Lib.hid hrl2
      have HGl2 := Lib.hid (grown_trans HGl1.out hgl2)
      clear hl2 hrl2 hgl2
      go_wp2_with fail
      have hlp := HRl2.out.lt
      refine (l91List_any R _ _ (HRl2.out.alloc _) (by omega) wl2.heap.size 2 1 1 _ _ (heap_alloc_new wl2 _) (by omega) (strArr2 K1.out K2.out) (by omega) (by omega) (by omega)).mono ?_
      rintro e wA ⟨sA, rfl, hA, hrA, hgA⟩
      have KA := Lib.hid hA
      have HRA := Lib.hid hrA
      have HGA := Lib.hid (grown_trans (grown_alloc HGl2.out _) hgA)
      clear hA hrA hgA hlp K1 K2 HRl1 HRl2 HGl1 HGl2
      go_wp2_with fail
      refine (l91Leaf_any R _ _ HRA.out (by omega)).mono ?_
      rintro e wl1 ⟨sl1, rfl, hl1, hrl1, hgl1⟩
      have K1 := Lib.hid hl1
      have HRl1 := Lib.hid hrl1
      have HGl1 := Lib.hid (grown_trans HGA.out hgl1)
      clear hl1 hrl1 hgl1
      go_wp2_with fail
      refine (l91Leaf_any R _ _ HRl1.out (by omega)).mono ?_
      rintro e wl2 ⟨sl2, rfl, hl2, hrl2, hgl2⟩
      have K2 := Lib.hid hl2
      have HRl2 := Lib.hid hrl2
      have HGl2 := Lib.hid (grown_trans HGl1.out hgl2)
      clear hl2 hrl2 hgl2
      go_wp2_with fail
      refine (l91Leaf_any R _ _ HRl2.out (by omega)).mono ?_
      rintro e wl3 ⟨sl3, rfl, hl3, hrl3, hgl3⟩
      have K3 := Lib.hid hl3
      have HRl3 := Lib.hid hrl3
      have HGl3 := Lib.hid (grown_trans HGl2.out hgl3)
      clear hl3 hrl3 hgl3
      go_wp2_with fail
      have hlp := HRl3.out.lt
      refine (l91List_any R _ _ (HRl3.out.alloc _) (by omega) wl3.heap.size 3 1 1 _ _ (heap_alloc_new wl3 _) (by omega) (strArr3 K1.out K2.out K3.out) (by omega) (by omega) (by omega)).mono ?_
      rintro e wB ⟨sB, rfl, hB, hrB, hgB⟩
      have KB := Lib.hid hB
      have HRB := Lib.hid hrB
      have HGB := Lib.hid (grown_trans (grown_alloc HGl3.out _) hgB)
      clear hB hrB hgB hlp
      go_wp2_with fail
      have hlp := HRB.out.lt
      refine (l91List_any R _ _ (HRB.out.alloc _) (by omega) wB.heap.size 2 3 9 _ _ (heap_alloc_new wB _) (by omega) (strArr2 ⟨KA.out.1, by have := KA.out.2; omega⟩ ⟨KB.out.1, by have := KB.out.2; omega⟩) (by omega) (by omega) (by omega)).mono ?_
      rintro e w1 ⟨str, rfl, ⟨hl1, hl2⟩, hr1, hg1⟩
      have HR1 := Lib.hid hr1
      have HG1 := Lib.hid (grown_trans (grown_alloc HGB.out _) hg1)
      clear hr1 hg1 hlp
      go_wp2_with fail
      (apply Calls.mono; focus (apply pick_abs; exact HR1.out; omega)); rintro e wa ⟨va, rfl, hva0, hva1, hrda, hsza, hcpa, hfpa, hgpa⟩
      replace hva1 := hva1 (by omega)
      have HRa := Lib.hid hrda
      have HGa := Lib.hid (grown_trans HG1.out hgpa)
      clear hcpa hfpa hsza hrda hgpa
      by_cases hva : va = 0
      · subst hva
        go_wp2_with fail
        (apply Calls.mono; focus (apply pick_abs; exact HRa.out; omega)); rintro e wb ⟨vb, rfl, hvb0, hvb1, hrdb, hszb, hcpb, hfpb, hgpb⟩
        replace hvb1 := hvb1 (by omega)
        obtain ⟨k, rfl⟩ := Int.eq_ofNat_of_zero_le hvb0
        have HRb := Lib.hid hrdb
        have HGb := Lib.hid (grown_trans HGa.out hgpb)
        clear hcpb hfpb hszb hrdb hgpb
        have n0 : (0 : Int) ≤ k := by omega
        have n1 : (k : Int) ≤ str.size := by omega
        have n2 : IntKind.i64.wrap ((k : Int) + 1) = (k : Int) + 1 := IntWalk.i64_in _ (by omega)
        have n3 : (0 : Int) ≤ (k : Int) + 1 := by omega
        have n4 : (k : Int) + 1 ≤ str.size := by omega
        have n5 : ((k : Int) + 1).toNat = k + 1 := by omega
        have e1 : (str.extract 0 k).size = k := by simp [ByteArray.size_extract]; omega
        have e2 : (str.extract (k + 1) str.size).size = str.size - (k + 1) := by simp [ByteArray.size_extract]
        obtain ⟨p1, hp1⟩ : ∃ p, str.extract 0 k = p := ⟨_, rfl⟩
        obtain ⟨p2, hp2⟩ : ∃ p, str.extract (k + 1) str.size = p := ⟨_, rfl⟩
        rw [hp1] at e1
        rw [hp2] at e2
        have E1 := Lib.hid e1
        have E2 := Lib.hid e2
        have hp1s : p1.size ≤ 100 := by omega
        have hp2s : p2.size ≤ 100 := by omega
        clear e1 e2
        go_wp2_with fail
        go_region_held3 (fun _ => True) (trivial) ((go_at_call 65; (apply Calls.mono; focus (apply of_any (lo := 0) (hi := 1) (n := 6) R _ _ (Rdr.alloc (Rdr.drew HRb.out) _); (focus omega); (focus (exact heap_alloc_new _ _)); (focus (have hl := HRb.out.lt; simp; omega)); (focus (exact ⟨rfl, fun k hk => match k, hk with | 0, _ => ⟨_, rfl, by decide, by decide⟩ | 1, _ => ⟨_, rfl, by decide, by decide⟩ | 2, _ => ⟨_, rfl, by decide, by decide⟩ | 3, _ => ⟨_, rfl, by decide, by decide⟩ | 4, _ => ⟨_, rfl, by decide, by decide⟩ | 5, _ => ⟨_, rfl, by decide, by decide⟩ | (k + 6), hk => absurd hk (by omega)⟩)); (focus omega); omega)); rintro e wc ⟨s3, rfl, hs3, hrd3, hg3⟩; have HR3 := Lib.hid hrd3; have HG3 := Lib.hid hg3; have HS3 := Lib.hid hs3; have hs3a : s3.size ≤ 1 := hs3.2; have c1 : ¬ 9223372036854775807 < p1.size + s3.size := (by omega); have c2 : ¬ 9223372036854775807 < p1.size + s3.size + p2.size := (by omega); clear hrd3 hg3 hs3))
        all_goals go_wp2
        all_goals go_ret
        all_goals exact ⟨_, rfl, ⟨Nat.zero_le _, by have := HS3.out; have := E1.out; have := E2.out; simp; omega⟩, ⟨_, by omega, HR3.out⟩, grown_trans (grown_alloc (grown_drew HGb.out) _) HG3.out⟩
      · have hva' : (va == 0) = false := by simpa using hva
        go_wp2_with fail
        go_ret
        exact ⟨str, rfl, ⟨Nat.zero_le _, by omega⟩, ⟨_, by omega, HRa.out⟩, HGa.out⟩
end Go.Proofs.Ytiepoadnncnbkaa
