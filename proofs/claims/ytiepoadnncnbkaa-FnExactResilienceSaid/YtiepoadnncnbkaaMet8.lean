/- The program's Resilience. -/
import Derived.Test.YtiepoadnncnbkaaMet7
namespace Go.Proofs.Ytiepoadnncnbkaa
open Go.RowKit
set_option maxHeartbeats 4000000

theorem implResil_any (A : Option Addr) (n c : Nat) (zss : List (List Int)) (x : Int) (w : World) (h : Mat w w.heap.size A n zss) (hz : SzOk zss n) :
    Calls Try.prog 26 #[.slice A n c, .int .i64 x] w fun e w' => e = .returned (.int .i64 (rsV zss n x)) ∧ Below w.heap.size w w' := by
  have H1 := measure_any A n c zss x w h hz
  unfold MeRes at H1
  have HL := Lib.hid h.len
  clear h hz
  obtain ⟨p, hp⟩ : ∃ p, fitB zss n x = p := ⟨_, rfl⟩
  obtain ⟨r, hr⟩ : ∃ r, r = rsV zss n x := ⟨_, rfl⟩
  rw [hp] at H1
  rw [← hr]
  have K1 := Lib.hid H1
  have HP := Lib.hid hp
  have HR := Lib.hid hr
  clear H1 hp hr
  cases p
  · have HF : Hid (r = -1) := by rw [HR.out]; exact rs_no HP.out
    go_enter Try.func26, Try.ntmps26
    go_wp2_with fail
    refine K1.out.mono ?_
    rintro e w1 ⟨v, f, rfl, -, hb⟩
    have HB := Lib.hid hb
    clear hb
    go_wp2
    go_ret
    exact ⟨ret_i' HF.out.symm, HB.out⟩
  obtain ⟨f1, f2, f3, f4⟩ := fit_parts HP.out
  obtain ⟨N, hN1, hN6, rfl⟩ := inB_nat f3
  obtain ⟨h20, hto⟩ := famB_to f1
  rw [HL.out] at hto h20
  have hg : ∀ k, k < n → mAt zss k < 64 ∧ mAt zss k ≠ 0 := fun k hk => ⟨m_small (fam_set hk hto), m_pos hto hk⟩
  have hF : r = ((worstTo (mAt zss) n N 64 : Nat) : Int) - 1 := by rw [HR.out]; exact rs_yes HP.out
  obtain ⟨F2, hF2⟩ : ∃ F2, F2 = (fun c => byTo (fun m => !(anyTo (mAt zss) m n)) c (2 ^ N)) := ⟨_, rfl⟩
  have hmiss : ∀ c, F2 c = byTo (miss (mAt zss) n N) c (2 ^ N) := fun c => by rw [hF2]; exact by_same c _ (miss_is hN6)
  have hend : ∀ k : Nat, k ≤ N → (∀ j, j < k → F2 (N - j - 1) = 0) → (k = N ∨ F2 (N - k - 1) ≠ 0) → (k : Int) = r := fun k hk h1 h2 => by
    have := resil_is hN1 hN6 f2 hg f4 hk (fun j hj => by rw [← hmiss]; exact h1 j hj) (by rw [← hmiss]; exact h2)
    rw [hF, this.2]
    omega
  have HEnd := Lib.hid hend
  have HFD := Lib.hid hF2
  have HG := Lib.hid (fun k hk => (hg k hk).1)
  clear f1 f2 f3 f4 hto hg hF hF2 hmiss hend
  go_enter Try.func26, Try.ntmps26
  go_wp2_with fail
  refine K1.out.mono ?_
  rintro e w1 ⟨v, f, rfl, ho, hb1⟩
  obtain ⟨hfv, ho2⟩ := ho trivial
  have hfv2 : f = (fst_ N : Nat) := hfv
  subst hfv2
  obtain ⟨AQ, cq, rfl, _, _, hqrow⟩ := owns_row ho2
  have hT := tally_any (mAt zss) AQ n cq N w1 hqrow HG.out h20 hN6
  rw [← HFD.out] at hT
  generalize (fun c => byTo (fun m => anyTo (mAt zss) m n) c (2 ^ N)) = F1 at hT
  have hsv : sv F2 = [.int .i64 (F2 0 : Nat), .int .i64 (F2 1 : Nat), .int .i64 (F2 2 : Nat), .int .i64 (F2 3 : Nat), .int .i64 (F2 4 : Nat), .int .i64 (F2 5 : Nat), .int .i64 (F2 6 : Nat)] := rfl
  unfold sv at hT
  have HT := Lib.hid hT
  have HB1 := Lib.hid hb1
  have HSV := Lib.hid hsv
  clear hfv ho ho2 hqrow hb1 hT hsv
  go_wp2_with fail
  refine HT.out.mono ?_
  rintro e w2 ⟨rfl, hb2⟩
  have HB2 := Lib.hid (HB1.out.trans (hb2.mono HB1.out.size))
  clear hb2
  go_wp2
  obtain ⟨W3, hW3⟩ : ∃ W3, W3 = ((w2.alloc (.cells #[.int .i64 (F1 0 : Nat), .int .i64 (F1 1 : Nat), .int .i64 (F1 2 : Nat), .int .i64 (F1 3 : Nat), .int .i64 (F1 4 : Nat), .int .i64 (F1 5 : Nat), .int .i64 (F1 6 : Nat)] 54)).alloc (.cells #[.int .i64 (F2 0 : Nat), .int .i64 (F2 1 : Nat), .int .i64 (F2 2 : Nat), .int .i64 (F2 3 : Nat), .int .i64 (F2 4 : Nat), .int .i64 (F2 5 : Nat), .int .i64 (F2 6 : Nat)] 54)) := ⟨_, rfl⟩
  rw [← hW3]
  have hblk : W3.heap[w2.heap.size + 1]? = some (.cells (sv F2).toArray 54 (0, 0)) := by rw [hW3, HSV.out]; exact al_new (by simp)
  have hB3 : Below w.heap.size w W3 := by rw [hW3]; exact (HB2.out.alloc HB2.out.size _).alloc (by have := HB2.out.size; simp; omega) _
  have HBlk := Lib.hid hblk
  have HB3 := Lib.hid hB3
  clear hW3 hblk hB3
  go_loop [10] (fun i => ∃ k : Nat, k ≤ N ∧ i = .int .i64 (k : Nat) ∧ ∀ j, j < k → F2 (N - j - 1) = 0) (fun i => N - (intOf i).toNat)
  case atStart => exact ⟨0, by omega, rfl, fun j hj => by omega⟩
  case round =>
    obtain ⟨k, hk, rfl, hno⟩ := hrel
    have HNo := Lib.hid hno
    clear hno
    by_cases hkn : k < N
    · have i1 : (k : Int) < N := by omega
      have j1 : wrap64 ((N : Int) - k) = (N : Int) - k := IntWalk.wrap64_in _ (by omega)
      have j2 : wrap64 ((N : Int) - k - 1) = (N : Int) - k - 1 := IntWalk.wrap64_in _ (by omega)
      have j3 : (0 : Int) ≤ (N : Int) - k - 1 := by omega
      have j4 : (N : Int) - k - 1 < 7 := by omega
      have j5 : ((N : Int) - k - 1).toNat = N - k - 1 := by omega
      have hcc := (blk_cell HBlk.out (N - k - 1)).trans (sv_at F2 (by omega))
      by_cases hz : F2 (N - k - 1) = 0
      · rw [hz] at hcc
        have HZ := Lib.hid hz
        clear hz
        go_wp2
        go_round
        case rel => exact ⟨k + 1, by omega, by go_num, fun j hj => by
          by_cases e : j = k
          · subst e; exact HZ.out
          · exact HNo.out j (by omega)⟩
        case measure => simp [intOf]; omega
      · have HV := Lib.hid (HEnd.out k hk HNo.out (.inr hz))
        have hz2 : (((F2 (N - k - 1) : Nat) : Int) == 0) = false := by simp; exact hz
        generalize F2 (N - k - 1) = fv at hcc hz hz2
        go_wp2
        go_ret
        exact ⟨ret_i' HV.out, HB3.out⟩
    · have HV := Lib.hid (HEnd.out k hk HNo.out (.inl (by omega)))
      have i1 : ¬ (k : Int) < N := by omega
      go_wp2
      go_ret
      exact ⟨ret_i' HV.out, HB3.out⟩
end Go.Proofs.Ytiepoadnncnbkaa
