/- The reference's l2End: where an expression ends. -/
import Derived.Test.YtiepoadnncnbkaaEx0
import Derived.Test.YtiepoadnncnbkaaFam6
import Derived.LoopTactic
import Derived.IntWalk
import Derived.Lib.Hide
namespace Go.Proofs.Ytiepoadnncnbkaa
open Go.RowKit
set_option maxHeartbeats 2000000

theorem u8_sub {c : Nat} (h1 : 48 ≤ c) (h2 : c < 256) : IntKind.u8.wrap ((c : Int) - 48) = ((c - 48 : Nat) : Int) := by
  have : IntKind.u8.wrap ((c : Int) - 48) = ((c : Int) - 48) % 256 := by first | rfl | simp [IntKind.wrap]
  rw [this]
  omega
theorem byte_lt (x : UInt8) : x.toNat < 256 := UInt8.toNat_lt x

theorem l2End_any (s : ByteArray) (hs : s.size ≤ 1048576) (f : Nat) : ∀ (i : Nat) (w : World), i ≤ s.size → s.size - i < f → Calls Try.prog 69 #[.string s, .int .i64 (i : Int)] w fun e w' => e = .returned (.int .i64 (endI (pe s f i))) ∧ w' = w := by
  induction f with
  | zero => exact fun i w hi hf => absurd hf (by omega)
  | succ f IH =>
    intro i w hi hf
    obtain ⟨r, hr⟩ : ∃ r, r = endI (pe s (f + 1) i) := ⟨_, rfl⟩
    rw [← hr]
    by_cases hin : i < s.size
    case neg =>
      have HF := Lib.hid (show r = -1 by rw [hr]; exact endI_no (by rw [bt_off (by omega)]; rfl))
      have h1 : (s.size : Int) ≤ i := by omega
      clear hr IH
      go_enter Try.func69, Try.ntmps69
      go_wp2
      go_ret
      exact ⟨ret_i HF.out.symm, rfl⟩
    have h1 : (i : Int) < s.size := by omega
    have hb := bt_at hin
    obtain ⟨x, hx⟩ : ∃ x, s[i] = x := ⟨_, rfl⟩
    rw [hx] at hb
    have hx2 := byte_lt x
    obtain ⟨c, hc⟩ : ∃ c, x.toNat = c := ⟨_, rfl⟩
    rw [hc] at hb hx2
    have HB := Lib.hid hb
    clear hb
    by_cases hc1 : c < 49
    · have HF := Lib.hid (show r = -1 by rw [hr]; exact endI_no (by rw [HB.out]; exact isD_no (.inl hc1)))
      have hc2 : (c : Int) < 49 := by omega
      clear hr IH
      go_enter Try.func69, Try.ntmps69
      go_wp2
      go_ret
      exact ⟨ret_i HF.out.symm, rfl⟩
    by_cases hc54 : 54 < c
    · have HF := Lib.hid (show r = -1 by rw [hr]; exact endI_no (by rw [HB.out]; exact isD_no (.inr hc54)))
      have hc2 : ¬ (c : Int) < 49 := by omega
      have hc3 : (54 : Int) < c := by omega
      clear hr IH
      go_enter Try.func69, Try.ntmps69
      go_wp2
      go_ret
      exact ⟨ret_i HF.out.symm, rfl⟩
    have hd : isD (bt s i) = true := by rw [HB.out]; exact isD_iff.2 ⟨by omega, by omega⟩
    have hc2 : ¬ (c : Int) < 49 := by omega
    have hc3 : ¬ (54 : Int) < c := by omega
    have hsub := u8_sub (c := c) (by omega) (by omega)
    obtain ⟨N, hN⟩ : ∃ N, c - 48 = N := ⟨_, rfl⟩
    rw [hN] at hsub
    have hN2 : bt s i - 48 = N := by rw [HB.out]; exact hN
    have hN6 : N ≤ 6 := by omega
    have j1 : IntKind.i64.wrap ((i : Int) + 1) = (i : Int) + 1 := IntWalk.i64_in _ (by omega)
    have j3 : ((i : Int) + 1).toNat = i + 1 := by omega
    have j4 : (0 : Int) ≤ (i : Int) + 1 := by omega
    by_cases h40 : bt s (i + 1) = 40
    case neg =>
      have HF := Lib.hid (show r = (i : Int) + 1 by rw [hr, endI_leaf hd h40]; omega)
      by_cases hin2 : i + 1 < s.size
      · have hb2 := bt_at hin2
        obtain ⟨y, hy⟩ : ∃ y, s[i + 1] = y := ⟨_, rfl⟩
        rw [hy] at hb2
        have hy40 : ¬ ((y.toNat : Nat) : Int) = 40 := by omega
        have hy41 : (((y.toNat : Nat) : Int) != 40) = true := by simp; omega
        have h2 : (i : Int) + 1 < s.size := by omega
        clear hr IH hd h40 hb2 hN hN2
        go_enter Try.func69, Try.ntmps69
        go_wp2
        go_ret
        exact ⟨ret_i HF.out.symm, rfl⟩
      · have h2 : (s.size : Int) ≤ (i : Int) + 1 := by omega
        clear hr IH hd h40 hN hN2
        go_enter Try.func69, Try.ntmps69
        go_wp2
        go_ret
        exact ⟨ret_i HF.out.symm, rfl⟩
    have hR0 : r = finI N 0 (pl s (pe s f) f (i + 2)) := by rw [hr, endI_gate hd h40, hN2]
    have HR0 := Lib.hid hR0
    have hin2 := bt_lt (s := s) (i := i + 1) (by omega)
    have hb2 := bt_at hin2
    obtain ⟨y, hy⟩ : ∃ y, s[i + 1] = y := ⟨_, rfl⟩
    rw [hy] at hb2
    have hy40 : ((y.toNat : Nat) : Int) = 40 := by omega
    have H40 := Lib.hid h40
    have h2 : (i : Int) + 1 < s.size := by omega
    clear hr hR0 hd h40 hb2 hN hN2
    go_enter Try.func69, Try.ntmps69
    go_wp2
    go_loop [1, 6] (fun a p => ∃ j k f' : Nat, a = .int .i64 j ∧ p = .int .i64 k ∧ k ≤ 6 ∧ i < j ∧ j ≤ s.size ∧ s.size ≤ j + f' ∧ ((k = 0 ∧ bt s j = 40 ∧ r = finI N 0 (pl s (pe s f) f' (j + 1))) ∨ (1 ≤ k ∧ r = hdI s (pe s f) N k j f'))) (fun a _ => s.size - (intOf a).toNat)
    case atStart => exact ⟨i + 1, 0, f, by go_num, rfl, by omega, by omega, by omega, by omega, .inl ⟨rfl, H40.out, HR0.out⟩⟩
    case round =>
      obtain ⟨j, k, f', rfl, rfl, hk6, hij, hjs, hjf, hor⟩ := hrel
      clear j1 j3 j4 h1 h2 hsub hy40 hy hx hc hc2 hc3
      have n1 : IntKind.i64.wrap ((j : Int) + 1) = (j : Int) + 1 := IntWalk.i64_in _ (by omega)
      rcases hor with ⟨hk0, hj40, hR⟩ | ⟨hk1, hR⟩
      · subst hk0
        have hjl := bt_lt (s := s) (i := j) (by omega)
        have hb3 := bt_at hjl
        obtain ⟨z, hz⟩ : ∃ z, s[j] = z := ⟨_, rfl⟩
        rw [hz] at hb3
        have hz1 : ((z.toNat : Nat) : Int) = 40 := by omega
        have m1 : (j : Int) < s.size := by omega
        have HRk := Lib.hid (show r = finI N 0 (pl s (pe s f) f' (j + 1)) from hR)
        clear hR hj40 hb3
        obtain ⟨f2, rfl⟩ : ∃ f2, f' = f2 + 1 := ⟨f' - 1, by omega⟩
        have hst := finI_step s (pe s f) N 0 f2 (j + 1)
        rw [← HRk.out] at hst
        have hc := IH (j + 1) w (by omega) (by omega)
        have he : ((j + 1 : Nat) : Int) = (j : Int) + 1 := by omega
        rw [he] at hc
        cases hq : pe s f (j + 1) with
        | none =>
          rw [hq] at hst hc
          have HS := Lib.hid (show r = -1 from hst)
          have HC := Lib.hid hc
          clear hst hc hq he
          go_wp2_with (first | (go_at_call 69; refine HC.out.mono ?_; rintro e w' ⟨rfl, rfl⟩; simp only [endI]))
          go_ret
          exact ⟨ret_i HS.out.symm, rfl⟩
        | some y =>
          obtain ⟨t, e1⟩ := y
          obtain ⟨hy1, hy2⟩ := pe_end f _ _ _ hq
          rw [hq] at hst hc
          have HS := Lib.hid (show r = hdI s (pe s f) N (0 + 1) e1 f2 from hst)
          have HC := Lib.hid hc
          have hen : ¬ ((e1 : Int) < 0) := by omega
          clear hst hc hq he
          go_wp2_with (first | (go_at_call 69; refine HC.out.mono ?_; rintro e w' ⟨rfl, rfl⟩; simp only [endI]))
          go_round
          case rel => exact ⟨e1, 0 + 1, f2, rfl, by go_num, by omega, by omega, by omega, by omega, .inr ⟨by omega, HS.out⟩⟩
          case measure => simp [intOf]; omega
      · have HRk0 := Lib.hid hR
        clear hR
        by_cases hjl : j < s.size
        case neg =>
          have HF := Lib.hid (show r = -1 by rw [HRk0.out]; unfold hdI; rw [bt_off (by omega)]; rfl)
          have m1 : (s.size : Int) ≤ j := by omega
          go_wp2
          go_ret
          exact ⟨ret_i HF.out.symm, rfl⟩
        have m1 : (j : Int) < s.size := by omega
        have hb3 := bt_at hjl
        obtain ⟨z, hz⟩ : ∃ z, s[j] = z := ⟨_, rfl⟩
        rw [hz] at hb3
        have kd : decide ((0 : Int) < k) = true := by simp; omega
        have kd0 : decide (0 < k) = true := by simp; omega
        by_cases h41 : bt s j = 41
        · have hz1 : ((z.toNat : Nat) : Int) = 41 := by omega
          by_cases hnk : N ≤ k
          · have HF := Lib.hid (show r = (j : Int) + 1 by rw [HRk0.out]; unfold hdI; rw [if_pos h41, if_pos ⟨hk6, hnk⟩]; omega)
            have hnk1 : ¬ (k : Int) < N := by omega
            clear h41 hb3
            go_wp2
            go_ret
            exact ⟨ret_i HF.out.symm, rfl⟩
          · have HF := Lib.hid (show r = -1 by rw [HRk0.out]; unfold hdI; rw [if_pos h41, if_neg (by omega)])
            have hnk1 : (k : Int) < N := by omega
            clear h41 hb3
            go_wp2
            go_ret
            exact ⟨ret_i HF.out.symm, rfl⟩
        have hz1 : ¬ ((z.toNat : Nat) : Int) = 41 := by omega
        have hz2 : (((z.toNat : Nat) : Int) != 41) = true := by simp; omega
        by_cases h44 : bt s j = 44
        case neg =>
          have HF := Lib.hid (show r = -1 by rw [HRk0.out]; unfold hdI; rw [if_neg h41, if_neg h44])
          have hz3 : ¬ ((z.toNat : Nat) : Int) = 44 := by omega
          have hz4 : (((z.toNat : Nat) : Int) != 44) = true := by simp; omega
          clear h41 h44 hb3
          go_wp2
          go_ret
          exact ⟨ret_i HF.out.symm, rfl⟩
        have hz3 : ((z.toNat : Nat) : Int) = 44 := by omega
        have HRk := Lib.hid (show r = finI N k (pl s (pe s f) f' (j + 1)) by rw [HRk0.out]; unfold hdI; rw [if_neg h41, if_pos h44])
        clear h41 h44 hb3 hz1 hz2 HRk0
        by_cases hk66 : k = 6
        · have HF := Lib.hid (show r = -1 by rw [HRk.out, hk66]; exact finI_many (pe_end f) N f' (j + 1))
          subst hk66
          go_wp2
          go_ret
          exact ⟨ret_i HF.out.symm, rfl⟩
        have hk5 : ¬ (6 : Int) ≤ k := by omega
        obtain ⟨f2, rfl⟩ : ∃ f2, f' = f2 + 1 := ⟨f' - 1, by omega⟩
        have hst := finI_step s (pe s f) N k f2 (j + 1)
        rw [← HRk.out] at hst
        have hc := IH (j + 1) w (by omega) (by omega)
        have he : ((j + 1 : Nat) : Int) = (j : Int) + 1 := by omega
        rw [he] at hc
        cases hq : pe s f (j + 1) with
        | none =>
          rw [hq] at hst hc
          have HS := Lib.hid (show r = -1 from hst)
          have HC := Lib.hid hc
          clear hst hc hq he
          go_wp2_with (first | (go_at_call 69; refine HC.out.mono ?_; rintro e w' ⟨rfl, rfl⟩; simp only [endI]))
          go_ret
          exact ⟨ret_i HS.out.symm, rfl⟩
        | some y =>
          obtain ⟨t, e1⟩ := y
          obtain ⟨hy1, hy2⟩ := pe_end f _ _ _ hq
          rw [hq] at hst hc
          have HS := Lib.hid (show r = hdI s (pe s f) N (k + 1) e1 f2 from hst)
          have HC := Lib.hid hc
          have hen : ¬ ((e1 : Int) < 0) := by omega
          clear hst hc hq he
          go_wp2_with (first | (go_at_call 69; refine HC.out.mono ?_; rintro e w' ⟨rfl, rfl⟩; simp only [endI]))
          go_round
          case rel => exact ⟨e1, k + 1, f2, rfl, by go_num, by omega, by omega, by omega, by omega, .inr ⟨by omega, HS.out⟩⟩
          case measure => simp [intOf]; omega
end Go.Proofs.Ytiepoadnncnbkaa
