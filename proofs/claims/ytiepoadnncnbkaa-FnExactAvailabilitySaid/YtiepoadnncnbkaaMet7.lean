/- The program's Availability. -/
import Derived.Test.YtiepoadnncnbkaaMet5
import Derived.Test.YtiepoadnncnbkaaMet6
import Derived.Test.YtiepoadnncnbkaaMet3
namespace Go.Proofs.Ytiepoadnncnbkaa
open Go.RowKit
set_option maxHeartbeats 4000000

/-- The sum of the first k counts. -/
def ps (f : Nat → Nat) : Nat → Nat
  | 0 => 0
  | k + 1 => ps f k + f k
theorem ps_le {f : Nat → Nat} (h : ∀ c, f c ≤ 64) : ∀ k, ps f k ≤ 64 * k
  | 0 => Nat.le_refl _
  | k + 1 => by
    have := ps_le h k
    have := h k
    unfold ps
    omega
theorem ps_step {f : Nat → Nat} (h : ∀ c, f c ≤ 64) (k : Nat) (hk : k < 7) : wrap64 ((ps f k : Nat) + (f k : Nat)) = ((ps f (k + 1) : Nat) : Int) := by
  have h1 := ps_le h k
  have h2 := h k
  rw [IntWalk.wrap64_in _ (by omega)]
  show _ = ((ps f k + f k : Nat) : Int)
  omega
theorem cnt_same {P P' : Nat → Bool} : ∀ k, (∀ m, m < k → P m = P' m) → cntTo P k = cntTo P' k
  | 0, _ => rfl
  | k + 1, h => by
    show cntTo P k + _ = cntTo P' k + _
    rw [cnt_same k (fun m hm => h m (by omega)), h k (by omega)]
theorem by_same {P P' : Nat → Bool} (c k : Nat) (h : ∀ m, m < k → P m = P' m) : byTo P c k = byTo P' c k :=
  cnt_same k (fun m hm => by rw [h m hm])
theorem hit_is {g : Nat → Nat} {n N : Nat} (hN : N ≤ 6) : ∀ m, m < 2 ^ N → anyTo g m n = hit g n N m := fun m hm => by
  have := pow_le N hN
  unfold hit
  rw [in_fst N hN m (by omega)]
  simp [hm]
theorem miss_is {g : Nat → Nat} {n N : Nat} (hN : N ≤ 6) : ∀ m, m < 2 ^ N → (!(anyTo g m n)) = miss g n N m := fun m hm => by
  have := pow_le N hN
  unfold miss
  rw [in_fst N hN m (by omega)]
  simp [hm]
theorem ps_sum {g : Nat → Nat} {n N : Nat} (hN : N ≤ 6) : ps (fun c => byTo (fun m => anyTo g m n) c (2 ^ N)) 7 = cntTo (hit g n N) 64 := by
  rw [hit_stop hN, ← cnt_same (2 ^ N) (hit_is hN)]
  have := byTo_sum (fun m => anyTo g m n) (2 ^ N)
  simp only [ps]
  omega

theorem implAvail_any (A : Option Addr) (n c : Nat) (zss : List (List Int)) (x : Int) (w : World) (h : Mat w w.heap.size A n zss) (hz : SzOk zss n) :
    Calls Try.prog 24 #[.slice A n c, .int .i64 x] w fun e w' => e = .returned (.int .i64 (avV zss n x)) ∧ Below w.heap.size w w' := by
  have H1 := measure_any A n c zss x w h hz
  unfold MeRes at H1
  have HL := Lib.hid h.len
  clear h hz
  obtain ⟨p, hp⟩ : ∃ p, fitB zss n x = p := ⟨_, rfl⟩
  obtain ⟨r, hr⟩ : ∃ r, r = avV zss n x := ⟨_, rfl⟩
  rw [hp] at H1
  rw [← hr]
  have K1 := Lib.hid H1
  have HP := Lib.hid hp
  have HR := Lib.hid hr
  clear H1 hp hr
  cases p
  · have HF : Hid (r = -1) := by rw [HR.out]; exact av_no HP.out
    go_enter Try.func24, Try.ntmps24
    go_wp2_with fail
    refine K1.out.mono ?_
    rintro e w1 ⟨v, f, rfl, -, hb⟩
    have HB := Lib.hid hb
    clear hb
    go_wp2
    go_ret
    exact ⟨ret_i' HF.out.symm, HB.out⟩
  obtain ⟨f1, f2, f3, f4⟩ := fit_parts HP.out
  obtain ⟨N, hN1, hN6, rfl⟩ := inB_nat f3
  obtain ⟨h20, hto⟩ := famB_to f1
  rw [HL.out] at hto h20
  have hg : ∀ k, k < n → mAt zss k < 64 := fun k hk => m_small (fam_set hk hto)
  have HG := Lib.hid hg
  have HF : Hid (r = (cntTo (hit (mAt zss) n N) 64 : Nat)) := by rw [HR.out]; exact av_yes HP.out
  have hps := ps_sum (g := mAt zss) (n := n) hN6
  obtain ⟨F1, hF1⟩ : ∃ F1, F1 = (fun c => byTo (fun m => anyTo (mAt zss) m n) c (2 ^ N)) := ⟨_, rfl⟩
  have hF64 : ∀ c, F1 c ≤ 64 := fun c => by rw [hF1]; exact Nat.le_trans (byTo_le _ _ _) (pow_le N hN6)
  rw [← hF1] at hps
  rw [← hps] at HF
  have HFD := Lib.hid hF1
  have HF64 := Lib.hid hF64
  have g0 := ps_step hF64 0 (by omega)
  have g1 := ps_step hF64 1 (by omega)
  have g2 := ps_step hF64 2 (by omega)
  have g3 := ps_step hF64 3 (by omega)
  have g4 := ps_step hF64 4 (by omega)
  have g5 := ps_step hF64 5 (by omega)
  have g6 := ps_step hF64 6 (by omega)
  clear f1 f2 f3 f4 hto hg hps hF1 hF64
  go_enter Try.func24, Try.ntmps24
  go_wp2_with fail
  refine K1.out.mono ?_
  rintro e w1 ⟨v, f, rfl, ho, hb1⟩
  obtain ⟨hfv, ho2⟩ := ho trivial
  have hfv2 : f = (fst_ N : Nat) := hfv
  subst hfv2
  obtain ⟨AQ, cq, rfl, _, _, hqrow⟩ := owns_row ho2
  have hT := tally_any (mAt zss) AQ n cq N w1 hqrow HG.out h20 hN6
  rw [← HFD.out] at hT
  generalize (fun c => byTo (fun m => !(anyTo (mAt zss) m n)) c (2 ^ N)) = F2 at hT
  unfold sv at hT
  have HT := Lib.hid hT
  clear hT
  have HB1 := Lib.hid hb1
  clear hfv ho ho2 hqrow hb1
  go_wp2_with fail
  refine HT.out.mono ?_
  rintro e w2 ⟨rfl, hb2⟩
  have HB2 := Lib.hid (HB1.out.trans (hb2.mono HB1.out.size))
  clear hb2
  go_wp2
  have ix0 : ∀ w, (Instr.index 54 (.agg #[.int .i64 (F1 0 : Nat), .int .i64 (F1 1 : Nat), .int .i64 (F1 2 : Nat), .int .i64 (F1 3 : Nat), .int .i64 (F1 4 : Nat), .int .i64 (F1 5 : Nat), .int .i64 (F1 6 : Nat)]) (.int .i64 0)).run Try.prog w = .ok (.int .i64 (F1 0 : Nat)) w := fun _ => by kernel_rfl
  have ix1 : ∀ w, (Instr.index 54 (.agg #[.int .i64 (F1 0 : Nat), .int .i64 (F1 1 : Nat), .int .i64 (F1 2 : Nat), .int .i64 (F1 3 : Nat), .int .i64 (F1 4 : Nat), .int .i64 (F1 5 : Nat), .int .i64 (F1 6 : Nat)]) (.int .i64 1)).run Try.prog w = .ok (.int .i64 (F1 1 : Nat)) w := fun _ => by kernel_rfl
  have ix2 : ∀ w, (Instr.index 54 (.agg #[.int .i64 (F1 0 : Nat), .int .i64 (F1 1 : Nat), .int .i64 (F1 2 : Nat), .int .i64 (F1 3 : Nat), .int .i64 (F1 4 : Nat), .int .i64 (F1 5 : Nat), .int .i64 (F1 6 : Nat)]) (.int .i64 2)).run Try.prog w = .ok (.int .i64 (F1 2 : Nat)) w := fun _ => by kernel_rfl
  have ix3 : ∀ w, (Instr.index 54 (.agg #[.int .i64 (F1 0 : Nat), .int .i64 (F1 1 : Nat), .int .i64 (F1 2 : Nat), .int .i64 (F1 3 : Nat), .int .i64 (F1 4 : Nat), .int .i64 (F1 5 : Nat), .int .i64 (F1 6 : Nat)]) (.int .i64 3)).run Try.prog w = .ok (.int .i64 (F1 3 : Nat)) w := fun _ => by kernel_rfl
  have ix4 : ∀ w, (Instr.index 54 (.agg #[.int .i64 (F1 0 : Nat), .int .i64 (F1 1 : Nat), .int .i64 (F1 2 : Nat), .int .i64 (F1 3 : Nat), .int .i64 (F1 4 : Nat), .int .i64 (F1 5 : Nat), .int .i64 (F1 6 : Nat)]) (.int .i64 4)).run Try.prog w = .ok (.int .i64 (F1 4 : Nat)) w := fun _ => by kernel_rfl
  have ix5 : ∀ w, (Instr.index 54 (.agg #[.int .i64 (F1 0 : Nat), .int .i64 (F1 1 : Nat), .int .i64 (F1 2 : Nat), .int .i64 (F1 3 : Nat), .int .i64 (F1 4 : Nat), .int .i64 (F1 5 : Nat), .int .i64 (F1 6 : Nat)]) (.int .i64 5)).run Try.prog w = .ok (.int .i64 (F1 5 : Nat)) w := fun _ => by kernel_rfl
  have ix6 : ∀ w, (Instr.index 54 (.agg #[.int .i64 (F1 0 : Nat), .int .i64 (F1 1 : Nat), .int .i64 (F1 2 : Nat), .int .i64 (F1 3 : Nat), .int .i64 (F1 4 : Nat), .int .i64 (F1 5 : Nat), .int .i64 (F1 6 : Nat)]) (.int .i64 6)).run Try.prog w = .ok (.int .i64 (F1 6 : Nat)) w := fun _ => by kernel_rfl
  go_loop [10, 29] (fun u i => ∃ k : Nat, k ≤ 7 ∧ i = .int .i64 (k : Nat) ∧ u = .int .i64 (ps F1 k : Nat)) (fun _ i => 7 - (intOf i).toNat)
  case atStart => exact ⟨0, by omega, rfl, rfl⟩
  case round =>
    obtain ⟨k, hk, rfl, rfl⟩ := hrel
    rcases (show k = 0 ∨ k = 1 ∨ k = 2 ∨ k = 3 ∨ k = 4 ∨ k = 5 ∨ k = 6 ∨ k = 7 by omega) with rfl | rfl | rfl | rfl | rfl | rfl | rfl | rfl
    case inr.inr.inr.inr.inr.inr.inr =>
      go_wp2
      go_ret
      exact ⟨ret_i' HF.out.symm, (HB2.out.alloc HB2.out.size _).alloc (by have := HB2.out.size; simp; omega) _⟩
    all_goals
      go_wp2
      go_round
      case rel => first | exact ⟨1, by omega, rfl, congrArg (Value.int .i64) g0⟩ | exact ⟨2, by omega, rfl, congrArg (Value.int .i64) g1⟩ | exact ⟨3, by omega, rfl, congrArg (Value.int .i64) g2⟩ | exact ⟨4, by omega, rfl, congrArg (Value.int .i64) g3⟩ | exact ⟨5, by omega, rfl, congrArg (Value.int .i64) g4⟩ | exact ⟨6, by omega, rfl, congrArg (Value.int .i64) g5⟩ | exact ⟨7, by omega, rfl, congrArg (Value.int .i64) g6⟩
      case measure => simp [intOf]
end Go.Proofs.Ytiepoadnncnbkaa
