/- The program's parser: expr, the walk. -/
import Derived.Test.YtbokieephhffnaaDoorEx4
namespace Go.Proofs.YtbokieephhffnaaDoor
open Go.RowKit
set_option maxHeartbeats 8000000
set_option maxRecDepth 20000

/-- What holds at the head of the loop over operands. -/
def OpL (s : ByteArray) (P G N f i : Nat) (w0 : World) (o : Option (Tr × Nat)) (wr : World) : Prop := ∃ (j f' : Nat) (ts : List Tr) (v : Value) (vs : List Value),
  Opd s P G N w0 wr j ts v vs ∧ i < j ∧ j ≤ s.size ∧ s.size ≤ j + f' ∧ ts.length ≤ j ∧ o = finT N ts (pl s (pe s f) f' j)

theorem expr_any (s : ByteArray) (hs : s.size ≤ 40) (P : Nat) (f : Nat) : ∀ (i : Nat) (W : World), Psr W P (s.extract i s.size) → i ≤ s.size → s.size - i < f →
    Calls Tryd.prog 26 #[.pointer (some ⟨P, 0, none⟩)] W (ExRes s P W (pe s f i)) := by
  induction f with
  | zero => exact fun i W _ hi hf => absurd hf (by omega)
  | succ f IH =>
    intro i W hP hi hf
    obtain ⟨o, ho⟩ : ∃ o, o = pe s (f + 1) i := ⟨_, rfl⟩
    rw [← ho]
    have HO := Lib.hid ho
    clear ho
    have hPl := hP.cell.2.2
    by_cases hd : isD (bt s i) = true
    case neg =>
      have hd' : isD (bt s i) = false := by simpa using hd
      have HN := Lib.hid (show o = none by rw [HO.out]; exact pe_no hd')
      go_enter Tryd.func26, Tryd.ntmps26
      go_wp2_with fail
      refine (digit_no P _ W hP (by rw [rest_fst]; exact hd')).mono ?_
      rintro e w1 ⟨rfl, rfl⟩
      go_wp2_with fail
      go_ret
      exact ExRes.nil HN.out (World.grownBy.refl _ _) hP
    have hil := bt_lt (s := s) (i := i) (by have := isD_iff.1 hd; omega)
    have HD := Lib.hid (digit_step s i P W hP hd)
    have HE := Lib.hid (isD_iff.1 hd)
    have HDd := Lib.hid hd
    obtain ⟨N, hN⟩ : ∃ N, bt s i - 48 = N := ⟨_, rfl⟩
    have hN6 : N ≤ 6 := by have := HE.out; omega
    have HDN := HD.out
    rw [hN] at HDN
    have HD2 := Lib.hid HDN
    have HNN := Lib.hid hN
    clear HDN hN hd HE HD
    by_cases h40 : bt s (i + 1) = 40
    case neg =>
      have HN := Lib.hid (show o = some (.leaf N, i + 1) by rw [HO.out, pe_leaf HDd.out h40, HNN.out])
      go_enter Tryd.func26, Tryd.ntmps26
      go_wp2_with fail
      refine HD2.out.mono ?_
      rintro e w1 ⟨rfl, st1⟩
      go_wp2_with fail
      refine (take_stay s (i + 1) P 40 w1 st1.psr h40 (by omega)).mono ?_
      rintro e w2 ⟨rfl, hw2⟩
      replace hw2 := hw2.symm
      subst hw2
      go_wp2_with fail
      go_ret
      have hsz := st1.size
      refine ExRes.tree HN.out (grown_alloc st1.grw _) ((Below.heap_alloc _ _ P (by omega)).trans st1.psr) (.leaf (by show W.heap.size ≤ _; omega) (heap_alloc_new _ _))
    have HR0 := Lib.hid (show o = finT N [] (pl s (pe s f) f (i + 2)) by rw [HO.out, pe_gate HDd.out h40, HNN.out])
    have hil2 := bt_lt (s := s) (i := i + 1) (by omega)
    go_enter Tryd.func26, Tryd.ntmps26
    go_wp2_with fail
    refine HD2.out.mono ?_
    rintro e w1 ⟨rfl, st1⟩
    go_wp2_with fail
    refine (take_step s (i + 1) P 40 w1 st1.psr h40 (by omega)).mono ?_
    rintro e w2 ⟨rfl, st2⟩
    obtain ⟨G, hG⟩ : ∃ G, w2.heap.size = G := ⟨_, rfl⟩
    have HG := Lib.hid hG
    have hz1 := st1.size
    have hz2 := st2.size
    have hg2 := grown_trans st1.grw st2.grw
    have HI0 : OpL s P G N f i W o (w2.alloc (.cells #[.int .i64 (N : Int), .slice none 0 0] 40)) := by
      refine ⟨i + 2, f, [], .slice none 0 0, [], ⟨?_, ?_, World.ownsRow_nil _ _ _ _, rfl, fun i x t hx _ => by simp at hx, grown_alloc hg2 _, by omega, hPl, Nat.zero_le _⟩, by omega, by omega, by omega, Nat.zero_le _, HR0.out⟩
      · exact (Below.heap_alloc _ _ P (by omega)).trans st2.psr
      · rw [← hG]; exact heap_alloc_new _ _
    have HI := Lib.hid HI0
    clear HI0 hg2 hz1 hz2 hG st1 st2
    go_wp2_with fail
    rw [HG.out]
    go_loopw [6] (fun _ wr => OpL s P G N f i W o wr) (fun _ wr => restLen wr P)
    case atStart => exact HI.out
    case round =>
      obtain ⟨j, f', ts, v, vs, D, hij, hjs, hjf, htj, hfin⟩ := hrel
      have HF := Lib.hid hfin
      have DD := Lib.hid D
      have hc := IH j wr D.psr hjs (by omega)
      have hpG := D.pG
      have hlow := D.low
      have hGl := heap_lt D.blk
      have hmeas := rest_len D.psr
      clear hfin
      cases hq : pe s f j with
      | none =>
        rw [hq] at hc
        have HN := Lib.hid (show o = none by rw [HF.out]; exact finT_none hq)
        have HC := Lib.hid hc
        clear hc hq D
        go_wp2_with fail
        refine HC.out.mono ?_
        rintro e w1 ⟨hg1, rfl, r1, hr1⟩
        go_wp2_with fail
        go_ret
        exact ExRes.nil HN.out (grown_trans DD.out.grw hg1) hr1
      | some y =>
        obtain ⟨t, e1⟩ := y
        obtain ⟨hy1, hy2⟩ := pe_end f _ _ _ hq
        obtain ⟨f2, rfl⟩ : ∃ f2, f' = f2 + 1 := ⟨f' - 1, by omega⟩
        rw [hq] at hc
        have HC := Lib.hid hc
        have HQ := Lib.hid hq
        clear hc hq
        obtain ⟨A0, c0, hv0, _, _, _⟩ := owns_row D.own
        have HV := Lib.hid hv0
        clear hv0
        go_wp2_with fail
        refine HC.out.mono ?_
        rintro e w1 ⟨hg1, v1, rfl, hr1, ht1⟩
        obtain ⟨T1, b1, hv1⟩ := ht1.iface
        have hG1 : w1.heap[G]? = some (.cells #[.int .i64 (N : Int), v] 40 (0, 0)) := (hg1.block G hGl (by intro e; cases e; exact hpG rfl)).trans D.blk
        have hcv : w1.cell? ⟨G, 1, none⟩ = some v := by simp [World.cell?, hG1]
        have hz1 := hg1.size
        have hown1 : w1.ownsRow (G + 1) 50 1 v ts.length vs := by
          refine D.own.kept hg1 ?_
          cases hv : v.ownBlock with
          | none => exact .inl rfl
          | some k =>
            right
            intro e
            have := (D.own.lt k hv).1
            have := D.lt
            cases e
            omega
        have HG1 := Lib.hid hG1
        have HO1 := Lib.hid hown1
        have HT1 := Lib.hid ht1
        have HR1 := Lib.hid hr1
        have Hg1 := Lib.hid hg1
        obtain ⟨i0, hi0, hi1, hi2, hi3⟩ := info_parts tree_info
        have J0 := Lib.hid hi0
        have J1 := Lib.hid hi1
        have J2 := Lib.hid hi2
        have J3 := Lib.hid hi3
        clear hG1 hown1 ht1 hr1 hg1 hi0 hi1 hi2 hi3 D
        subst hv1
        go_wp2_with (at_builtin; refine wpl_append1 rfl _ _ 38 (by rfl) (G + 1) 50 i0 .nilIface 1 16 Tryd.underlying38 J0.out J1.out J2.out J3.out rfl (by omega) v ts.length vs (by rfl) HO1.out #[.iface T1 (.pointer (some ⟨b1, 0, none⟩))] rfl (by rfl) (by simp [Value.oneCell']) (by omega) (by omega) (by omega) ?_; intro v2 w2 hown2 hb2 hg2 hat2; obtain ⟨A2, c2, hv2, hle2, hmx2, hrow2⟩ := owns_row hown2; have hG2 := (hb2.block G (by omega)).trans HG1.out; have hcG := cell_blk hG2; have hfG := free_blk hG2; have D2 := Lib.hid (DD.out.push Hg1.out HR1.out HT1.out hown2 hb2 hg2 hat2 (by omega)); have HG2 := Lib.hid hG2; clear hG2; subst hv2)
        obtain ⟨w3, hw3⟩ : ∃ w3, w3 = w2.setCell ⟨G, 1, none⟩ (.slice A2 (ts.length + 1) c2) := ⟨_, rfl⟩
        have D3 := Lib.hid (show Opd s P G N W w3 e1 (ts ++ [t]) (.slice A2 (ts.length + 1) c2) (vs ++ [.iface T1 (.pointer (some ⟨b1, 0, none⟩))]) by rw [hw3]; exact D2.out)
        rw [← hw3]
        clear hw3 hown2 hb2 hg2 hat2 hcG hfG hrow2 hcv D2
        have hlen : (ts ++ [t]).length = ts.length + 1 := by simp
        have HL := Lib.hid hlen
        clear hlen
        by_cases h41 : bt s e1 = 41
        · have HN := Lib.hid (HF.out.trans (finT_close HQ.out h41))
          refine (take_step s e1 P 41 w3 D3.out.psr h41 (by omega)).mono ?_
          rintro e w4 ⟨rfl, st4⟩
          have D4 := Lib.hid (D3.out.step st4)
          have hc4 := cell_blk D4.out.blk
          clear st4 h41
          by_cases h6 : 6 < ts.length + 1
          · have HN2 := Lib.hid (show o = none by rw [HN.out, HL.out, if_neg (by omega)])
            have h6' : (6 : Int) < (ts.length : Int) + 1 := by omega
            go_wp2_with fail
            go_ret
            exact ExRes.nil HN2.out D4.out.grw D4.out.psr
          · have h6' : ¬ (6 : Int) < (ts.length : Int) + 1 := by omega
            by_cases hNk : ts.length + 1 < N
            · have HN2 := Lib.hid (show o = none by rw [HN.out, HL.out, if_neg (by omega)])
              have hNk' : (ts.length : Int) + 1 < N := by omega
              go_wp2_with fail
              go_ret
              exact ExRes.nil HN2.out D4.out.grw D4.out.psr
            · have HN2 := Lib.hid (show o = some (.gate N (ts ++ [t]), e1 + 1) by rw [HN.out, HL.out, if_pos ⟨by omega, by omega⟩])
              have hNk' : ¬ (ts.length : Int) + 1 < N := by omega
              go_wp2_with fail
              go_ret
              exact ExRes.tree HN2.out D4.out.grw D4.out.psr (D4.out.gate_of (by rw [HL.out]; omega))
        · by_cases h44 : bt s e1 = 44
          · have HN := Lib.hid (HF.out.trans (finT_more HQ.out h41 h44))
            refine (take_stay s e1 P 41 w3 D3.out.psr h41 (by omega)).mono ?_
            rintro e w4 ⟨rfl, hw4⟩
            replace hw4 := hw4.symm
            subst hw4
            go_wp2_with fail
            refine (take_step s e1 P 44 w3 D3.out.psr h44 (by omega)).mono ?_
            rintro e w5 ⟨rfl, st5⟩
            have D5 := Lib.hid (D3.out.step st5)
            have hel := bt_lt (s := s) (i := e1) (by omega)
            clear st5 h41 h44
            go_wp2_with fail
            go_roundw
            case rel => exact ⟨e1 + 1, f2, ts ++ [t], _, _, D5.out, by omega, by omega, by omega, by rw [HL.out]; omega, HN.out⟩
            case measure => rw [hmeas, rest_len D5.out.psr, ext_size, ext_size]; omega
          · have HN := Lib.hid (HF.out.trans (finT_bad HQ.out h41 h44))
            refine (take_stay s e1 P 41 w3 D3.out.psr h41 (by omega)).mono ?_
            rintro e w4 ⟨rfl, hw4⟩
            replace hw4 := hw4.symm
            subst hw4
            go_wp2_with fail
            refine (take_stay s e1 P 44 w3 D3.out.psr h44 (by omega)).mono ?_
            rintro e w5 ⟨rfl, hw5⟩
            replace hw5 := hw5.symm
            subst hw5
            go_wp2_with fail
            go_ret
            exact ExRes.nil HN.out D3.out.grw D3.out.psr
end Go.Proofs.YtbokieephhffnaaDoor
