/- The program's SetParse. -/
import Derived.Test.YtdpclcogfkjbcaaDoorPar1
import Derived.Lib.SplitLaws
namespace Go.Proofs.YtdpclcogfkjbcaaDoor
open Go.RowKit
set_option maxHeartbeats 8000000
set_option linter.unusedVariables false

theorem split_size (sep : ByteArray) : ∀ (k : Nat) (s u : ByteArray), u ∈ Lib.splitB sep 0 k s → u.size ≤ s.size
  | 0, s, u, h => by
    rw [Lib.splitB_zero] at h
    simp at h
    subst h
    exact Nat.le_refl _
  | k + 1, s, u, h => by
    unfold Lib.splitB at h
    split at h
    · simp at h
      subst h
      exact Nat.le_refl _
    · rcases List.mem_cons.1 h with h | h
      · subst h
        simp [ByteArray.size_extract]
        omega
      · have := split_size sep k _ u h
        simp [ByteArray.size_extract] at this
        omega
theorem parA_size (t : ByteArray) : (parA t).size ≤ t.size := by
  unfold parA Lib.trimPrefix
  rw [size_bytes]
  split
  · simp
  · simp
theorem parA_less {t : ByteArray} (h : Lib.hasPrefix t.data.toList [123] = true) (h0 : 0 < t.size) : (parA t).size + 1 ≤ t.size := by
  unfold parA Lib.trimPrefix
  rw [size_bytes, if_pos h]
  simp
  have : t.data.size = t.size := rfl
  omega
theorem parB_size (t : ByteArray) : (parB t).size ≤ (parA t).size := by
  unfold parB Lib.trimSuffix
  rw [size_bytes]
  split
  · simp
  · simp
theorem words_len (t : ByteArray) : (words t).length = Lib.countB (parB t) ⟨#[44]⟩ + 1 := Lib.splitB_all ⟨#[44]⟩ (by decide) 0 _ _ rfl
theorem words_le (t : ByteArray) : (words t).length ≤ (parB t).size + 1 := by
  have := Lib.countB_le ⟨#[44]⟩ (by decide) (parB t).size (parB t) (Nat.le_refl _)
  rw [words_len]
  omega
theorem pick_take {ws : List ByteArray} {k : Nat} {u : ByteArray} (h : ws[k]? = some u) : (ws.take (k + 1)).filterMap pickW = (ws.take k).filterMap pickW ++ (pickW u).toList := by
  rw [take_one h, List.filterMap_append]
  congr 1
theorem pick_len (ws : List ByteArray) (k : Nat) : ((ws.take k).filterMap pickW).length ≤ k := by
  have := List.length_filterMap_le pickW (ws.take k)
  have h2 := List.length_take_le k ws
  omega

theorem str_ne {x y : ByteArray} (h : ¬ x = y) : (x.toList == y.toList) = false := by
  cases hb : x.toList == y.toList
  · rfl
  · have h1 : x.toList = y.toList := by simpa using hb
    rw [Lib.toList_data, Lib.toList_data] at h1
    exact absurd (ByteArray.ext (by cases hx : x.data; cases hy : y.data; rw [hx, hy] at h1; simpa using h1)) h
/-- What SetParse leaves. -/
def ParQ (t : ByteArray) (W : World) (e : Ending) (W' : World) : Prop := ∃ v, e = .returned (.tuple #[v, .bool (parV t).2]) ∧ OwnI W' W.heap.size v (parV t).1 ∧ Below W.heap.size W W'
theorem ParQ.no {t : ByteArray} {W W' : World} (h : parV t = ([], false)) (hb : Below W.heap.size W W') : ParQ t W (.returned (.tuple #[.slice none 0 0, .bool false])) W' := by
  refine ⟨_, by rw [h], ?_, hb⟩
  rw [h]
  exact World.ownsRow_nil _ _ _ _
theorem implParse_any (t : ByteArray) (ht : t.size ≤ 1048576) (W : World) (hV : VF W) : Calls Tryd.prog 8 #[.string t] W (ParQ t W) := by
  have HV := Lib.hid hV
  have HP := Lib.hid (show Calls Tryd.prog 19 #[.string t, .string ⟨#[123]⟩] W fun e w' => e = .returned (.tuple #[.string (parA t), .bool (Lib.hasPrefix t.data.toList [123])]) ∧ w' = W from Tryd.strings_CutPrefix t ⟨#[123]⟩ W)
  have hA := parA_size t
  have hB := parB_size t
  have HSf := Lib.hid (show Calls Tryd.prog 20 #[.string (parA t), .string ⟨#[125]⟩] W fun e w' => e = .returned (.tuple #[.string (parB t), .bool (Lib.hasSuffix (parA t).data.toList [125])]) ∧ w' = W from Tryd.strings_CutSuffix (parA t) ⟨#[125]⟩ W (by omega))
  clear hV
  cases h1 : Lib.hasPrefix t.data.toList [123]
  · rw [h1] at HP
    have HN := Lib.hid (show parV t = ([], false) by unfold parV; rw [if_neg (by unfold parOk; rw [h1]; simp)])
    obtain ⟨b2, hb2⟩ : ∃ b, Lib.hasSuffix (parA t).data.toList [125] = b := ⟨_, rfl⟩
    rw [hb2] at HSf
    clear h1 hb2
    generalize parA t = a at HP HSf
    generalize parB t = b at HSf
    go_enter Tryd.func8, Tryd.ntmps8
    go_wp2_with (first | (go_at_call 19; refine HP.out.mono ?_; rintro e w' ⟨rfl, hw'⟩; replace hw' := hw'.symm; subst hw') | (go_at_call 20; refine HSf.out.mono ?_; rintro e w' ⟨rfl, hw'⟩; replace hw' := hw'.symm; subst hw'))
    go_ret2
    exact ParQ.no HN.out (Below.refl _ _)
  cases h2 : Lib.hasSuffix (parA t).data.toList [125]
  · rw [h1] at HP
    rw [h2] at HSf
    have HN := Lib.hid (show parV t = ([], false) by unfold parV; rw [if_neg (by unfold parOk; rw [h1, h2]; simp)])
    clear h1 h2
    generalize parA t = a at HP HSf
    generalize parB t = b at HSf
    go_enter Tryd.func8, Tryd.ntmps8
    go_wp2_with (first | (go_at_call 19; refine HP.out.mono ?_; rintro e w' ⟨rfl, hw'⟩; replace hw' := hw'.symm; subst hw') | (go_at_call 20; refine HSf.out.mono ?_; rintro e w' ⟨rfl, hw'⟩; replace hw' := hw'.symm; subst hw'))
    go_ret2
    exact ParQ.no HN.out (Below.refl _ _)
  have hok : parOk t = true := by unfold parOk; rw [h1, h2]; rfl
  have ht0 := parOk_size hok
  have hAl := parA_less h1 ht0
  have hwl := words_le t
  have hws := words_len t
  have hpz : pz t = (words t).filterMap pickW := rfl
  have hsz : ∀ u, u ∈ words t → u.size ≤ 1048576 := fun u hu => by
    have := split_size _ _ _ _ hu
    omega
  rw [h1] at HP
  rw [h2] at HSf
  have hpv : parV t = if fmtO (pz t) = t then (pz t, true) else ([], false) := by
    unfold parV
    by_cases hf : fmtO (pz t) = t
    · rw [if_pos ⟨hok, hf⟩, if_pos hf]
    · rw [if_neg (fun h => hf h.2), if_neg hf]
  obtain ⟨m, hm⟩ := HV.out.mx
  have HSp := Lib.hid (Tryd.strings_Split (parB t) ⟨#[44]⟩ m W (by omega) hm (by decide))
  rw [show Lib.splitB ⟨#[44]⟩ 0 (Lib.countB (parB t) ⟨#[44]⟩) (parB t) = words t from rfl, ← hws] at HSp
  rw [hpz] at hpv
  have hL1 : (words t).length ≤ 1048576 := by omega
  have HPV := Lib.hid hpv
  have HWS := Lib.hid hsz
  clear h1 h2 hok ht0 hAl hwl hws hpz hsz hpv hm hA hB
  generalize words t = ws at HSp HPV HWS hL1
  generalize parA t = a at HP HSf
  generalize parB t = b at HSf HSp
  obtain ⟨L, hL⟩ : ∃ L, ws.length = L := ⟨_, rfl⟩
  rw [hL] at HSp hL1
  have HL := Lib.hid hL
  clear hL
  go_enter Tryd.func8, Tryd.ntmps8
  go_wp2_with (first | (go_at_call 19; refine HP.out.mono ?_; rintro e w' ⟨rfl, hw'⟩; replace hw' := hw'.symm; subst hw') | (go_at_call 20; refine HSf.out.mono ?_; rintro e w' ⟨rfl, hw'⟩; replace hw' := hw'.symm; subst hw') | (go_at_call 21; refine HSp.out.mono ?_; rintro e W1 ⟨rfl, hW1⟩; have HW1 := Lib.hid hW1; clear hW1))
  have hz1 : W1.heap.size = W.heap.size + 1 := by rw [HW1.out]; simp
  have HB1 : Hid (Below W.heap.size W W1) := Lib.hid (by rw [HW1.out]; exact (Below.refl _ _).alloc (Nat.le_refl _) _)
  have HR1 : Hid (W1.heap[W.heap.size]? = some (.cells (ws.map Value.string).toArray 9 (0, 0))) := Lib.hid (by rw [HW1.out]; exact heap_alloc_new _ _)
  have HVW := Lib.hid (fun (wr : World) (hB : Below W.heap.size W wr) => HV.out.below hB)
  obtain ⟨G, hG⟩ : ∃ G, W.heap.size = G := ⟨_, rfl⟩
  rw [hG] at hz1 HB1 HR1 HVW ⊢
  have HG := Lib.hid hG
  clear HW1 hG
  go_loopw [7, 31] (fun u i wr => ∃ k : Nat, k ≤ L ∧ i = .int .i64 k ∧ OwnI wr (G + 1) u ((ws.take k).filterMap pickW) ∧ Below (G + 1) W1 wr) (fun _ i _ => L - (intOf i).toNat)
  case atStart => exact ⟨0, Nat.zero_le _, rfl, World.ownsRow_nil _ _ _ _, Below.refl _ _⟩
  case round =>
    obtain ⟨k, hk, rfl, hown, hB⟩ := hrel
    have HO := Lib.hid hown
    have HB := Lib.hid hB
    have hsz := hB.size
    have HVr := Lib.hid (HVW.out wr (HB1.out.trans (hB.mono (by omega))))
    have hplen := pick_len ws k
    by_cases hkn : k < L
    · have i1 : (k : Int) < L := by omega
      have hkw : k < ws.length := by rw [HL.out]; exact hkn
      have hcell : wr.cell? ⟨G, k, none⟩ = some (.string ws[k]) := by
        have := cell_of_row W1 G k _ _ _ HR1.out
        rw [(hB.cell (p := ⟨G, k, none⟩) (by show G < G + 1; omega)), this]
        simp [hkw]
      have hus := HWS.out _ (List.getElem_mem hkw)
      have hpt := pick_take (List.getElem?_eq_getElem hkw)
      generalize ws[k] = u at hcell hus hpt
      have HD := Lib.hid (digits_any u hus wr HVr.out)
      clear hown hB hkw
      cases hd : (digV u).2
      · have HN := Lib.hid (show (ws.take (k + 1)).filterMap pickW = (ws.take k).filterMap pickW by rw [hpt]; unfold pickW; rw [hd]; simp)
        rw [hd] at HD
        clear hpt hd
        generalize (digV u).1 = d at HD
        go_wp2_with (go_at_call 22; refine HD.out.mono ?_; rintro e w2 ⟨rfl, hb2⟩; have HO2 := Lib.hid (owns_below HO.out hb2 (by omega)); have HB2 := Lib.hid (HB.out.trans (hb2.mono (by omega))); clear hb2)
        go_roundw
        case rel => exact ⟨k + 1, by omega, by go_num, by rw [HN.out]; exact HO2.out, HB2.out⟩
        case measure => simp [intOf]; omega
      · have HN := Lib.hid (show (ws.take (k + 1)).filterMap pickW = (ws.take k).filterMap pickW ++ [(digV u).1] by rw [hpt]; unfold pickW; rw [hd]; simp)
        rw [hd] at HD
        clear hpt hd
        generalize (digV u).1 = d at HD HN
        go_wp2_with (first | (go_at_call 22; refine HD.out.mono ?_; rintro e w2 ⟨rfl, hb2⟩; have hz2 := hb2.size; have HO2 := Lib.hid (owns_below HO.out hb2 (by omega)); have HB2 := Lib.hid (HB.out.trans (hb2.mono (by omega))); clear hb2) | (at_builtin; refine wpl_append_int rfl _ _ (by rfl) (G + 1) _ _ _ (by rfl) HO2.out (by rfl) (by omega) (by omega) ?_; intro v3 w3 hown3 hb3 _ _))
        go_roundw
        case rel => exact ⟨k + 1, by omega, by go_num, by rw [HN.out]; exact hown3, HB2.out.trans hb3⟩
        case measure => simp [intOf]; omega
    · obtain rfl : k = L := by omega
      have htk : ws.take k = ws := List.take_of_length_le (by rw [HL.out]; omega)
      rw [htk] at HO hplen
      clear hown hB htk
      generalize ws.filterMap pickW = zs at HO hplen HPV
      obtain ⟨A, c, hu, hle, hmx, hrow⟩ := owns_row HO.out
      have HF := Lib.hid (implFormat_any A _ c zs wr hrow rfl (by omega))
      by_cases hf : fmtO zs = t
      · have HV2 := Lib.hid (show parV t = (zs, true) by rw [HPV.out, if_pos hf])
        have HFe := Lib.hid hf
        clear hf hrow
        rw [HFe.out] at HF
        subst hu
        go_wp2_with (go_at_call 13; refine HF.out.mono ?_; rintro e w2 ⟨rfl, hb2⟩; have HO2 := Lib.hid (owns_below HO.out hb2 (by omega)); have HB2 := Lib.hid (HB.out.trans (hb2.mono (by omega))); clear hb2)
        go_ret2
        refine ⟨_, by rw [HV2.out]; rfl, ?_, ?_⟩
        · rw [HV2.out]
          exact owns_less HO2.out (by have := HG.out; omega)
        · rw [HG.out]
          exact HB1.out.trans (HB2.out.mono (by omega))
      · have HV2 := Lib.hid (show parV t = ([], false) by rw [HPV.out, if_neg hf])
        have hne := str_ne hf
        clear hf hrow
        generalize fmtO zs = x at HF hne
        subst hu
        go_wp2_with (go_at_call 13; refine HF.out.mono ?_; rintro e w2 ⟨rfl, hb2⟩; have HB2 := Lib.hid (HB.out.trans (hb2.mono (by omega))); clear hb2)
        go_ret2
        exact ParQ.no HV2.out (by rw [HG.out]; exact HB1.out.trans (HB2.out.mono (by omega)))
end Go.Proofs.YtdpclcogfkjbcaaDoor
