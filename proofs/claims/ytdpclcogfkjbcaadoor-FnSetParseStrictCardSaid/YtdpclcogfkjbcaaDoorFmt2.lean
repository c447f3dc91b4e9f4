/- SetFormat on both sides; the law FnExactSetFormat's walk. -/
import Derived.Test.YtdpclcogfkjbcaaDoorFmt
namespace Go.Proofs.YtdpclcogfkjbcaaDoor
open Go.RowKit
set_option maxHeartbeats 8000000
set_option linter.unusedVariables false

theorem str_info : (Tryd.prog.info? 9).map (fun i => (i.zero, i.size, i.bytes)) = some (some (.string ByteArray.empty), 1, 16) := by kernel_rfl
/-- The text of a list, or nothing. -/
def fmtO (zs : List Int) : ByteArray := if setB zs then fmtS zs else ⟨#[]⟩
theorem specFormat_any (A : Option Addr) (n c : Nat) (zs : List Int) (w : World) (hA : Row w w.heap.size A (zs.map (Value.int .i64))) (hl : zs.length = n) (hn : n ≤ 1048576) :
    Calls Tryd.prog 14 #[.slice A n c] w fun e w' => e = .returned (.string (fmtO zs)) ∧ Below w.heap.size w w' := by
  have HV := Lib.hid (specSetValid_any A n c zs w hA hl hn)
  cases hs : setB zs
  · have HO := Lib.hid (show fmtO zs = ⟨#[]⟩ by simp [fmtO, hs])
    go_enter Tryd.func14, Tryd.ntmps14
    go_wp2_with fail
    refine HV.out.mono ?_
    rintro e w1 ⟨rfl, m, hw⟩
    rw [hs]
    have HW := Lib.hid hw
    clear hw
    go_wp2_with fail
    go_ret
    exact ⟨congrArg (fun b => Ending.returned (Value.string b)) HO.out.symm, by rw [HW.out]; exact below_drewN (Below.refl _ _) m⟩
  · have HO := Lib.hid (show fmtO zs = fmtS zs by simp [fmtO, hs])
    go_enter Tryd.func14, Tryd.ntmps14
    go_wp2_with fail
    refine HV.out.mono ?_
    rintro e w1 ⟨rfl, m, hw⟩
    rw [hs]
    have hb1 : Below w.heap.size w w1 := by rw [hw]; exact below_drewN (Below.refl _ _) m
    have hz : w1.heap.size = w.heap.size := by rw [hw]; rfl
    have hA1 : Row w1 w1.heap.size A (zs.map (Value.int .i64)) := (hA.below hb1).more hb1.size
    have HF := Lib.hid (l1Format_any A n c zs w1 hA1 hl hs)
    have HB1 := Lib.hid hb1
    have HZ := Lib.hid hz
    clear hw hz hA1 hb1
    go_wp2_with fail
    refine HF.out.mono ?_
    rintro e w2 ⟨rfl, hb2⟩
    have HB2 := Lib.hid hb2
    clear hb2
    go_wp2_with fail
    go_ret
    exact ⟨congrArg (fun b => Ending.returned (Value.string b)) HO.out.symm, HB1.out.trans (HB2.out.mono HB1.out.size)⟩
theorem implFormat_any (A : Option Addr) (n c : Nat) (zs : List Int) (w : World) (hA : Row w w.heap.size A (zs.map (Value.int .i64))) (hl : zs.length = n) (hn : n ≤ 1048576) :
    Calls Tryd.prog 13 #[.slice A n c] w fun e w' => e = .returned (.string (fmtO zs)) ∧ Below w.heap.size w w' := by
  have HV := Lib.hid (implSetValid_any A n c zs w hA hl hn)
  cases hs : setB zs
  · have HO := Lib.hid (show fmtO zs = ⟨#[]⟩ by simp [fmtO, hs])
    go_enter Tryd.func13, Tryd.ntmps13
    go_wp2_with fail
    refine HV.out.mono ?_
    rintro e w1 ⟨rfl, hw⟩
    rw [hs]
    replace hw := hw.symm
    subst hw
    go_wp2_with fail
    go_ret
    exact ⟨congrArg (fun b => Ending.returned (Value.string b)) HO.out.symm, Below.refl _ _⟩
  · have HO := Lib.hid (show fmtO zs = fmtS zs by simp [fmtO, hs])
    have HSet := Lib.hid hs
    have hn6 := fm_len hs
    rw [hl] at hn6
    have HL := Lib.hid hl
    have HA := Lib.hid hA
    clear hA hl
    go_enter Tryd.func13, Tryd.ntmps13
    go_wp2_with fail
    refine HV.out.mono ?_
    rintro e w1 ⟨rfl, hw⟩
    rw [hs]
    replace hw := hw.symm
    subst hw
    clear hs
    go_wp2_with fail
    go_loopw [3, 11] (fun u i wr => ∃ k : Nat, k ≤ n ∧ i = .int .i64 k ∧ wr.ownsRow w.heap.size 9 1 u k (((fmtL zs).take k).map fun l => Value.string ⟨l.toArray⟩) ∧ Below w.heap.size w wr) (fun _ i _ => n - (intOf i).toNat)
    case atStart => exact ⟨0, Nat.zero_le _, rfl, World.ownsRow_nil _ _ _ _, Below.refl _ _⟩
    case round =>
      obtain ⟨k, hk, rfl, hown, hB⟩ := hrel
      have HOw := Lib.hid hown
      have HB := Lib.hid hB
      have hsz := hB.size
      clear hown
      by_cases hkn : k < n
      · have i1 : (k : Int) < n := by omega
        have hkz : k < zs.length := by rw [HL.out]; exact hkn
        obtain ⟨b, off, hA, hbl, hcell⟩ := (HA.out.below hB).at_ (k := k) (u := .int .i64 (zs.getD k 0)) (by simp [hkz])
        obtain ⟨v1, v2⟩ := set_at HSet.out hkz
        have HN := Lib.hid (take_one (fmtL_at hkz))
        obtain ⟨v, hv⟩ : ∃ v : Nat, zs.getD k 0 = (v : Int) := ⟨(zs.getD k 0).toNat, by omega⟩
        rw [hv] at hcell HN v1 v2
        rw [Int.toNat_natCast] at HN
        have HI := Lib.hid (Tryd.strconv_Itoa_small v (by omega) wr)
        obtain ⟨i0, hi0, hi1, hi2, hi3⟩ := info_parts str_info
        have J0 := Lib.hid hi0
        have J1 := Lib.hid hi1
        have J2 := Lib.hid hi2
        have J3 := Lib.hid hi3
        subst hA
        clear hv hkz hi0 hi1 hi2 hi3 hB
        go_wp2_with (first
          | (go_at_call 25; refine HI.out.mono ?_; rintro e w1 ⟨rfl, rfl⟩)
          | (at_builtin; refine wpl_append1 rfl _ _ 37 (by rfl) w.heap.size 9 i0 (.string ByteArray.empty) 1 16 Tryd.underlying37 J0.out J1.out J2.out J3.out rfl (by omega) _ k _ (by rfl) HOw.out #[.string ⟨(Lib.decDigits v).toArray⟩] rfl (by rfl) (by simp [Value.oneCell']) (by omega) (by omega) (by omega) ?_; intro v2 w2 hown2 hb2 hg2 hat2))
        go_roundw
        case rel => exact ⟨k + 1, by omega, by go_num, by rw [HN.out]; simpa using hown2, HB.out.trans hb2⟩
        case measure => simp [intOf]; omega
      · obtain rfl : k = n := by omega
        obtain ⟨Aw, cw, hu, hle, hmx, hrow⟩ := owns_row HOw.out
        have hlen : (fmtL zs).length = k := by rw [fmtL_len, HL.out]
        have hJl : (Lib.join (fmtL zs) [44]).length ≤ 12 := by
          have := join_small zs fun z hz => by
            obtain ⟨i, hi, e⟩ := List.getElem_of_mem hz
            have := set_at HSet.out hi
            rw [List.getD_eq_getElem?_getD, List.getElem?_eq_getElem hi] at this
            simp only [Option.getD_some] at this
            omega
          rw [HL.out] at this
          omega
        rw [← hlen, List.take_length] at hrow
        have HF := Lib.hid (show (⟨#[123]⟩ : ByteArray) ++ ⟨(Lib.join (fmtL zs) [44]).toArray⟩ ++ ⟨#[125]⟩ = fmtO zs by
          rw [HO.out, show (⟨#[123]⟩ : ByteArray) = ⟨[123].toArray⟩ from rfl, show (⟨#[125]⟩ : ByteArray) = ⟨[125].toArray⟩ from rfl, app_bytes, app_bytes]
          rfl)
        have s2 := size_bytes (Lib.join (fmtL zs) [44])
        by_cases hk0 : k = 0
        · subst hk0
          have hz0 : zs = [] := List.eq_nil_of_length_eq_zero HL.out
          subst hz0
          have HF := Lib.hid (show (⟨#[123]⟩ : ByteArray) ++ ⟨#[]⟩ ++ ⟨#[125]⟩ = fmtO [] by decide +kernel)
          have HJ := Lib.hid (Tryd.strings_Join_none Aw cw ⟨#[44]⟩ wr)
          clear hrow hJl s2 hlen
          subst hu
          go_wp2_with (go_at_call 26; refine HJ.out.mono ?_; rintro e w2 ⟨rfl, hb2⟩; replace hb2 := hb2.symm; subst hb2)
          go_ret
          exact ⟨congrArg (fun b => Ending.returned (Value.string b)) HF.out, HB.out⟩
        · obtain ⟨g, off, hA, hg, hcells⟩ := hrow (by intro e; have := congrArg List.length e; simp [hlen] at this; omega)
          subst hA
          have hj := Tryd.strings_Join g off cw ((fmtL zs).map fun l => ⟨l.toArray⟩) ⟨#[44]⟩ wr (fun j x hx => hcells j _ (by
            rw [List.getElem?_map] at hx ⊢
            cases hy : (fmtL zs)[j]? with
            | none => rw [hy] at hx; cases hx
            | some y => rw [hy] at hx; simp at hx ⊢; exact hx)) hg (by simp; omega) (by simp; omega) (by
            rw [List.map_map, show (fun x : ByteArray => x.data.toList) ∘ (fun l : List UInt8 => (⟨l.toArray⟩ : ByteArray)) = id from rfl, List.map_id]
            show (Lib.join (fmtL zs) [44]).length ≤ _
            omega)
          rw [List.length_map, hlen, List.map_map, show (fun x : ByteArray => x.data.toList) ∘ (fun l : List UInt8 => (⟨l.toArray⟩ : ByteArray)) = id from rfl, List.map_id] at hj
          obtain ⟨J, hJJ⟩ : ∃ J : ByteArray, J = ⟨(Lib.join (fmtL zs) [44]).toArray⟩ := ⟨_, rfl⟩
          rw [show (⟨#[44]⟩ : ByteArray).data.toList = [44] from rfl, ← hJJ] at hj
          rw [← hJJ] at s2 HF
          have HJ := Lib.hid hj
          have c0 : ¬ 9223372036854775807 < 1 + J.size := by omega
          have c1 : ¬ 9223372036854775807 < 1 + J.size + 1 := by omega
          clear hJJ hj hcells hJl s2 hlen
          subst hu
          go_wp2_with (go_at_call 26; refine HJ.out.mono ?_; rintro e w2 ⟨rfl, hb2⟩; have HB2 := Lib.hid hb2; clear hb2)
          go_ret
          exact ⟨congrArg (fun b => Ending.returned (Value.string b)) HF.out, HB.out.trans (HB2.out.mono hsz)⟩

theorem exactSetFormat_walk (A : Option Addr) (n c : Nat) (zs : List Int) (w : World) (h : Ints .i64 w A n c zs) : Calls Tryd.prog 6 #[.slice A n c] w fun e w' => e = .returned (.bool true) ∧ Below w.heap.size w w' := by
  have hcap := h.cap
  have hmx := h.max
  unfold maxLen at hmx
  by_cases hl : 1048576 < n
  · go_enter Tryd.func6, Tryd.ntmps6
    go_wp2
    go_ret
    exact ⟨rfl, Below.refl _ _⟩
  have hn : n ≤ 1048576 := by omega
  go_enter Tryd.func6, Tryd.ntmps6
  go_wp2_with fail
  refine (toIntS_any A n c zs _ h hn).mono ?_
  rintro e w1 ⟨rfl, hg1, hs1, hb1⟩
  have hlt1 : w.heap.size < w1.heap.size := by omega
  have HG1 := Lib.hid hg1
  have h1 := h.below hb1
  clear hg1 hs1
  go_wp2_with fail
  refine (specFormat_any _ n n zs _ (row_new HG1.out hlt1) h.len hn).mono ?_
  rintro e wz ⟨rfl, hbz⟩
  have h1z : Ints .i64 wz A n c zs := h1.below hbz
  have hb1z : Below w.heap.size w wz := hb1.trans (hbz.mono hb1.size)
  have hltz : w.heap.size < wz.heap.size := by have := hbz.size; omega
  clear HG1 hlt1 h1 hb1 hbz
  go_wp2_with fail
  refine (toIntS_any A n c zs _ h1z hn).mono ?_
  rintro e w2 ⟨rfl, hg2, hs2, hb2⟩
  have hlt2 : wz.heap.size < w2.heap.size := by omega
  have HG2 := Lib.hid hg2
  have h2 := h1z.below hb2
  clear hg2 hs2
  go_wp2_with fail
  refine (implFormat_any _ n n zs _ (row_new HG2.out hlt2) h.len hn).mono ?_
  rintro e wq ⟨rfl, hbq⟩
  have hq := h2.below hbq
  have hlq : wz.heap.size < wq.heap.size := by have := hbq.size; omega
  have HGq := Lib.hid ((hbq.block _ hlt2).trans HG2.out)
  have hbzq : Below wz.heap.size wz wq := hb2.trans (hbq.mono hb2.size)
  clear HG2 hlt2 h2 hb2 hbq
  go_wp2_with fail
  refine (toIntS_any A n c zs _ hq hn).mono ?_
  rintro e w3 ⟨rfl, hg3, hs3, hb3⟩
  have hlt3 : wq.heap.size < w3.heap.size := by omega
  have HG3 := Lib.hid hg3
  have HG2' := Lib.hid ((hb3.block _ hlq).trans HGq.out)
  clear hg3 hs3
  go_wp2_with fail
  refine (eqIntS_same _ _ n n n zs _ (row_new HG2'.out (by omega)) (row_new HG3.out hlt3) h.len hn).mono ?_
  rintro e w4 ⟨rfl, m, rfl⟩
  go_wp2
  go_ret
  exact ⟨rfl, below_drewN ((hb1z.trans (hbzq.mono hb1z.size)).trans (hb3.mono (by omega))) m⟩
end Go.Proofs.YtdpclcogfkjbcaaDoor
