/- The text of a member set: the reference's l1Format, SetFormat on both sides. -/
import Derived.Test.YtdpclcogfkjbcaaDoorDec
import Derived.Test.YtdpclcogfkjbcaaDoorSet4
import Derived.Test.YtdpclcogfkjbcaaDoorShelf
namespace Go.Proofs.YtdpclcogfkjbcaaDoor
open Go.RowKit
set_option maxHeartbeats 8000000
set_option linter.unusedVariables false

theorem fm_okAt {zs : List Int} (h : setB zs = true) {k : Nat} (hk : k < zs.length) : okAt zs k = true := by
  unfold setB okTo at h
  exact List.all_eq_true.1 h k (List.mem_range.2 hk)
theorem fm_ge {zs : List Int} (h : setB zs = true) : ∀ k, k < zs.length → (k : Int) + 1 ≤ zs.getD k 0
  | 0, hk => by have := set_at h hk; omega
  | k + 1, hk => by
    have h0 := fm_ge h k (by omega)
    have h1 := fm_okAt h hk
    unfold okAt at h1
    simp at h1
    have := h1.2
    simp only [List.getD_eq_getElem?_getD] at h0 ⊢
    omega
theorem fm_len {zs : List Int} (h : setB zs = true) : zs.length ≤ 6 := by
  rcases Nat.lt_or_ge 6 zs.length with h1 | h1
  · have h2 := fm_ge h 6 h1
    have h3 := set_at h h1
    omega
  · exact h1
/-- The members' texts. -/
def fmtL (zs : List Int) : List (List UInt8) := zs.map fun z => Lib.decDigits z.toNat
theorem fmtL_len (zs : List Int) : (fmtL zs).length = zs.length := by simp [fmtL]
/-- A set's text. -/
def fmtS (zs : List Int) : ByteArray := ⟨(123 :: (Lib.join (fmtL zs) [44] ++ [125])).toArray⟩
/-- What stands ahead of the member k. -/
def fPre (zs : List Int) (k : Nat) : ByteArray := ⟨(123 :: Lib.join ((fmtL zs).take k) [44]).toArray⟩
theorem app_bytes (a b : List UInt8) : (⟨a.toArray⟩ : ByteArray) ++ ⟨b.toArray⟩ = ⟨(a ++ b).toArray⟩ := by
  apply ByteArray.ext
  simp
theorem size_bytes (a : List UInt8) : (⟨a.toArray⟩ : ByteArray).size = a.length := by simp [ByteArray.size]
theorem join_nothing (sep : List UInt8) : Lib.join ([] : List (List UInt8)) sep = [] := by simp [Lib.join]
theorem fPre_zero (zs : List Int) : fPre zs 0 = ⟨#[123]⟩ := by
  unfold fPre
  rw [List.take_zero, join_nothing]
theorem take_one {α : Type} {l : List α} {k : Nat} {x : α} (h : l[k]? = some x) : l.take (k + 1) = l.take k ++ [x] := by
  obtain ⟨hk, e⟩ := List.getElem?_eq_some_iff.1 h
  rw [List.take_succ_eq_append_getElem hk, e]
theorem fmtL_at {zs : List Int} {k : Nat} (hk : k < zs.length) : (fmtL zs)[k]? = some (Lib.decDigits (zs.getD k 0).toNat) := by
  unfold fmtL
  simp [hk]
theorem fPre_one {zs : List Int} {k : Nat} (hk : k = 0) (h : k < zs.length) : fPre zs k ++ ⟨(Lib.decDigits (zs.getD k 0).toNat).toArray⟩ = fPre zs (k + 1) := by
  subst hk
  unfold fPre
  rw [app_bytes, take_one (fmtL_at h), List.take_zero, join_nothing, List.nil_append]
  congr 2
  simp [Lib.join]
theorem fPre_next {zs : List Int} {k : Nat} (hk : 0 < k) (h : k < zs.length) : fPre zs k ++ ⟨#[44]⟩ ++ ⟨(Lib.decDigits (zs.getD k 0).toNat).toArray⟩ = fPre zs (k + 1) := by
  unfold fPre
  have hne : (fmtL zs).take k ≠ [] := by
    intro e
    have h3 : ((fmtL zs).take k).length = 0 := by rw [e]; rfl
    rw [List.length_take, fmtL_len] at h3
    omega
  rw [show (⟨#[44]⟩ : ByteArray) = ⟨[44].toArray⟩ from rfl, app_bytes, app_bytes, take_one (fmtL_at h), join_snoc [44] _ _ hne]
  congr 2
theorem fPre_all (zs : List Int) : fPre zs zs.length ++ ⟨#[125]⟩ = fmtS zs := by
  unfold fPre fmtS
  rw [show (⟨#[125]⟩ : ByteArray) = ⟨[125].toArray⟩ from rfl, app_bytes, List.take_of_length_le (by rw [fmtL_len]; omega)]
  rfl
theorem join_small (zs : List Int) (h : ∀ z ∈ zs, 0 ≤ z ∧ z < 10) : (Lib.join (fmtL zs) [44]).length ≤ 2 * zs.length := by
  induction zs with
  | nil => simp [fmtL, Lib.join]
  | cons a l ih =>
    have h1 := ih fun z hz => h z (List.mem_cons_of_mem _ hz)
    have h2 := h a (List.mem_cons_self ..)
    have h3 := dig_len (n := a.toNat) (by omega)
    by_cases hl : fmtL l = []
    · show (Lib.join (Lib.decDigits a.toNat :: fmtL l) [44]).length ≤ _
      rw [hl]
      simp [Lib.join, h3]
      omega
    · show (Lib.join (Lib.decDigits a.toNat :: fmtL l) [44]).length ≤ _
      rw [join_cons [44] _ hl]
      simp [h3]
      omega
theorem fPre_size {zs : List Int} (h : setB zs = true) (k : Nat) : (fPre zs k).size ≤ 13 := by
  have h1 := join_take [44] (fmtL zs) k
  have h2 := join_small zs fun z hz => by
    obtain ⟨i, hi, e⟩ := List.getElem_of_mem hz
    have := set_at h hi
    rw [List.getD_eq_getElem?_getD, List.getElem?_eq_getElem hi] at this
    simp only [Option.getD_some] at this
    omega
  have h3 := fm_len h
  unfold fPre
  rw [size_bytes]
  simp
  omega

theorem l1Format_any (A : Option Addr) (n c : Nat) (zs : List Int) (w : World) (hA : Row w w.heap.size A (zs.map (Value.int .i64))) (hl : zs.length = n) (hs : setB zs = true) :
    Calls Tryd.prog 28 #[.slice A n c] w fun e w' => e = .returned (.string (fmtS zs)) ∧ Below w.heap.size w w' := by
  have hn6 := fm_len hs
  rw [hl] at hn6
  have HAll := Lib.hid (fPre_all zs)
  have HS := Lib.hid (fun k => fPre_size hs k)
  have HSet := Lib.hid hs
  have HL := Lib.hid hl
  have HR := Lib.hid hA
  have HZ := Lib.hid (fPre_zero zs)
  rw [hl] at HAll
  clear hA hl hs
  go_enter Tryd.func28, Tryd.ntmps28
  go_wp2
  go_loopw [3, 4] (fun o i wr => ∃ k : Nat, k ≤ n ∧ i = .int .i64 k ∧ o = .string (fPre zs k) ∧ Row wr w.heap.size A (zs.map (Value.int .i64)) ∧ Below w.heap.size w wr) (fun _ i _ => n - (intOf i).toNat)
  case atStart => exact ⟨0, Nat.zero_le _, rfl, by rw [HZ.out], HR.out, Below.refl _ _⟩
  case round =>
    obtain ⟨k, hk, rfl, rfl, hrow, hB⟩ := hrel
    have HRk := Lib.hid hrow
    have HB := Lib.hid hB
    have hsz := hB.size
    clear hrow hB
    by_cases hkn : k < n
    · have i1 : (k : Int) < n := by omega
      have hkz : k < zs.length := by rw [HL.out]; exact hkn
      obtain ⟨b, off, hA, hbl, hcell⟩ := HRk.out.at_ (k := k) (u := .int .i64 (zs.getD k 0)) (by simp [hkz])
      obtain ⟨v1, v2⟩ := set_at HSet.out hkz
      have hks := HS.out k
      have hks1 := HS.out (k + 1)
      have hone := fun h0 : k = 0 => fPre_one h0 hkz
      have hnext := fun h0 : 0 < k => fPre_next h0 hkz
      obtain ⟨v, hv⟩ : ∃ v : Nat, zs.getD k 0 = (v : Int) := ⟨(zs.getD k 0).toNat, by omega⟩
      rw [hv] at hcell hone hnext v1 v2
      rw [Int.toNat_natCast] at hone hnext
      have HCk := Lib.hid (l6Dec_is v (by omega) wr)
      have hdl := dig_len (n := v) (by omega)
      rw [← size_bytes] at hdl
      generalize (⟨(Lib.decDigits v).toArray⟩ : ByteArray) = X at HCk hdl hone hnext
      subst hA
      clear hv hkz
      by_cases hk0 : k = 0
      · have HN := Lib.hid (hone hk0)
        have c1 : ¬ 9223372036854775807 < (fPre zs k).size + X.size := by omega
        have k1 : ¬ (0 : Int) < k := by omega
        clear hone hnext hk0
        generalize fPre zs k = o at HN c1 hks ⊢
        go_wp2_with (go_at_call 42; refine HCk.out.mono ?_; rintro e w3 ⟨rfl, hb3⟩; have HB3 := Lib.hid hb3; clear hb3)
        go_roundw
        case rel => exact ⟨k + 1, by omega, by go_num, by rw [HN.out], HRk.out.below (HB3.out.mono hsz), HB.out.trans (HB3.out.mono hsz)⟩
        case measure => simp [intOf]; omega
      · have HN := Lib.hid (hnext (by omega))
        have c1 : ¬ 9223372036854775807 < (fPre zs k).size + 1 := by omega
        have c2 : ¬ 9223372036854775807 < (fPre zs k).size + 1 + X.size := by omega
        have k1 : (0 : Int) < k := by omega
        clear hone hnext hk0
        generalize fPre zs k = o at HN c1 c2 hks ⊢
        go_wp2_with (go_at_call 42; refine HCk.out.mono ?_; rintro e w3 ⟨rfl, hb3⟩; have HB3 := Lib.hid hb3; clear hb3)
        go_roundw
        case rel => exact ⟨k + 1, by omega, by go_num, by rw [HN.out], HRk.out.below (HB3.out.mono hsz), HB.out.trans (HB3.out.mono hsz)⟩
        case measure => simp [intOf]; omega
    · obtain rfl : k = n := by omega
      have hks := HS.out k
      have c3 : ¬ 9223372036854775807 < (fPre zs k).size + 1 := by omega
      have HF := Lib.hid HAll.out
      generalize fPre zs k = o at HF c3 hks ⊢
      go_wp2
      go_ret
      exact ⟨congrArg (fun b => Ending.returned (Value.string b)) HF.out, HB.out⟩
end Go.Proofs.YtdpclcogfkjbcaaDoor
