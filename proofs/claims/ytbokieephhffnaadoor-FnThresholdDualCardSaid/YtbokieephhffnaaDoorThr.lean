/- ExprThreshold on both sides; the law FnExactExprThreshold's walk. -/
import Derived.Test.YtbokieephhffnaaDoorExV
import Derived.Test.YtbokieephhffnaaDoorFmt
namespace Go.Proofs.YtbokieephhffnaaDoor
open Go.RowKit
set_option maxHeartbeats 8000000
set_option linter.unusedVariables false

def leafOf (z : Int) : Tr := .leaf z.toNat
/-- The threshold as a tree, its text. -/
def thrT (k : Nat) (zs : List Int) : Tr := .gate k (zs.map leafOf)
def thrS (k : Nat) (zs : List Int) : ByteArray := ⟨(textT (thrT k zs)).toArray⟩
theorem textL_leaf : ∀ zs : List Int, textL (zs.map leafOf) = fmtL zs
  | [] => rfl
  | a :: l => by
    show textT (leafOf a) :: textL (l.map leafOf) = Lib.decDigits a.toNat :: fmtL l
    rw [textL_leaf l]
    rfl
theorem thr_text (k : Nat) (zs : List Int) : textT (thrT k zs) = Lib.decDigits k ++ (40 :: (Lib.join (fmtL zs) [44] ++ [41])) := by
  show Lib.decDigits k ++ (40 :: (Lib.join (textL (zs.map leafOf)) [44] ++ [41])) = _
  rw [textL_leaf]
theorem set_bd {zs : List Int} (h : setB zs = true) : ∀ z ∈ zs, 1 ≤ z ∧ z ≤ 6 := fun z hz => by
  obtain ⟨i, hi, e⟩ := List.getElem_of_mem hz
  have := set_at h hi
  rw [List.getD_eq_getElem?_getD, List.getElem?_eq_getElem hi] at this
  simp only [Option.getD_some] at this
  omega
theorem join_set {zs : List Int} (h : setB zs = true) : (Lib.join (fmtL zs) [44]).length ≤ 12 := by
  have h1 := join_small zs fun z hz => by have := set_bd h z hz; omega
  have h2 := fm_len h
  omega
theorem thr_len {k : Nat} {zs : List Int} (hk : k < 10) (h : setB zs = true) : (textT (thrT k zs)).length ≤ 15 := by
  rw [thr_text]
  have h1 := dig_len hk
  have h2 := join_set h
  simp
  omega
theorem thr_wf {k : Nat} {zs : List Int} (hk : 1 ≤ k) (hk2 : k ≤ zs.length) (h : setB zs = true) : WfD (thrT k zs) := by
  have h2 := fm_len h
  refine .gate hk (by simpa using hk2) (by simpa using h2) fun i t ht => ?_
  rw [List.getElem?_map] at ht
  cases hz : zs[i]? with
  | none => rw [hz] at ht; cases ht
  | some z =>
    rw [hz] at ht
    simp at ht
    subst ht
    have := set_bd h z (List.mem_of_getElem? hz)
    exact .leaf (by omega)
theorem fmtS_mid (zs : List Int) : (fmtS zs).extract 1 ((fmtS zs).size - 1) = ⟨(Lib.join (fmtL zs) [44]).toArray⟩ := by
  have hs : (fmtS zs).size = (Lib.join (fmtL zs) [44]).length + 2 := by
    unfold fmtS
    rw [size_bytes]
    simp
  rw [hs]
  apply ByteArray.ext
  rw [ByteArray.data_extract]
  unfold fmtS
  simp

theorem specThr_any (k : Int) (A : Option Addr) (n c : Nat) (zs : List Int) (w : World) (hA : Row w w.heap.size A (zs.map (Value.int .i64))) (hl : zs.length = n) (hn : n ≤ 1048576) :
    (¬ (setB zs = true ∧ 1 ≤ k ∧ k ≤ n) → Calls Tryd.prog 5 #[.int .i64 k, .slice A n c] w fun e w' => e = .returned (.tuple #[.string ⟨#[]⟩, .bool false]) ∧ Below w.heap.size w w') ∧
    (setB zs = true → 1 ≤ k → k ≤ n → Calls Tryd.prog 5 #[.int .i64 k, .slice A n c] w fun e w' => e = .returned (.tuple #[.string (thrS k.toNat zs), .bool true]) ∧ Below w.heap.size w w') := by
  have HV := Lib.hid (specSetValid_any A n c zs w hA hl hn)
  refine ⟨fun hno => ?_, fun hs h1 h2 => ?_⟩
  · cases hs : setB zs
    · go_enter Tryd.func5, Tryd.ntmps5
      go_wp2_with fail
      refine HV.out.mono ?_
      rintro e w1 ⟨rfl, m, hw⟩
      rw [hs]
      have HW := Lib.hid hw
      clear hw
      go_wp2_with fail
      go_ret2
      exact ⟨rfl, by rw [HW.out]; exact below_drewN (Below.refl _ _) m⟩
    · have hin : inB k 1 n = false := by
        cases hb : inB k 1 n
        · rfl
        · exact absurd ⟨hs, inB_iff.1 hb⟩ hno
      go_enter Tryd.func5, Tryd.ntmps5
      go_wp2_with fail
      refine HV.out.mono ?_
      rintro e w1 ⟨rfl, m, hw⟩
      rw [hs]
      have HW := Lib.hid hw
      clear hw
      go_wp2_with fail
      refine (l6In_any _ _ _ w1).mono ?_
      rintro e w2 ⟨rfl, hw2⟩
      rw [hin]
      replace hw2 := hw2.symm
      subst hw2
      go_wp2_with fail
      go_ret2
      exact ⟨rfl, by rw [HW.out]; exact below_drewN (Below.refl _ _) m⟩
  · have hin : inB k 1 n = true := inB_iff.2 ⟨h1, h2⟩
    have hn6 := fm_len hs
    rw [hl] at hn6
    obtain ⟨q, rfl⟩ := Int.eq_ofNat_of_zero_le (show 0 ≤ k by omega)
    have HT : Hid (⟨(Lib.decDigits q).toArray⟩ ++ ⟨#[40]⟩ ++ ⟨(Lib.join (fmtL zs) [44]).toArray⟩ ++ ⟨#[41]⟩ = thrS (q : Int).toNat zs) := Lib.hid (by
      rw [show (⟨#[40]⟩ : ByteArray) = ⟨[40].toArray⟩ from rfl, show (⟨#[41]⟩ : ByteArray) = ⟨[41].toArray⟩ from rfl, app_bytes, app_bytes, app_bytes]
      unfold thrS
      rw [Int.toNat_natCast, thr_text]
      congr 2
      simp)
    have hmid := fmtS_mid zs
    have hjs := size_bytes (Lib.join (fmtL zs) [44])
    have hjl := join_set hs
    have hfs : (fmtS zs).size = (Lib.join (fmtL zs) [44]).length + 2 := by
      unfold fmtS
      rw [size_bytes]
      simp
    have hdl := dig_len (n := q) (by omega)
    rw [← size_bytes] at hdl
    have HD := Lib.hid (fun W => l6Dec_is q (by omega) W)
    generalize (⟨(Lib.decDigits q).toArray⟩ : ByteArray) = D at HD HT hdl
    generalize (⟨(Lib.join (fmtL zs) [44]).toArray⟩ : ByteArray) = J at hmid HT hjs
    have HF := Lib.hid (fun (W : World) (hW : Row W W.heap.size A (zs.map (Value.int .i64))) => l1Format_any A n c zs W hW hl hs)
    generalize fmtS zs = f at hmid hfs HF
    have hf2 : 2 ≤ f.size := by omega
    have hf14 : f.size ≤ 14 := by omega
    have j1 : IntKind.i64.wrap ((f.size : Int) - 1) = (f.size : Int) - 1 := IntWalk.i64_in _ (by omega)
    have j2 : (0 : Int) ≤ (f.size : Int) - 1 := by omega
    have j3 : ((f.size : Int) - 1).toNat = f.size - 1 := by omega
    have j4 : (f.size : Int) - 1 ≤ f.size := by omega
    have j5 : (1 : Int) ≤ (f.size : Int) - 1 := by omega
    have j6 : (1 : Int) ≤ f.size := by omega
    have c1 : ¬ 9223372036854775807 < D.size + 1 := by omega
    have c2 : ¬ 9223372036854775807 < D.size + 1 + J.size := by omega
    have c3 : ¬ 9223372036854775807 < D.size + 1 + J.size + 1 := by omega
    have HA := Lib.hid hA
    have HS := Lib.hid hs
    have HIN := Lib.hid hin
    clear hA hs hl hin hjs hjl hfs hdl hf2 hf14 h1 h2
    go_enter Tryd.func5, Tryd.ntmps5
    go_wp2_with fail
    refine HV.out.mono ?_
    rintro e w1 ⟨rfl, m, hw⟩
    rw [HS.out]
    have hb1 : Below w.heap.size w w1 := by rw [hw]; exact below_drewN (Below.refl _ _) m
    have HB1 := Lib.hid hb1
    have HR1 := Lib.hid ((HA.out.below hb1).more hb1.size)
    clear hw hb1
    go_wp2_with fail
    refine (l6In_any _ _ _ w1).mono ?_
    rintro e w2 ⟨rfl, hw2⟩
    rw [HIN.out]
    replace hw2 := hw2.symm
    subst hw2
    go_wp2_with fail
    refine (HF.out w1 HR1.out).mono ?_
    rintro e w3 ⟨rfl, hb3⟩
    have HB3 := Lib.hid (HB1.out.trans (hb3.mono HB1.out.size))
    have hz3 := HB3.out.size
    clear hb3
    go_wp2_with fail
    go_region_held3 (fun _ => True) (trivial) ((go_at_call 14; refine (HD.out _).mono ?_; rintro e w4 ⟨rfl, hb4⟩; have HB4 := Lib.hid hb4; clear hb4))
    all_goals go_wp2
    all_goals go_ret2
    all_goals exact ⟨congrArg (fun b => Ending.returned (Value.tuple #[.string b, .bool true])) HT.out, HB3.out.trans ((Below.drew (Below.refl _ _)).trans HB4.out |>.mono hz3)⟩
end Go.Proofs.YtbokieephhffnaaDoor
