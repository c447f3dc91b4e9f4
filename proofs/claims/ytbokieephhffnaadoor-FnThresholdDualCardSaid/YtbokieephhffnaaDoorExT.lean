/- The text of a tree: the program's method text. -/
import Derived.Test.YtbokieephhffnaaDoorExX
import Derived.Test.YtbokieephhffnaaDoorShelf
namespace Go.Proofs.YtbokieephhffnaaDoor
open Go.RowKit
set_option maxHeartbeats 8000000
set_option linter.unusedVariables false

mutual
def textT : Tr → List UInt8
  | .leaf n => Lib.decDigits n
  | .gate n ts => Lib.decDigits n ++ (40 :: (Lib.join (textL ts) [44] ++ [41]))
def textL : List Tr → List (List UInt8)
  | [] => []
  | t :: ts => textT t :: textL ts
end
theorem textL_len : ∀ ts : List Tr, (textL ts).length = ts.length
  | [] => rfl
  | t :: ts => by show (textL ts).length + 1 = _; rw [textL_len ts]; rfl
theorem textL_at : ∀ (ts : List Tr) (k : Nat), (textL ts)[k]? = (ts[k]?).map textT
  | [], k => by simp [textL]
  | t :: ts, 0 => by simp [textL]
  | t :: ts, k + 1 => by show (textT t :: textL ts)[k + 1]? = _; simp [textL_at ts k]
/-- Every number of a tree is a digit; no threshold is empty. -/
inductive WfT : Tr → Prop where
  | leaf {n : Nat} : n < 10 → WfT (.leaf n)
  | gate {n : Nat} {ts : List Tr} : n < 10 → ts.length ≤ 6 → 0 < ts.length → (∀ (i : Nat) t, ts[i]? = some t → WfT t) → WfT (.gate n ts)
theorem join_le {sep : List UInt8} : ∀ (l : List (List UInt8)) (k : Nat) (x : List UInt8), l[k]? = some x → x.length ≤ (Lib.join l sep).length
  | [], k, x, h => by simp at h
  | [a], 0, x, h => by simp at h; subst h; simp [Lib.join]
  | [a], k + 1, x, h => by simp at h
  | a :: b :: l, 0, x, h => by simp at h; subst h; simp [Lib.join]
  | a :: b :: l, k + 1, x, h => by
    have := join_le (sep := sep) (b :: l) k x (by simpa using h)
    simp [Lib.join] at this ⊢
    omega
theorem text_part {n : Nat} {ts : List Tr} {k : Nat} {t : Tr} (h : ts[k]? = some t) : (textT t).length ≤ (textT (.gate n ts)).length := by
  have := join_le (sep := [44]) (textL ts) k (textT t) (by rw [textL_at, h]; rfl)
  show _ ≤ (Lib.decDigits n ++ (40 :: (Lib.join (textL ts) [44] ++ [41]))).length
  simp
  omega
theorem app_list (a b : List UInt8) : (⟨a.toArray⟩ : ByteArray) ++ ⟨b.toArray⟩ = ⟨(a ++ b).toArray⟩ := by
  apply ByteArray.ext
  simp
theorem size_list (a : List UInt8) : (⟨a.toArray⟩ : ByteArray).size = a.length := by simp [ByteArray.size]

/-- The call of text on a tree's value. -/
def TextCall (W : World) (v : Value) (Q : Ending → World → Prop) : Prop := (∃ b, v = .iface 41 (.pointer (some ⟨b, 0, none⟩)) ∧ Calls Tryd.prog 66 #[.pointer (some ⟨b, 0, none⟩)] W Q) ∨
  (∃ b, v = .iface 37 (.pointer (some ⟨b, 0, none⟩)) ∧ Calls Tryd.prog 16 #[.pointer (some ⟨b, 0, none⟩)] W Q)
def TextQ (t : Tr) (W : World) (e : Ending) (W' : World) : Prop := e = .returned (.string ⟨(textT t).toArray⟩) ∧ Below W.heap.size W W'
theorem text_any {w : World} {S : Nat → Prop} {v : Value} {t : Tr} (h : IsT w S v t) : WfT t → (textT t).length ≤ 1000 → ∀ W : World, w.heap.size ≤ W.heap.size → (∀ b, b < w.heap.size → W.heap[b]? = w.heap[b]?) → TextCall W v (TextQ t W) := by
  induction h with
  | @leaf b n h1 h2 =>
    intro hw hl W hz hW
    have hn : n < 10 := by cases hw; assumption
    have hblk := (hW b (heap_lt h2)).trans h2
    have hc : W.cell? ⟨b, 0, none⟩ = some (.int .i64 (n : Int)) := by simp [World.cell?, hblk]
    have HI := Lib.hid (Tryd.strconv_Itoa_small n (by omega))
    refine .inl ⟨b, rfl, ?_⟩
    clear h1 h2 hblk hw hl hW
    go_enter Tryd.func66, Tryd.ntmps66
    go_wp2_with (go_at_call 23; refine (HI.out _).mono ?_; rintro e w' ⟨rfl, rfl⟩)
    go_ret
    exact ⟨rfl, Below.refl _ _⟩
  | @gate b rb n cap vs ts h1 h2 h3 h4 h5 h6 h7 h8 h9 ih =>
    intro hw hl W hz hW
    have hn : n < 10 := by cases hw; assumption
    have h66 : ts.length ≤ 6 := by cases hw; assumption
    have hwf : ∀ (i : Nat) t, ts[i]? = some t → WfT t := by cases hw; assumption
    have hblk := (hW b (heap_lt h2)).trans h2
    have hc0 : W.cell? ⟨b, 0, none⟩ = some (.int .i64 (n : Int)) := by simp [World.cell?, hblk]
    have hc1 : W.cell? ⟨b, 1, none⟩ = some (.slice (some ⟨rb, 0, none⟩) ts.length cap) := by simp [World.cell?, hblk]
    have hbz := heap_lt h2
    have HI := Lib.hid (Tryd.strconv_Itoa_small n (by omega))
    have hrb : rb < w.heap.size := by
      have h0 : 0 < vs.length := by omega
      exact World.block_lt_of_cell? _ _ (h7 0 _ (List.getElem?_eq_getElem h0))
    have HC := Lib.hid (fun (i : Nat) (x : Value) (hx : vs[i]? = some x) => (World.cell?_of_block (hW rb hrb) : W.cell? ⟨rb, i, none⟩ = w.cell? ⟨rb, i, none⟩).trans (h7 i x hx))
    have HIH := Lib.hid (fun (i : Nat) (x : Value) (t : Tr) (hx : vs[i]? = some x) (ht : ts[i]? = some t) (wr : World) (hB : Below W.heap.size W wr) => ih i x t hx ht (hwf i t ht) (Nat.le_trans (text_part (n := n) ht) hl) wr (Nat.le_trans hz hB.size) (fun b' hb' => (hB.block b' (by omega)).trans (hW b' hb')))
    obtain ⟨L, hL⟩ : ∃ L, ts.length = L := ⟨_, rfl⟩
    rw [hL] at hc1 h4 h6 h9 h66
    have HL := Lib.hid hL
    have H6 := Lib.hid h6
    have HT := Lib.hid hl
    unfold maxLen at h5
    have hrbW : rb < W.heap.size := by omega
    have hbW : b < W.heap.size := by omega
    refine .inr ⟨b, rfl, ?_⟩
    clear h1 h2 h3 h6 h7 h8 ih hblk hw hl hW hwf hL hbz hrb
    go_enter Tryd.func16, Tryd.ntmps16
    go_wp2
    go_loopw [3, 11] (fun u i wr => ∃ k : Nat, k ≤ L ∧ i = .int .i64 k ∧ wr.ownsRow W.heap.size 9 1 u k (((textL ts).take k).map fun l => Value.string ⟨l.toArray⟩) ∧ Below W.heap.size W wr) (fun _ i _ => L - (intOf i).toNat)
    case atStart => exact ⟨0, Nat.zero_le _, rfl, World.ownsRow_nil _ _ _ _, Below.refl _ _⟩
    case round =>
      obtain ⟨k, hk, rfl, hown, hB⟩ := hrel
      have HO := Lib.hid hown
      have HB := Lib.hid hB
      have hsz := hB.size
      have hcb0 : wr.cell? ⟨b, 0, none⟩ = some (.int .i64 (n : Int)) := (hB.cell (p := ⟨b, 0, none⟩) hbW).trans hc0
      clear hown
      by_cases hkn : k < L
      · have i1 : (k : Int) < L := by omega
        have hkt : k < ts.length := by rw [HL.out]; exact hkn
        have hkv : k < vs.length := by rw [H6.out]; exact hkn
        have hx := List.getElem?_eq_getElem hkv
        have ht := List.getElem?_eq_getElem hkt
        have hcx : wr.cell? ⟨rb, k, none⟩ = some vs[k] := (hB.cell (p := ⟨rb, k, none⟩) hrbW).trans (HC.out k _ hx)
        have hcall := HIH.out k _ _ hx ht wr hB
        have hnx : (textL ts).take (k + 1) = (textL ts).take k ++ [textT ts[k]] := take_snoc (by rw [textL_at, ht]; rfl)
        generalize vs[k] = x at hcx hcall
        generalize ts[k] = t at hcall hnx
        have HN := Lib.hid hnx
        obtain ⟨i0, hi0, hi1, hi2, hi3⟩ := info_parts string_info
        have J0 := Lib.hid hi0
        have J1 := Lib.hid hi1
        have J2 := Lib.hid hi2
        have J3 := Lib.hid hi3
        clear hx ht hkv hkt hnx hi0 hi1 hi2 hi3 hB
        rcases hcall with ⟨b2, rfl, hcl⟩ | ⟨b2, rfl, hcl⟩
        all_goals
          have HCl := Lib.hid hcl
          clear hcl
          go_wp2_with fail
          refine HCl.out.mono ?_
          rintro e w1 ⟨rfl, hb1⟩
          have hz1 := hb1.size
          have HO1 := Lib.hid (owns_below HO.out hb1 (Nat.le_refl _))
          have HB1 := Lib.hid (HB.out.trans (hb1.mono hsz))
          clear hb1
          go_wp2_with (at_builtin; refine wpl_append1 rfl _ _ 57 (by rfl) W.heap.size 9 i0 (.string ByteArray.empty) 1 16 Tryd.underlying57 J0.out J1.out J2.out J3.out rfl (by omega) _ k _ (by rfl) HO1.out #[.string ⟨(textT t).toArray⟩] rfl (by rfl) (by simp [Value.oneCell']) (by omega) (by omega) (by omega) ?_; intro v2 w2 hown2 hb2 hg2 hat2)
          go_roundw
          case rel => exact ⟨k + 1, by omega, by go_num, by rw [HN.out]; simpa using hown2, HB1.out.trans hb2⟩
          case measure => simp [intOf]; omega
      · obtain rfl : k = L := by omega
        obtain ⟨Aw, cw, hu, hle, hmx, hrow⟩ := owns_row HO.out
        have hlen : (textL ts).length = k := by rw [textL_len, HL.out]
        rw [← hlen, List.take_length] at hrow
        obtain ⟨g, off, hA, hg, hcells⟩ := hrow (by intro e; have := congrArg List.length e; simp [hlen] at this; omega)
        subst hA
        have hJl : (Lib.join (textL ts) [44]).length + 3 ≤ 1003 := by
          have := HT.out
          simp only [textT, List.length_append, List.length_cons, List.length_nil] at this
          omega
        have hj := Tryd.strings_Join g off cw ((textL ts).map fun l => ⟨l.toArray⟩) ⟨#[44]⟩ wr (fun j x hx => hcells j _ (by
          rw [List.getElem?_map] at hx ⊢
          cases hy : (textL ts)[j]? with
          | none => rw [hy] at hx; cases hx
          | some y => rw [hy] at hx; simp at hx ⊢; exact hx)) hg (by simp; omega) (by simp; omega) (by
          rw [List.map_map, show (fun x : ByteArray => x.data.toList) ∘ (fun l : List UInt8 => (⟨l.toArray⟩ : ByteArray)) = id from rfl, List.map_id]
          show (Lib.join (textL ts) [44]).length ≤ _
          omega)
        rw [List.length_map, hlen, List.map_map, show (fun x : ByteArray => x.data.toList) ∘ (fun l : List UInt8 => (⟨l.toArray⟩ : ByteArray)) = id from rfl, List.map_id] at hj
        have HJ := Lib.hid hj
        have hD : (Lib.decDigits n).length ≤ 1000 := by
          have := HT.out
          simp only [textT, List.length_append] at this
          omega
        have HF := Lib.hid (show (⟨(Lib.decDigits n).toArray⟩ : ByteArray) ++ ⟨#[40]⟩ ++ ⟨(Lib.join (textL ts) [44]).toArray⟩ ++ ⟨#[41]⟩ = ⟨(textT (.gate n ts)).toArray⟩ by
          rw [show (⟨#[40]⟩ : ByteArray) = ⟨[40].toArray⟩ from rfl, show (⟨#[41]⟩ : ByteArray) = ⟨[41].toArray⟩ from rfl, app_list, app_list, app_list]
          congr 2
          simp [textT])
        have s1 := size_list (Lib.decDigits n)
        have s2 := size_list (Lib.join (textL ts) [44])
        have HJl := Lib.hid hJl
        obtain ⟨D, hDD⟩ : ∃ D : ByteArray, D = ⟨(Lib.decDigits n).toArray⟩ := ⟨_, rfl⟩
        obtain ⟨J, hJJ⟩ : ∃ J : ByteArray, J = ⟨(Lib.join (textL ts) [44]).toArray⟩ := ⟨_, rfl⟩
        rw [← hDD] at s1 HF HI
        have HJ2 := HJ.out
        rw [show (⟨#[44]⟩ : ByteArray).data.toList = [44] from rfl, ← hJJ] at HJ2
        have HJ3 := Lib.hid HJ2
        rw [← hJJ] at s2 HF
        have c0 : ¬ 9223372036854775807 < D.size + 1 := by omega
        have c1 : ¬ 9223372036854775807 < D.size + 1 + J.size := by omega
        have c2 : ¬ 9223372036854775807 < D.size + 1 + J.size + 1 := by omega
        clear hDD hJJ hj HJ2 hcells hJl hD s1 s2 hlen
        subst hu
        go_wp2_with (first
          | (go_at_call 23; refine (HI.out _).mono ?_; rintro e w' ⟨rfl, rfl⟩)
          | (go_at_call 24; refine HJ3.out.mono ?_; rintro e w2 ⟨rfl, hb2⟩; have HB2 := Lib.hid hb2; clear hb2))
        go_ret
        exact ⟨by first | rfl | (simp only [HF.out]; done) | (simp [HF.out]; done), HB.out.trans (HB2.out.mono hsz)⟩
end Go.Proofs.YtbokieephhffnaaDoor
