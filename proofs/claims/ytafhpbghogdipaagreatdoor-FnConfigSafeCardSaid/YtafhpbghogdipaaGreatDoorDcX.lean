/- Ex0 Wts1 Dr1 Fam4 Fam5 Fam6 Sq1 Sq2 Sq3 Sq4 Sq5 SqM SqS SqN SqO SqP SqQ Dc1 Dc2 Dc3 Dc4 Dc5 (merge.py). -/
import Derived.Test.YtafhpbghogdipaaGreatDoorOpen
import Derived.Lib.Strings
import Derived.Lib.Explode
import Derived.Lib.IndexBytes
import Derived.Test.YtafhpbghogdipaaGreatDoorWts0
import Derived.Test.YtafhpbghogdipaaGreatDoorMask
import Derived.Test.YtafhpbghogdipaaGreatDoorPick2
import Derived.Test.YtafhpbghogdipaaGreatDoorFam3
import Derived.Test.YtafhpbghogdipaaGreatDoorCanon
import Derived.LoopTactic
import Derived.IntWalk
import Derived.Lib.Hide
import Derived.Laws.IdiomStrings
import Derived.Deep.RegionHeld3
import Derived.Deep.AppendLies
import Derived.Test.YtafhpbghogdipaaGreatDoorIn2
import Derived.Test.YtafhpbghogdipaaGreatDoorCzX
/- Expressions: the plain parser over a text's bytes. -/
namespace Go.Proofs.YtafhpbghogdipaaGreatDoor
open Go.RowKit

/-- A syntax tree: a member, or a threshold over operands. -/
inductive Tr where
  | leaf (n : Nat) : Tr
  | gate (n : Nat) (ts : List Tr) : Tr
/-- Byte i of a text; 0 behind its end. -/
def bt (s : ByteArray) (i : Nat) : Nat := if h : i < s.size then s[i].toNat else 0
/-- A digit that names a member. -/
def isD (b : Nat) : Bool := decide (49 ≤ b ∧ b ≤ 54)
/-- Operands from place i on, up to the closing bracket; g reads one. -/
def pl (s : ByteArray) (g : Nat → Option (Tr × Nat)) : Nat → Nat → Option (List Tr × Nat)
  | 0, _ => none
  | f + 1, i => match g i with
    | none => none
    | some (t, j) => if bt s j = 41 then some ([t], j + 1) else if bt s j = 44 then (match pl s g f (j + 1) with | none => none | some (ts, e) => some (t :: ts, e)) else none
/-- An expression from place i on. -/
def pe (s : ByteArray) : Nat → Nat → Option (Tr × Nat)
  | 0, _ => none
  | f + 1, i => if isD (bt s i) = true then
      (if bt s (i + 1) = 40 then (match pl s (pe s f) f (i + 2) with | none => none | some (ts, e) => if ts.length ≤ 6 ∧ bt s i - 48 ≤ ts.length then some (.gate (bt s i - 48) ts, e) else none)
       else some (.leaf (bt s i - 48), i + 1))
    else none

theorem bt_lt {s : ByteArray} {i : Nat} (h : bt s i ≠ 0) : i < s.size := by
  unfold bt at h
  split at h
  · assumption
  · exact absurd rfl h
theorem bt_at {s : ByteArray} {i : Nat} (h : i < s.size) : bt s i = s[i].toNat := by simp [bt, h]
theorem bt_off {s : ByteArray} {i : Nat} (h : s.size ≤ i) : bt s i = 0 := by simp [bt, Nat.not_lt.2 h]
theorem isD_iff {b : Nat} : isD b = true ↔ 49 ≤ b ∧ b ≤ 54 := by simp [isD]
theorem isD_no {b : Nat} (h : b < 49 ∨ 54 < b) : isD b = false := by simp [isD]; omega

theorem pl_end {s : ByteArray} {g : Nat → Option (Tr × Nat)} (hg : ∀ i t e, g i = some (t, e) → i < e ∧ e ≤ s.size) : ∀ f i ts e, pl s g f i = some (ts, e) → i < e ∧ e ≤ s.size ∧ 0 < ts.length
  | 0, i, ts, e, h => by simp [pl] at h
  | f + 1, i, ts, e, h => by
    unfold pl at h
    cases hgi : g i with
    | none => simp [hgi] at h
    | some x =>
      obtain ⟨t, j⟩ := x
      obtain ⟨h1, h2⟩ := hg i t j hgi
      simp only [hgi] at h
      by_cases h41 : bt s j = 41
      · rw [if_pos h41] at h
        simp only [Option.some.injEq, Prod.mk.injEq] at h
        obtain ⟨rfl, rfl⟩ := h
        have := bt_lt (s := s) (i := j) (by omega)
        exact ⟨by omega, by omega, by simp⟩
      · rw [if_neg h41] at h
        by_cases h44 : bt s j = 44
        · rw [if_pos h44] at h
          cases hp : pl s g f (j + 1) with
          | none => simp [hp] at h
          | some y =>
            obtain ⟨ts', e'⟩ := y
            simp only [hp, Option.some.injEq, Prod.mk.injEq] at h
            obtain ⟨rfl, rfl⟩ := h
            have := pl_end hg f (j + 1) ts' e' hp
            exact ⟨by omega, by omega, by simp⟩
        · rw [if_neg h44] at h
          cases h
theorem pe_end {s : ByteArray} : ∀ f i t e, pe s f i = some (t, e) → i < e ∧ e ≤ s.size
  | 0, i, t, e, h => by simp [pe] at h
  | f + 1, i, t, e, h => by
    unfold pe at h
    by_cases hd : isD (bt s i) = true
    · rw [if_pos hd] at h
      have hi := bt_lt (s := s) (i := i) (by have := isD_iff.1 hd; omega)
      by_cases h40 : bt s (i + 1) = 40
      · rw [if_pos h40] at h
        cases hp : pl s (pe s f) f (i + 2) with
        | none => simp [hp] at h
        | some y =>
          obtain ⟨ts', e'⟩ := y
          simp only [hp] at h
          have := pl_end (pe_end f) f (i + 2) ts' e' hp
          split at h
          · simp only [Option.some.injEq, Prod.mk.injEq] at h
            obtain ⟨rfl, rfl⟩ := h
            exact ⟨by omega, by omega⟩
          · cases h
      · rw [if_neg h40] at h
        simp only [Option.some.injEq, Prod.mk.injEq] at h
        obtain ⟨rfl, rfl⟩ := h
        exact ⟨by omega, by omega⟩
    · rw [if_neg hd] at h
      cases h

/-- Where an expression ends, or -1. -/
def endI : Option (Tr × Nat) → Int
  | none => -1
  | some (_, e) => (e : Int)
/-- .. of a threshold n behind k operands that have been read. -/
def finI (n k : Nat) : Option (List Tr × Nat) → Int
  | none => -1
  | some (ts, e) => if k + ts.length ≤ 6 ∧ n ≤ k + ts.length then (e : Int) else -1
def hdI (s : ByteArray) (g : Nat → Option (Tr × Nat)) (n k j f : Nat) : Int :=
  if bt s j = 41 then (if k ≤ 6 ∧ n ≤ k then ((j + 1 : Nat) : Int) else -1) else if bt s j = 44 then finI n k (pl s g f (j + 1)) else -1
theorem finI_step (s : ByteArray) (g : Nat → Option (Tr × Nat)) (n k f i : Nat) : finI n k (pl s g (f + 1) i) = match g i with | none => -1 | some (_, j) => hdI s g n (k + 1) j f := by
  unfold pl
  cases hgi : g i with
  | none => rfl
  | some x =>
    obtain ⟨t, j⟩ := x
    unfold hdI
    by_cases h41 : bt s j = 41
    · simp [h41, finI]
    · by_cases h44 : bt s j = 44
      · simp only [h44]
        cases hp : pl s g f (j + 1) with
        | none => simp [finI]
        | some y =>
          obtain ⟨ts, e⟩ := y
          simp only [finI]
          have e1 : k + (ts.length + 1) = k + 1 + ts.length := by omega
          simp [e1]
      · simp [h41, h44, finI]
theorem finI_many {s : ByteArray} {g : Nat → Option (Tr × Nat)} (hg : ∀ i t e, g i = some (t, e) → i < e ∧ e ≤ s.size) (n f i : Nat) : finI n 6 (pl s g f i) = -1 := by
  cases hp : pl s g f i with
  | none => rfl
  | some y =>
    obtain ⟨ts, e⟩ := y
    have := pl_end hg f i ts e hp
    simp only [finI]
    rw [if_neg (by omega)]
theorem endI_gate {s : ByteArray} {f i : Nat} (hd : isD (bt s i) = true) (h : bt s (i + 1) = 40) : endI (pe s (f + 1) i) = finI (bt s i - 48) 0 (pl s (pe s f) f (i + 2)) := by
  unfold pe
  rw [if_pos hd, if_pos h]
  cases hp : pl s (pe s f) f (i + 2) with
  | none => rfl
  | some y =>
    obtain ⟨ts, e⟩ := y
    simp only [finI, Nat.zero_add]
    split <;> rfl
theorem endI_leaf {s : ByteArray} {f i : Nat} (hd : isD (bt s i) = true) (h : ¬ bt s (i + 1) = 40) : endI (pe s (f + 1) i) = ((i + 1 : Nat) : Int) := by
  unfold pe
  rw [if_pos hd, if_neg h]
  rfl
theorem endI_no {s : ByteArray} {f i : Nat} (hd : isD (bt s i) = false) : endI (pe s (f + 1) i) = -1 := by
  unfold pe
  rw [if_neg (by rw [hd]; simp)]
  rfl
theorem endI_ge (o : Option (Tr × Nat)) : -1 ≤ endI o := by
  cases o with
  | none => exact Int.le_refl _
  | some x => show (-1 : Int) ≤ (x.2 : Int); omega

/-- The first byte of what is left. -/
def fst (r : ByteArray) : Nat := bt r 0
theorem rest_fst (s : ByteArray) (i : Nat) : fst (s.extract i s.size) = bt s i := by
  unfold fst bt
  by_cases h : i < s.size
  · have h0 : 0 < (s.extract i s.size).size := by simp [ByteArray.size_extract]; omega
    rw [dif_pos h0, dif_pos h]
    simp [ByteArray.getElem_extract]
  · have h0 : ¬ 0 < (s.extract i s.size).size := by simp [ByteArray.size_extract]; omega
    rw [dif_neg h0, dif_neg h]
theorem rest_next (s : ByteArray) (i : Nat) (h : i < s.size) : (s.extract i s.size).extract 1 (s.extract i s.size).size = s.extract (i + 1) s.size := Lib.tail_piece s i h
end Go.Proofs.YtafhpbghogdipaaGreatDoor

/- WeightsValid, the program's and the reference's, and the law FnExactWeightsValid. -/
namespace Go.Proofs.YtafhpbghogdipaaGreatDoor
open Go.RowKit

/-- A vote assignment is valid. -/
def wtsB (zs : List Int) : Bool := zs.all (fun z => inB z 0 9) && inB zs.length 1 6
set_option maxHeartbeats 1000000

theorem specWeights_any (A : Option Addr) (n c : Nat) (zs : List Int) (w : World) (hA : Row w w.heap.size A (zs.map (Value.int .i64))) (hl : zs.length = n) (hn : n ≤ 1048576) :
    Calls Tryz.prog 83 #[.slice A n c] w fun e w' => e = .returned (.bool (wtsB zs)) ∧ w' = w := by
  have HA := Lib.hid (hA.src hl)
  have HL := Lib.hid hl
  clear hA hl
  by_cases hn0 : n ≤ 0
  · go_enter Tryz.func83, Tryz.ntmps83
    go_wp2
    go_loop [3] (fun i => ∃ k : Nat, k ≤ n ∧ i = .int .i64 k ∧ (zs.take k).all (fun z => inB z 0 9) = true) (fun i => n - (intOf i).toNat)
    case atStart => exact ⟨0, Nat.zero_le _, rfl, by simp⟩
    case round =>
      obtain ⟨k, hk, rfl, hall⟩ := hrel
      have HAll := Lib.hid hall
      clear hall
      by_cases hkn : k < n
      · omega
      · have hr : wtsB zs = inB n 1 6 := by
          have := HAll.out
          rw [List.take_of_length_le (by rw [HL.out]; omega)] at this
          simp [wtsB, this, HL.out]
        have HR := Lib.hid hr
        clear hr
        go_wp2_with (go_at_call 69; refine (l6In_any _ _ _ _).mono ?_; rintro e w' ⟨rfl, rfl⟩)
        go_ret
        exact ⟨ret_bool' HR.out.symm, rfl⟩
  · obtain ⟨b, off, rfl, _, _⟩ := HA.out 0 (by omega)
    go_enter Tryz.func83, Tryz.ntmps83
    go_wp2
    go_loop [3] (fun i => ∃ k : Nat, k ≤ n ∧ i = .int .i64 k ∧ (zs.take k).all (fun z => inB z 0 9) = true) (fun i => n - (intOf i).toNat)
    case atStart => exact ⟨0, Nat.zero_le _, rfl, by simp⟩
    case round =>
      obtain ⟨k, hk, rfl, hall⟩ := hrel
      have HAll := Lib.hid hall
      clear hall
      by_cases hkn : k < n
      · obtain ⟨_, _, e1, _, h1⟩ := HA.out k hkn
        cases e1
        have hkl : k < zs.length := by rw [HL.out]; exact hkn
        have HN := Lib.hid (all_next (fun z => inB z 0 9) zs k hkl)
        have HF := Lib.hid (all_bad (fun z => inB z 0 9) zs k hkl)
        generalize zs.getD k 0 = v at h1 HN HF
        cases hb : inB v 0 9
        · have hr : wtsB zs = false := by
            have := HF.out hb
            simp [wtsB, this]
          have HR := Lib.hid hr
          clear hr
          go_wp2_with (go_at_call 69; refine (l6In_any _ _ _ _).mono ?_; rintro e w' ⟨rfl, rfl⟩)
          go_ret
          exact ⟨ret_bool' HR.out.symm, rfl⟩
        · go_wp2_with (go_at_call 69; refine (l6In_any _ _ _ _).mono ?_; rintro e w' ⟨rfl, rfl⟩)
          go_round
          case rel => exact ⟨k + 1, by omega, by go_num, by rw [HN.out, HAll.out]; simp [hb]⟩
          case measure => simp [intOf]; omega
      · have hr : wtsB zs = inB n 1 6 := by
          have := HAll.out
          rw [List.take_of_length_le (by rw [HL.out]; omega)] at this
          simp [wtsB, this, HL.out]
        have HR := Lib.hid hr
        clear hr
        go_wp2_with (go_at_call 69; refine (l6In_any _ _ _ _).mono ?_; rintro e w' ⟨rfl, rfl⟩)
        go_ret
        exact ⟨ret_bool' HR.out.symm, rfl⟩

end Go.Proofs.YtafhpbghogdipaaGreatDoor

/- The draws of vote assignments and of lists of members. -/
namespace Go.Proofs.YtafhpbghogdipaaGreatDoor
open Go.RowKit
set_option maxHeartbeats 2000000

theorem own_empty {B : Nat} (w : World) (hB : B ≤ w.heap.size) : OwnI (w.alloc (.cells #[] 3)) B (.slice (some ⟨w.heap.size, 0, none⟩) 0 0) [] := owns_empty w _ hB
theorem own_grown {w w' : World} {B R : Nat} {v : Value} {zs : List Int} (h : OwnI w B v zs) (hg : w.grownBy w' (some R)) (hR : R < B) : OwnI w' B v zs := by
  refine World.ownsRow.kept h hg ?_
  cases hv : v.ownBlock with
  | none => exact .inl rfl
  | some k =>
    right
    intro e
    have := h.lt k hv
    cases e
    omega
theorem grown_below {a w w' : World} {row : Option Nat} {K : Nat} (h : a.grownBy w row) (hb : Below K w w') (hK : a.heap.size ≤ K) : a.grownBy w' row :=
  ⟨hb.os.trans h.os, hb.tape.trans h.tape, hb.output.trans h.output, Nat.le_trans h.size hb.size, fun i hi hne => (hb.block i (by omega)).trans (h.block i hi hne)⟩
theorem all_snoc {P : Int → Prop} {zs : List Int} {x : Int} (h : ∀ z ∈ zs, P z) (hx : P x) : ∀ z ∈ zs ++ [x], P z := by
  intro z hz
  rw [List.mem_append] at hz
  rcases hz with hz | hz
  · exact h z hz
  · simp at hz
    subst hz
    exact hx

theorem l91Weights_any (R : Nat) {B : Nat} (q : Int) (w : World) (hR : Rdr w R B q) (hq : q ≤ 40000) : Calls Tryz.prog 65 #[.pointer (some ⟨R, 0, none⟩)] w fun e w' =>
    ∃ v zs, e = .returned v ∧ OwnI w' w.heap.size v zs ∧ (zs.length ≤ 7 ∧ ∀ z ∈ zs, 0 ≤ z ∧ z ≤ 10) ∧ (∃ q', q' ≤ q + 10 ∧ Rdr w' R B q') ∧ w.grownBy w' (some R) := by
  have hlt := hR.lt
  have hlo := hR.lo
  go_enter Tryz.func65, Tryz.ntmps65
  go_wp2_with fail
  (apply Calls.mono; focus (apply pick_abs; (focus (repeat (first | (with_reducible assumption) | (with_reducible apply Rdr.drewN) | (with_reducible apply Rdr.drew) | (with_reducible apply Rdr.alloc) | (with_reducible apply Rdr.next) | (with_reducible apply Rdr.keepB; with_reducible assumption) | (with_reducible apply Rdr.setCell; (first | omega | (show _ < _; omega) | (simp; omega) | (simp; done))) | (with_reducible apply Rdr.setLow; (first | omega | (show _ < _; omega) | (simp; omega) | (simp; done)); (first | omega | (show _ < _ ∨ _ < _; omega) | (simp; omega)))))); omega)); rintro e wp ⟨v, rfl, hv0, hv1, hrd, hsz, hcp, hfp, hgp⟩
  replace hv1 := hv1 (by omega)
  try simp at hsz
  replace hsz := Nat.le_of_eq hsz.symm
  have hown0 := own_grown (B := w.heap.size) (own_empty w (Nat.le_refl _)) hgp hlt
  have hg0 := grown_trans (grown_alloc (World.grownBy.refl w (some R)) _) hgp
  clear hcp hfp hgp
  obtain ⟨kk, rfl⟩ := Int.eq_ofNat_of_zero_le hv0
  go_wp2_with fail
  go_loopw [3, 4] (fun u i wr => ∃ (zs : List Int) (k : Nat) (q' : Int), i = .int .i64 (k : Int) ∧ k ≤ 6 ∧ zs.length + k ≤ 6 ∧ (∀ z ∈ zs, 0 ≤ z ∧ z ≤ 10) ∧ OwnI wr w.heap.size u zs ∧ q' + k ≤ q + 8 ∧ Rdr wr R B q' ∧ w.grownBy wr (some R)) (fun _ i _ => (intOf i).toNat)
  case atStart => exact ⟨[], kk + 1, q + 1, by go_num, by omega, by simp; omega, by simp, hown0, by omega, hrd, hg0⟩
  case round =>
    obtain ⟨zs, k, q', rfl, hk, hlen, hall, hown, hq', hrd', hg⟩ := hrel
    have hszr := hg.size
    have hlo' := hrd'.lo
    by_cases hk0 : 0 < k
    · go_wp2_with fail
      (apply Calls.mono; focus (apply pick_abs; exact hrd'; omega)); rintro e wp2 ⟨x, rfl, hx0, hx1, hrd2, hsz2, hcp2, hfp2, hgp2⟩
      replace hx1 := hx1 (by omega)
      replace hsz2 := Nat.le_of_eq hsz2.symm
      have hown2 := own_grown hown hgp2 hlt
      have hg2 := grown_trans hg hgp2
      have hszr2 := hg2.size
      clear hcp2 hfp2 hgp2 hrd' hg hown
      go_wp2_with (at_builtin; refine wpl_append_int rfl _ _ (by rfl) w.heap.size _ _ _ (by rfl) hown2 (by rfl) (by omega) hszr2 ?_; intro v' w1 hown1 hb1 _ _)
      go_roundw
      case rel =>
        refine ⟨zs ++ [x], k - 1, q' + 1, by go_num, by omega, by simp; omega, all_snoc hall (by omega), hown1, by omega, hrd2.keep (hb1.mono (by omega)), grown_below hg2 hb1 (Nat.le_refl _)⟩
      case measure => simp [intOf]; omega
    · go_wp2_with fail
      (apply Calls.mono; focus (apply pick_abs; exact hrd'; omega)); rintro e wp2 ⟨x, rfl, hx0, hx1, hrd2, hsz2, hcp2, hfp2, hgp2⟩
      replace hx1 := hx1 (by omega)
      replace hsz2 := Nat.le_of_eq hsz2.symm
      have hown2 := own_grown hown hgp2 hlt
      have hg2 := grown_trans hg hgp2
      have hszr2 := hg2.size
      clear hcp2 hfp2 hgp2 hrd' hg hown
      by_cases hx : x = 0
      · subst hx
        go_wp2_with (at_builtin; refine wpl_append_int rfl _ _ (by rfl) w.heap.size _ _ _ (by rfl) hown2 (by rfl) (by omega) hszr2 ?_; intro v' w1 hown1 hb1 _ _)
        go_ret
        exact ⟨_, zs ++ [10], rfl, hown1, ⟨by simp; omega, all_snoc hall (by omega)⟩, ⟨q' + 1, by omega, hrd2.keep (hb1.mono (by omega))⟩, grown_below hg2 hb1 (Nat.le_refl _)⟩
      · have hx' : (x == 0) = false := by simpa using hx
        have HO := Lib.hid hown2
        clear hown2
        go_wp2_with fail
        go_ret
        exact ⟨_, zs, rfl, HO.out, ⟨by omega, hall⟩, ⟨q' + 1, by omega, hrd2⟩, hg2⟩

end Go.Proofs.YtafhpbghogdipaaGreatDoor

/- FamilyHasQuorum: the reference's, the program's, the law FnExactFamilyHasQuorum. -/
namespace Go.Proofs.YtafhpbghogdipaaGreatDoor
open Go.RowKit
set_option maxRecDepth 100000
set_option maxHeartbeats 4000000

/-- One of the first k lists lies in zs. -/
def hasS (zss : List (List Int)) (zs : List Int) : Nat → Bool
  | 0 => false
  | k + 1 => hasS zss zs k || subB (rw_ zss k) zs
theorem hasS_is {zss : List (List Int)} {zs : List Int} {k : Nat} : ∀ {n : Nat}, k < n → subB (rw_ zss k) zs = true → hasS zss zs n = true
  | 0, h, _ => absurd h (by omega)
  | n + 1, h, hm => by
    by_cases e : k = n
    · subst e; simp [hasS, hm]
    · simp [hasS, hasS_is (n := n) (by omega) hm]
theorem has_any {zss : List (List Int)} {zs : List Int} (hs : setB zs = true) : ∀ n, famTo zss n = true → hasS zss zs n = anyTo (mAt zss) (mkS zs) n
  | 0, _ => rfl
  | n + 1, h => by
    have ih := has_any hs n (famTo_le (by omega) h)
    have := inM_sub (fam_set (k := n) (by omega) h) hs
    show (hasS zss zs n || subB (rw_ zss n) zs) = (anyTo _ _ n || inM (mAt zss n) (mkS zs))
    rw [ih]
    congr 1
    exact this.symm

theorem l3Has_any (A : Option Addr) (n c : Nat) (zss : List (List Int)) (A2 : Option Addr) (n2 c2 : Nat) (zs : List Int) (w : World) (h : Mat w w.heap.size A n zss) (hz : SzOk zss n) (hB : Row w w.heap.size A2 (zs.map (Value.int .i64))) (hl2 : zs.length = n2) (hn2 : n2 ≤ 1048576) :
    Calls Tryz.prog 85 #[.slice A n c, .slice A2 n2 c2] w fun e w' => e = .returned (.bool (hasS zss zs n)) ∧ w' = w := by
  have hn := hz.1
  have HM := Lib.hid h
  have HZ := Lib.hid hz
  have HB := Lib.hid hB
  have HL2 := Lib.hid hl2
  clear h hz hB hl2
  obtain ⟨r, hr⟩ : ∃ r, r = hasS zss zs n := ⟨_, rfl⟩
  rw [← hr]
  have HR := Lib.hid hr
  clear hr
  go_enter Tryz.func85, Tryz.ntmps85
  go_wp2
  go_loop [5] (fun i => ∃ k : Nat, k ≤ n ∧ i = .int .i64 k ∧ hasS zss zs k = false) (fun i => n - (intOf i).toNat)
  case atStart => exact ⟨0, Nat.zero_le _, rfl, rfl⟩
  case round =>
    obtain ⟨k, hk, rfl, hno⟩ := hrel
    have HN := Lib.hid hno
    clear hno
    by_cases hkn : k < n
    · have i1 : (k : Int) < n := by omega
      obtain ⟨b, off, C, cc, g⟩ := HM.out.get hkn
      have G := Lib.hid g
      obtain rfl := g.adr
      have hcell := g.cell
      have hc := l1Subset_any C _ cc (rw_ zss k) A2 n2 c2 zs w w.heap.size g.row rfl (HZ.out.2 k hkn) HB.out HL2.out hn2
      have HX := Lib.hid (show hasS zss zs (k + 1) = (hasS zss zs k || subB (rw_ zss k) zs) from rfl)
      have HY := Lib.hid (fun h => hasS_is (zss := zss) (zs := zs) hkn h)
      clear g
      obtain ⟨q, hq⟩ : ∃ q, q = subB (rw_ zss k) zs := ⟨_, rfl⟩
      rw [← hq] at hc HX HY
      have HC := Lib.hid hc
      clear hc hq
      cases q
      · go_wp2_with (go_at_call 36; refine HC.out.mono ?_; rintro e w' ⟨rfl, rfl⟩)
        go_round
        case rel => exact ⟨k + 1, by omega, by go_num, by rw [HX.out, HN.out]; rfl⟩
        case measure => simp [intOf]; omega
      · have HF : Hid (r = true) := by rw [HR.out]; exact HY.out rfl
        go_wp2_with (go_at_call 36; refine HC.out.mono ?_; rintro e w' ⟨rfl, rfl⟩)
        go_ret
        exact ⟨ret_bool' HF.out.symm, rfl⟩
    · obtain rfl : k = n := by omega
      have HF : Hid (r = false) := by rw [HR.out]; exact HN.out
      go_wp2
      go_ret
      exact ⟨ret_bool' HF.out.symm, rfl⟩

/-- What FamilyHasQuorum answers. -/
def hqB (zss : List (List Int)) (zs : List Int) (n : Nat) : Bool := famB zss && setB zs && hasS zss zs n
def CpS (w : World) (g : Nat) (zs : List Int) : Prop := w.heap[g]? = some (.cells (zs.map (Value.int .i64)).toArray 3 (0, 0))
theorem CpS.row {w : World} {g : Nat} {zs : List Int} (h : CpS w g zs) : Row w w.heap.size (some ⟨g, 0, none⟩) (zs.map (Value.int .i64)) := row_new h (blk_lt h)
theorem CpS.below {w w' : World} {g : Nat} {zs : List Int} (h : CpS w g zs) (hb : Below w.heap.size w w') : CpS w' g zs := (hb.block g (blk_lt h)).trans h
end Go.Proofs.YtafhpbghogdipaaGreatDoor

/- Survives: the reference's, the program's, the law FnExactSurvives. -/
namespace Go.Proofs.YtafhpbghogdipaaGreatDoor
open Go.RowKit
set_option maxRecDepth 100000
set_option maxHeartbeats 4000000

theorem l1Masks_any (w : World) : Calls Tryz.prog 68 #[] w fun e w' => e = .returned (.int .i64 64) ∧ w' = w := by
  go_enter Tryz.func68, Tryz.ntmps68
  go_wp2
  go_loop [1, 2] (fun u i => ∃ k : Nat, k ≤ 6 ∧ i = .int .i64 k ∧ u = .int .i64 ((2 ^ k : Nat) : Int)) (fun _ i => 6 - (intOf i).toNat)
  case atStart => exact ⟨0, Nat.zero_le _, rfl, rfl⟩
  case round =>
    obtain ⟨k, hk, rfl, rfl⟩ := hrel
    rcases (show k = 0 ∨ k = 1 ∨ k = 2 ∨ k = 3 ∨ k = 4 ∨ k = 5 ∨ k = 6 by omega) with rfl | rfl | rfl | rfl | rfl | rfl | rfl
    case inr.inr.inr.inr.inr.inr =>
      go_wp2
      go_ret
      exact ⟨rfl, rfl⟩
    all_goals
      go_wp2
      go_round
      case rel => first | exact ⟨1, by omega, rfl, rfl⟩ | exact ⟨2, by omega, rfl, rfl⟩ | exact ⟨3, by omega, rfl, rfl⟩ | exact ⟨4, by omega, rfl, rfl⟩ | exact ⟨5, by omega, rfl, rfl⟩ | exact ⟨6, by omega, rfl, rfl⟩
      case measure => simp [intOf]
theorem l1Of63 (w : World) : Calls Tryz.prog 66 #[.int .i64 63] w fun e w' =>
    ∃ v, e = .returned v ∧ OwnI w' w.heap.size v (ofTo 63 6) ∧ Below w.heap.size w w' := l1OfMask_any 63 (by omega) w

theorem minus_next (zs ys : List Int) (k : Nat) (h : k < zs.length) : minusL (zs.take (k + 1)) ys = minusL (zs.take k) ys ++ (if ys.any (fun y => y == zs.getD k 0) = true then [] else [zs.getD k 0]) := by
  have hg : zs.getD k 0 = zs[k] := by simp [h]
  rw [hg, List.take_succ_eq_append_getElem h]
  unfold minusL
  rw [List.filter_append]
  congr 1
  cases hc : ys.any (fun y => y == zs[k]) <;> simp [hc]
theorem minus_len (zs ys : List Int) (k : Nat) : (minusL (zs.take k) ys).length ≤ zs.length := by
  unfold minusL
  refine Nat.le_trans (List.length_filter_le _ _) ?_
  simp
  omega
/-- What Survives answers. -/
def svB (zss : List (List Int)) (zs : List Int) (n : Nat) : Bool := famB zss && setB zs && anyTo (mAt zss) (63 - mkS zs) n
theorem not63 : ∀ m, m < 64 → 63 &&& (18446744073709551615 - m) = 63 - m := by decide +kernel
end Go.Proofs.YtafhpbghogdipaaGreatDoor

/- SmallestQuorum: the reference's, the program's, the law FnExactSmallestQuorum. -/
namespace Go.Proofs.YtafhpbghogdipaaGreatDoor
open Go.RowKit
set_option maxRecDepth 100000
set_option maxHeartbeats 4000000

def o1 (m : Int) : Int := IntKind.u64.wrap (bits .and .u64 (m / 2) 6148914691236517205 + bits .and .u64 m 6148914691236517205)
def o2 (x : Int) : Int := IntKind.u64.wrap (bits .and .u64 (x / 4) 3689348814741910323 + bits .and .u64 x 3689348814741910323)
def o3 (x : Int) : Int := bits .and .u64 (IntKind.u64.wrap (x / 16 + x)) 1085102592571150095
def o4 (x : Int) : Int := IntKind.u64.wrap (x + x / 256)
def o5 (x : Int) : Int := IntKind.u64.wrap (x + x / 65536)
def o6 (x : Int) : Int := IntKind.u64.wrap (x + x / 4294967296)
theorem ones_eq : ∀ m : Nat, m < 64 → bits .and .i64 (wrap64 (o6 (o5 (o4 (o3 (o2 (o1 (m : Int)))))))) 127 = ((cnt m : Nat) : Int) := by decide +kernel
/-- The least of the first k numbers, and at most 6. -/
def minTo (g : Nat → Nat) : Nat → Nat
  | 0 => 6
  | k + 1 => min (minTo g k) (g k)
theorem minTo_eq {g g' : Nat → Nat} : ∀ n, (∀ k, k < n → g k = g' k) → minTo g n = minTo g' n
  | 0, _ => rfl
  | n + 1, h => by
    show min (minTo g n) (g n) = min (minTo g' n) (g' n)
    rw [minTo_eq n (fun k hk => h k (by omega)), h n (by omega)]
theorem minTo_le (g : Nat → Nat) : ∀ n, minTo g n ≤ 6
  | 0 => Nat.le_refl _
  | n + 1 => Nat.le_trans (Nat.min_le_left _ _) (minTo_le g n)
/-- What SmallestQuorum answers. -/
def sqV (zss : List (List Int)) (n : Nat) : Int := if famB zss = true ∧ 0 < n then (minTo (ln zss) n : Nat) else -1
theorem sq_no {zss : List (List Int)} {n : Nat} (h : famB zss = false ∨ n = 0) : sqV zss n = -1 := by
  unfold sqV
  rw [if_neg]
  rintro ⟨h1, h2⟩
  rcases h with h | h
  · rw [h] at h1; cases h1
  · omega
theorem sq_yes {zss : List (List Int)} {n : Nat} (h : famB zss = true) (hn : 0 < n) : sqV zss n = (minTo (ln zss) n : Nat) := by
  unfold sqV
  rw [if_pos ⟨h, hn⟩]
theorem ln_cnt {zss : List (List Int)} {n k : Nat} (h : famTo zss n = true) (hk : k < n) : ln zss k = cnt (mAt zss k) := cnt_set (fam_set hk h)
theorem min_cast (a b : Nat) : min (a : Int) (b : Int) = ((min a b : Nat) : Int) := by omega
theorem ret_i {a b : Int} (h : a = b) : Ending.returned (.int .i64 a) = .returned (.int .i64 b) := by rw [h]

end Go.Proofs.YtafhpbghogdipaaGreatDoor

/- The reference's l2End: where an expression ends. -/
namespace Go.Proofs.YtafhpbghogdipaaGreatDoor
open Go.RowKit
set_option maxRecDepth 100000
set_option maxHeartbeats 2000000

theorem u8_sub {c : Nat} (h1 : 48 ≤ c) (h2 : c < 256) : IntKind.u8.wrap ((c : Int) - 48) = ((c - 48 : Nat) : Int) := by
  have : IntKind.u8.wrap ((c : Int) - 48) = ((c : Int) - 48) % 256 := by first | rfl | simp [IntKind.wrap]
  rw [this]
  omega
theorem byte_lt (x : UInt8) : x.toNat < 256 := UInt8.toNat_lt x

theorem l2End_any (s : ByteArray) (hs : s.size ≤ 1048576) (f : Nat) : ∀ (i : Nat) (w : World), i ≤ s.size → s.size - i < f → Calls Tryz.prog 71 #[.string s, .int .i64 (i : Int)] w fun e w' => e = .returned (.int .i64 (endI (pe s f i))) ∧ w' = w := by
  induction f with
  | zero => exact fun i w hi hf => absurd hf (by omega)
  | succ f IH =>
    intro i w hi hf
    obtain ⟨r, hr⟩ : ∃ r, r = endI (pe s (f + 1) i) := ⟨_, rfl⟩
    rw [← hr]
    by_cases hin : i < s.size
    case neg =>
      have HF := Lib.hid (show r = -1 by rw [hr]; exact endI_no (by rw [bt_off (by omega)]; rfl))
      have h1 : (s.size : Int) ≤ i := by omega
      clear hr IH
      go_enter Tryz.func71, Tryz.ntmps71
      go_wp2
      go_ret
      exact ⟨ret_i HF.out.symm, rfl⟩
    have h1 : (i : Int) < s.size := by omega
    have hb := bt_at hin
    obtain ⟨x, hx⟩ : ∃ x, s[i] = x := ⟨_, rfl⟩
    rw [hx] at hb
    have hx2 := byte_lt x
    obtain ⟨c, hc⟩ : ∃ c, x.toNat = c := ⟨_, rfl⟩
    rw [hc] at hb hx2
    have HB := Lib.hid hb
    clear hb
    by_cases hc1 : c < 49
    · have HF := Lib.hid (show r = -1 by rw [hr]; exact endI_no (by rw [HB.out]; exact isD_no (.inl hc1)))
      have hc2 : (c : Int) < 49 := by omega
      clear hr IH
      go_enter Tryz.func71, Tryz.ntmps71
      go_wp2
      go_ret
      exact ⟨ret_i HF.out.symm, rfl⟩
    by_cases hc54 : 54 < c
    · have HF := Lib.hid (show r = -1 by rw [hr]; exact endI_no (by rw [HB.out]; exact isD_no (.inr hc54)))
      have hc2 : ¬ (c : Int) < 49 := by omega
      have hc3 : (54 : Int) < c := by omega
      clear hr IH
      go_enter Tryz.func71, Tryz.ntmps71
      go_wp2
      go_ret
      exact ⟨ret_i HF.out.symm, rfl⟩
    have hd : isD (bt s i) = true := by rw [HB.out]; exact isD_iff.2 ⟨by omega, by omega⟩
    have hc2 : ¬ (c : Int) < 49 := by omega
    have hc3 : ¬ (54 : Int) < c := by omega
    have hsub := u8_sub (c := c) (by omega) (by omega)
    obtain ⟨N, hN⟩ : ∃ N, c - 48 = N := ⟨_, rfl⟩
    rw [hN] at hsub
    have hN2 : bt s i - 48 = N := by rw [HB.out]; exact hN
    have hN6 : N ≤ 6 := by omega
    have j1 : IntKind.i64.wrap ((i : Int) + 1) = (i : Int) + 1 := IntWalk.i64_in _ (by omega)
    have j3 : ((i : Int) + 1).toNat = i + 1 := by omega
    have j4 : (0 : Int) ≤ (i : Int) + 1 := by omega
    by_cases h40 : bt s (i + 1) = 40
    case neg =>
      have HF := Lib.hid (show r = (i : Int) + 1 by rw [hr, endI_leaf hd h40]; omega)
      by_cases hin2 : i + 1 < s.size
      · have hb2 := bt_at hin2
        obtain ⟨y, hy⟩ : ∃ y, s[i + 1] = y := ⟨_, rfl⟩
        rw [hy] at hb2
        have hy40 : ¬ ((y.toNat : Nat) : Int) = 40 := by omega
        have hy41 : (((y.toNat : Nat) : Int) != 40) = true := by simp; omega
        have h2 : (i : Int) + 1 < s.size := by omega
        clear hr IH hd h40 hb2 hN hN2
        go_enter Tryz.func71, Tryz.ntmps71
        go_wp2
        go_ret
        exact ⟨ret_i HF.out.symm, rfl⟩
      · have h2 : (s.size : Int) ≤ (i : Int) + 1 := by omega
        clear hr IH hd h40 hN hN2
        go_enter Tryz.func71, Tryz.ntmps71
        go_wp2
        go_ret
        exact ⟨ret_i HF.out.symm, rfl⟩
    have hR0 : r = finI N 0 (pl s (pe s f) f (i + 2)) := by rw [hr, endI_gate hd h40, hN2]
    have HR0 := Lib.hid hR0
    have hin2 := bt_lt (s := s) (i := i + 1) (by omega)
    have hb2 := bt_at hin2
    obtain ⟨y, hy⟩ : ∃ y, s[i + 1] = y := ⟨_, rfl⟩
    rw [hy] at hb2
    have hy40 : ((y.toNat : Nat) : Int) = 40 := by omega
    have H40 := Lib.hid h40
    have h2 : (i : Int) + 1 < s.size := by omega
    clear hr hR0 hd h40 hb2 hN hN2
    go_enter Tryz.func71, Tryz.ntmps71
    go_wp2
    go_loop [1, 6] (fun a p => ∃ j k f' : Nat, a = .int .i64 j ∧ p = .int .i64 k ∧ k ≤ 6 ∧ i < j ∧ j ≤ s.size ∧ s.size ≤ j + f' ∧ ((k = 0 ∧ bt s j = 40 ∧ r = finI N 0 (pl s (pe s f) f' (j + 1))) ∨ (1 ≤ k ∧ r = hdI s (pe s f) N k j f'))) (fun a _ => s.size - (intOf a).toNat)
    case atStart => exact ⟨i + 1, 0, f, by go_num, rfl, by omega, by omega, by omega, by omega, .inl ⟨rfl, H40.out, HR0.out⟩⟩
    case round =>
      obtain ⟨j, k, f', rfl, rfl, hk6, hij, hjs, hjf, hor⟩ := hrel
      clear j1 j3 j4 h1 h2 hsub hy40 hy hx hc hc2 hc3
      have n1 : IntKind.i64.wrap ((j : Int) + 1) = (j : Int) + 1 := IntWalk.i64_in _ (by omega)
      rcases hor with ⟨hk0, hj40, hR⟩ | ⟨hk1, hR⟩
      · subst hk0
        have hjl := bt_lt (s := s) (i := j) (by omega)
        have hb3 := bt_at hjl
        obtain ⟨z, hz⟩ : ∃ z, s[j] = z := ⟨_, rfl⟩
        rw [hz] at hb3
        have hz1 : ((z.toNat : Nat) : Int) = 40 := by omega
        have m1 : (j : Int) < s.size := by omega
        have HRk := Lib.hid (show r = finI N 0 (pl s (pe s f) f' (j + 1)) from hR)
        clear hR hj40 hb3
        obtain ⟨f2, rfl⟩ : ∃ f2, f' = f2 + 1 := ⟨f' - 1, by omega⟩
        have hst := finI_step s (pe s f) N 0 f2 (j + 1)
        rw [← HRk.out] at hst
        have hc := IH (j + 1) w (by omega) (by omega)
        have he : ((j + 1 : Nat) : Int) = (j : Int) + 1 := by omega
        rw [he] at hc
        cases hq : pe s f (j + 1) with
        | none =>
          rw [hq] at hst hc
          have HS := Lib.hid (show r = -1 from hst)
          have HC := Lib.hid hc
          clear hst hc hq he
          go_wp2_with (first | (go_at_call 71; refine HC.out.mono ?_; rintro e w' ⟨rfl, rfl⟩; simp only [endI]))
          go_ret
          exact ⟨ret_i HS.out.symm, rfl⟩
        | some y =>
          obtain ⟨t, e1⟩ := y
          obtain ⟨hy1, hy2⟩ := pe_end f _ _ _ hq
          rw [hq] at hst hc
          have HS := Lib.hid (show r = hdI s (pe s f) N (0 + 1) e1 f2 from hst)
          have HC := Lib.hid hc
          have hen : ¬ ((e1 : Int) < 0) := by omega
          clear hst hc hq he
          go_wp2_with (first | (go_at_call 71; refine HC.out.mono ?_; rintro e w' ⟨rfl, rfl⟩; simp only [endI]))
          go_round
          case rel => exact ⟨e1, 0 + 1, f2, rfl, by go_num, by omega, by omega, by omega, by omega, .inr ⟨by omega, HS.out⟩⟩
          case measure => simp [intOf]; omega
      · have HRk0 := Lib.hid hR
        clear hR
        by_cases hjl : j < s.size
        case neg =>
          have HF := Lib.hid (show r = -1 by rw [HRk0.out]; unfold hdI; rw [bt_off (by omega)]; rfl)
          have m1 : (s.size : Int) ≤ j := by omega
          go_wp2
          go_ret
          exact ⟨ret_i HF.out.symm, rfl⟩
        have m1 : (j : Int) < s.size := by omega
        have hb3 := bt_at hjl
        obtain ⟨z, hz⟩ : ∃ z, s[j] = z := ⟨_, rfl⟩
        rw [hz] at hb3
        have kd : decide ((0 : Int) < k) = true := by simp; omega
        have kd0 : decide (0 < k) = true := by simp; omega
        by_cases h41 : bt s j = 41
        · have hz1 : ((z.toNat : Nat) : Int) = 41 := by omega
          by_cases hnk : N ≤ k
          · have HF := Lib.hid (show r = (j : Int) + 1 by rw [HRk0.out]; unfold hdI; rw [if_pos h41, if_pos ⟨hk6, hnk⟩]; omega)
            have hnk1 : ¬ (k : Int) < N := by omega
            clear h41 hb3
            go_wp2
            go_ret
            exact ⟨ret_i HF.out.symm, rfl⟩
          · have HF := Lib.hid (show r = -1 by rw [HRk0.out]; unfold hdI; rw [if_pos h41, if_neg (by omega)])
            have hnk1 : (k : Int) < N := by omega
            clear h41 hb3
            go_wp2
            go_ret
            exact ⟨ret_i HF.out.symm, rfl⟩
        have hz1 : ¬ ((z.toNat : Nat) : Int) = 41 := by omega
        have hz2 : (((z.toNat : Nat) : Int) != 41) = true := by simp; omega
        by_cases h44 : bt s j = 44
        case neg =>
          have HF := Lib.hid (show r = -1 by rw [HRk0.out]; unfold hdI; rw [if_neg h41, if_neg h44])
          have hz3 : ¬ ((z.toNat : Nat) : Int) = 44 := by omega
          have hz4 : (((z.toNat : Nat) : Int) != 44) = true := by simp; omega
          clear h41 h44 hb3
          go_wp2
          go_ret
          exact ⟨ret_i HF.out.symm, rfl⟩
        have hz3 : ((z.toNat : Nat) : Int) = 44 := by omega
        have HRk := Lib.hid (show r = finI N k (pl s (pe s f) f' (j + 1)) by rw [HRk0.out]; unfold hdI; rw [if_neg h41, if_pos h44])
        clear h41 h44 hb3 hz1 hz2 HRk0
        by_cases hk66 : k = 6
        · have HF := Lib.hid (show r = -1 by rw [HRk.out, hk66]; exact finI_many (pe_end f) N f' (j + 1))
          subst hk66
          go_wp2
          go_ret
          exact ⟨ret_i HF.out.symm, rfl⟩
        have hk5 : ¬ (6 : Int) ≤ k := by omega
        obtain ⟨f2, rfl⟩ : ∃ f2, f' = f2 + 1 := ⟨f' - 1, by omega⟩
        have hst := finI_step s (pe s f) N k f2 (j + 1)
        rw [← HRk.out] at hst
        have hc := IH (j + 1) w (by omega) (by omega)
        have he : ((j + 1 : Nat) : Int) = (j : Int) + 1 := by omega
        rw [he] at hc
        cases hq : pe s f (j + 1) with
        | none =>
          rw [hq] at hst hc
          have HS := Lib.hid (show r = -1 from hst)
          have HC := Lib.hid hc
          clear hst hc hq he
          go_wp2_with (first | (go_at_call 71; refine HC.out.mono ?_; rintro e w' ⟨rfl, rfl⟩; simp only [endI]))
          go_ret
          exact ⟨ret_i HS.out.symm, rfl⟩
        | some y =>
          obtain ⟨t, e1⟩ := y
          obtain ⟨hy1, hy2⟩ := pe_end f _ _ _ hq
          rw [hq] at hst hc
          have HS := Lib.hid (show r = hdI s (pe s f) N (k + 1) e1 f2 from hst)
          have HC := Lib.hid hc
          have hen : ¬ ((e1 : Int) < 0) := by omega
          clear hst hc hq he
          go_wp2_with (first | (go_at_call 71; refine HC.out.mono ?_; rintro e w' ⟨rfl, rfl⟩; simp only [endI]))
          go_round
          case rel => exact ⟨e1, k + 1, f2, rfl, by go_num, by omega, by omega, by omega, by omega, .inr ⟨by omega, HS.out⟩⟩
          case measure => simp [intOf]; omega
end Go.Proofs.YtafhpbghogdipaaGreatDoor

/- ExprValid: the reference's, the program's, the law FnExactExprValid. -/
namespace Go.Proofs.YtafhpbghogdipaaGreatDoor
open Go.RowKit
set_option maxRecDepth 100000
set_option maxHeartbeats 4000000

/-- The whole of a text as an expression. -/
def tree (s : ByteArray) : Option (Tr × Nat) := pe s (s.size + 1) 0
/-- A text is an expression. -/
def exOk (s : ByteArray) : Bool := decide (s.size ≤ 40) && match tree s with | none => false | some (_, e) => e == s.size
theorem exOk_big {s : ByteArray} (h : ¬ s.size ≤ 40) : exOk s = false := by simp [exOk, h]
theorem exOk_none {s : ByteArray} (h : tree s = none) : exOk s = false := by simp [exOk, h]
theorem exOk_some {s : ByteArray} {t : Tr} {e : Nat} (h0 : s.size ≤ 40) (h : tree s = some (t, e)) : exOk s = (e == s.size) := by simp [exOk, h, h0]
theorem exOk_tree {s : ByteArray} (h : exOk s = true) : s.size ≤ 40 ∧ ∃ t, tree s = some (t, s.size) := by
  unfold exOk at h
  rw [Bool.and_eq_true] at h
  refine ⟨by simpa using h.1, ?_⟩
  cases ht : tree s with
  | none => rw [ht] at h; cases h.2
  | some y =>
    obtain ⟨t, e⟩ := y
    rw [ht] at h
    have : e = s.size := by simpa using h.2
    exact ⟨t, by rw [this]⟩
theorem tree_end {s : ByteArray} {t : Tr} {e : Nat} (h : tree s = some (t, e)) : 0 < e ∧ e ≤ s.size := pe_end _ _ _ _ h

theorem specExprValid_any (s : ByteArray) (hs : s.size ≤ 1048576) (w : World) : Calls Tryz.prog 37 #[.string s] w fun e w' => e = .returned (.bool (exOk s)) ∧ w' = w := by
  obtain ⟨r, hr⟩ : ∃ r, r = exOk s := ⟨_, rfl⟩
  rw [← hr]
  by_cases h40 : s.size ≤ 40
  case neg =>
    have HF := Lib.hid (show r = false by rw [hr]; exact exOk_big h40)
    have h41 : ¬ (s.size : Int) ≤ 40 := by omega
    clear hr
    go_enter Tryz.func37, Tryz.ntmps37
    go_wp2
    go_ret
    exact ⟨ret_bool' HF.out.symm, rfl⟩
  have h41 : (s.size : Int) ≤ 40 := by omega
  have hc := l2End_any s hs (s.size + 1) 0 w (by omega) (by omega)
  cases ht : tree s with
  | none =>
    have HF := Lib.hid (show r = false by rw [hr]; exact exOk_none ht)
    rw [show pe s (s.size + 1) 0 = none from ht] at hc
    have HC := Lib.hid (show Calls Tryz.prog 71 #[.string s, .int .i64 0] w fun e w' => e = .returned (.int .i64 (-1)) ∧ w' = w from hc)
    have hn : ((-1 : Int) == (s.size : Int)) = false := by first | (simp; done) | (simp; omega)
    clear hr hc ht
    go_enter Tryz.func37, Tryz.ntmps37
    go_wp2_with (go_at_call 71; refine HC.out.mono ?_; rintro e w' ⟨rfl, rfl⟩)
    go_ret
    exact ⟨ret_bool' HF.out.symm, rfl⟩
  | some y =>
    obtain ⟨t, e⟩ := y
    obtain ⟨he1, he2⟩ := tree_end ht
    have HF := Lib.hid (show r = (e == s.size) by rw [hr]; exact exOk_some h40 ht)
    rw [show pe s (s.size + 1) 0 = some (t, e) from ht] at hc
    have HC := Lib.hid (show Calls Tryz.prog 71 #[.string s, .int .i64 0] w fun x w' => x = .returned (.int .i64 (e : Int)) ∧ w' = w from hc)
    clear hr hc ht
    by_cases hes : e = s.size
    · have hn : ((e : Int) == (s.size : Int)) = true := by simp; omega
      have hp : (0 : Int) < s.size := by omega
      have HR := Lib.hid (show r = true by rw [HF.out]; simpa using hes)
      clear hes
      go_enter Tryz.func37, Tryz.ntmps37
      go_wp2_with (go_at_call 71; refine HC.out.mono ?_; rintro e w' ⟨rfl, rfl⟩)
      go_ret
      exact ⟨ret_bool' (by rw [HR.out]; simp; omega), rfl⟩
    · have hn : ((e : Int) == (s.size : Int)) = false := by simp; omega
      have HR := Lib.hid (show r = false by rw [HF.out]; simpa using hes)
      clear hes
      go_enter Tryz.func37, Tryz.ntmps37
      go_wp2_with (go_at_call 71; refine HC.out.mono ?_; rintro e w' ⟨rfl, rfl⟩)
      go_ret
      exact ⟨ret_bool' HR.out.symm, rfl⟩

end Go.Proofs.YtafhpbghogdipaaGreatDoor

/- The depth of an expression: the plain law, and the program's. -/
namespace Go.Proofs.YtafhpbghogdipaaGreatDoor
open Go.RowKit
set_option maxRecDepth 100000
set_option maxHeartbeats 4000000

mutual
def depthT : Tr → Nat
  | .leaf _ => 0
  | .gate _ ts => depthL ts + 1
def depthL : List Tr → Nat
  | [] => 0
  | t :: ts => max (depthT t) (depthL ts)
end
theorem depthL_snoc (t : Tr) : ∀ a, depthL (a ++ [t]) = max (depthL a) (depthT t)
  | [] => by simp [depthL]
  | x :: a => by
    show max (depthT x) (depthL (a ++ [t])) = max (max (depthT x) (depthL a)) (depthT t)
    rw [depthL_snoc t a]
    omega
theorem depthL_le {ts : List Tr} : ∀ {k : Nat} {t : Tr}, ts[k]? = some t → depthT t ≤ depthL ts := by
  induction ts with
  | nil => intro k t h; simp at h
  | cons a l ih =>
    intro k t h
    show depthT t ≤ max (depthT a) (depthL l)
    cases k with
    | zero => simp at h; subst h; omega
    | succ k =>
      have := ih (k := k) (t := t) (by simpa using h)
      omega
theorem take_snoc {α : Type} {l : List α} {k : Nat} {x : α} (h : l[k]? = some x) : l.take (k + 1) = l.take k ++ [x] := by
  obtain ⟨hk, e⟩ := List.getElem?_eq_some_iff.1 h
  rw [List.take_succ_eq_append_getElem hk, e]
theorem pl_depth {s : ByteArray} {g : Nat → Option (Tr × Nat)} {d : Nat} (hg : ∀ i t e, g i = some (t, e) → depthT t ≤ d) : ∀ f i ts e, pl s g f i = some (ts, e) → depthL ts ≤ d
  | 0, i, ts, e, h => by simp [pl] at h
  | f + 1, i, ts, e, h => by
    unfold pl at h
    cases hgi : g i with
    | none => simp [hgi] at h
    | some x =>
      obtain ⟨t, j⟩ := x
      have h1 := hg i t j hgi
      simp only [hgi] at h
      by_cases h41 : bt s j = 41
      · rw [if_pos h41] at h
        simp only [Option.some.injEq, Prod.mk.injEq] at h
        obtain ⟨rfl, rfl⟩ := h
        simp [depthL, h1]
      · rw [if_neg h41] at h
        by_cases h44 : bt s j = 44
        · rw [if_pos h44] at h
          cases hp : pl s g f (j + 1) with
          | none => simp [hp] at h
          | some y =>
            obtain ⟨ts', e'⟩ := y
            simp only [hp, Option.some.injEq, Prod.mk.injEq] at h
            obtain ⟨rfl, rfl⟩ := h
            have := pl_depth hg f (j + 1) ts' e' hp
            show max _ _ ≤ d
            omega
        · rw [if_neg h44] at h
          cases h
theorem pe_depth {s : ByteArray} : ∀ f i t e, pe s f i = some (t, e) → depthT t ≤ f
  | 0, i, t, e, h => by simp [pe] at h
  | f + 1, i, t, e, h => by
    unfold pe at h
    by_cases hd : isD (bt s i) = true
    · rw [if_pos hd] at h
      by_cases h40 : bt s (i + 1) = 40
      · rw [if_pos h40] at h
        cases hp : pl s (pe s f) f (i + 2) with
        | none => simp [hp] at h
        | some y =>
          obtain ⟨ts', e'⟩ := y
          simp only [hp] at h
          have := pl_depth (pe_depth f) f (i + 2) ts' e' hp
          split at h
          · simp only [Option.some.injEq, Prod.mk.injEq] at h
            obtain ⟨rfl, rfl⟩ := h
            show depthL ts' + 1 ≤ f + 1
            omega
          · cases h
      · rw [if_neg h40] at h
        simp only [Option.some.injEq, Prod.mk.injEq] at h
        obtain ⟨rfl, rfl⟩ := h
        exact Nat.zero_le _
    · rw [if_neg hd] at h
      cases h

theorem pl_mono {s : ByteArray} {g g' : Nat → Option (Tr × Nat)} (hg : ∀ i x, g i = some x → g' i = some x) : ∀ f f' i y, f ≤ f' → pl s g f i = some y → pl s g' f' i = some y
  | 0, f', i, y, _, h => by simp [pl] at h
  | f + 1, f', i, y, hf, h => by
    obtain ⟨f2, rfl⟩ : ∃ f2, f' = f2 + 1 := ⟨f' - 1, by omega⟩
    unfold pl at h ⊢
    cases hgi : g i with
    | none => simp [hgi] at h
    | some x =>
      obtain ⟨t, j⟩ := x
      simp only [hgi] at h
      simp only [hg i _ hgi]
      by_cases h41 : bt s j = 41
      · rw [if_pos h41] at h ⊢
        exact h
      · rw [if_neg h41] at h ⊢
        by_cases h44 : bt s j = 44
        · rw [if_pos h44] at h ⊢
          cases hp : pl s g f (j + 1) with
          | none => simp [hp] at h
          | some z =>
            rw [pl_mono hg f f2 (j + 1) z (by omega) hp]
            rw [hp] at h
            exact h
        · rw [if_neg h44] at h
          cases h
theorem pe_mono {s : ByteArray} : ∀ f f' i y, f ≤ f' → pe s f i = some y → pe s f' i = some y
  | 0, f', i, y, _, h => by simp [pe] at h
  | f + 1, f', i, y, hf, h => by
    obtain ⟨f2, rfl⟩ : ∃ f2, f' = f2 + 1 := ⟨f' - 1, by omega⟩
    unfold pe at h ⊢
    by_cases hd : isD (bt s i) = true
    · rw [if_pos hd] at h ⊢
      by_cases h40 : bt s (i + 1) = 40
      · rw [if_pos h40] at h ⊢
        cases hp : pl s (pe s f) f (i + 2) with
        | none => simp [hp] at h
        | some z =>
          rw [pl_mono (fun i x => pe_mono f f2 i x (by omega)) f f2 (i + 2) z (by omega) hp]
          rw [hp] at h
          exact h
      · rw [if_neg h40] at h ⊢
        exact h
    · rw [if_neg hd] at h
      cases h
/-- What is read in text a from place d on, up to place E, is read in text b that has the same bytes there. -/
theorem pl_map {a b : ByteArray} {d E : Nat} {g g' : Nat → Option (Tr × Nat)} (hC1 : ∀ j, d ≤ j → j < E → bt b (j - d) = bt a j) (hend : ∀ i t e, g i = some (t, e) → i < e ∧ e ≤ a.size)
    (hg : ∀ i t e, d ≤ i → g i = some (t, e) → e ≤ E → g' (i - d) = some (t, e - d)) : ∀ f i ts e, d ≤ i → pl a g f i = some (ts, e) → e ≤ E → pl b g' f (i - d) = some (ts, e - d)
  | 0, i, ts, e, _, h, _ => by simp [pl] at h
  | f + 1, i, ts, e, hi, h, he => by
    unfold pl at h ⊢
    cases hgi : g i with
    | none => simp [hgi] at h
    | some x =>
      obtain ⟨t, j⟩ := x
      have hj := hend i t j hgi
      simp only [hgi] at h
      by_cases h41 : bt a j = 41
      · rw [if_pos h41] at h
        simp only [Option.some.injEq, Prod.mk.injEq] at h
        obtain ⟨rfl, rfl⟩ := h
        simp only [hg i t j hi hgi (by omega)]
        rw [hC1 j (by omega) (by omega), if_pos h41, show j + 1 - d = j - d + 1 by omega]
      · rw [if_neg h41] at h
        by_cases h44 : bt a j = 44
        · rw [if_pos h44] at h
          cases hp : pl a g f (j + 1) with
          | none => simp [hp] at h
          | some z =>
            obtain ⟨ts', e'⟩ := z
            simp only [hp, Option.some.injEq, Prod.mk.injEq] at h
            obtain ⟨rfl, rfl⟩ := h
            have hz := pl_end hend f (j + 1) ts' e' hp
            have ih := pl_map hC1 hend hg f (j + 1) ts' e' (by omega) hp he
            rw [show j + 1 - d = j - d + 1 by omega] at ih
            simp only [hg i t j hi hgi (by omega)]
            rw [hC1 j (by omega) (by omega), if_neg h41, if_pos h44, ih]
        · rw [if_neg h44] at h
          cases h
theorem pe_map {a b : ByteArray} {d E : Nat} (hC1 : ∀ j, d ≤ j → j < E → bt b (j - d) = bt a j) (hC2 : bt b (E - d) ≠ 40) : ∀ f i t e, d ≤ i → pe a f i = some (t, e) → e ≤ E → pe b f (i - d) = some (t, e - d)
  | 0, i, t, e, _, h, _ => by simp [pe] at h
  | f + 1, i, t, e, hi, h, he => by
    have hie := pe_end _ _ _ _ h
    unfold pe at h ⊢
    rw [hC1 i hi (by omega)]
    by_cases hd : isD (bt a i) = true
    · rw [if_pos hd] at h ⊢
      by_cases h40 : bt a (i + 1) = 40
      · rw [if_pos h40] at h
        cases hp : pl a (pe a f) f (i + 2) with
        | none => simp [hp] at h
        | some z =>
          obtain ⟨ts', e'⟩ := z
          have hz := pl_end (pe_end f) f (i + 2) ts' e' hp
          rw [hp] at h
          simp only at h
          split at h
          case isTrue hc =>
            simp only [Option.some.injEq, Prod.mk.injEq] at h
            obtain ⟨rfl, rfl⟩ := h
            have ih := pl_map hC1 (pe_end f) (fun i t e h1 h2 h3 => pe_map hC1 hC2 f i t e h1 h2 h3) f (i + 2) ts' e' (by omega) hp he
            have hn : bt b (i - d + 1) = 40 := by rw [show i - d + 1 = i + 1 - d by omega, hC1 (i + 1) (by omega) (by omega)]; exact h40
            rw [if_pos hn, show i - d + 2 = i + 2 - d by omega, ih]
            simp only
            rw [if_pos hc]
          case isFalse => cases h
      · rw [if_neg h40] at h
        simp only [Option.some.injEq, Prod.mk.injEq] at h
        obtain ⟨rfl, rfl⟩ := h
        have hn : bt b (i - d + 1) ≠ 40 := by
          by_cases hE : i + 1 < E
          · rw [show i - d + 1 = i + 1 - d by omega, hC1 (i + 1) (by omega) hE]; exact h40
          · rw [show i - d + 1 = E - d by omega]; exact hC2
        rw [if_neg hn, show i + 1 - d = i - d + 1 by omega]
    · rw [if_neg hd] at h
      cases h
theorem bt_piece (s : ByteArray) (d e j : Nat) (hd : d ≤ j) (hj : j < e) (he : e ≤ s.size) : bt (s.extract d e) (j - d) = bt s j := by
  have h1 : j - d < (s.extract d e).size := by simp [ByteArray.size_extract]; omega
  rw [bt_at h1, bt_at (show j < s.size by omega)]
  simp [ByteArray.getElem_extract, show d + (j - d) = j by omega]

/-- A text is, whole, the expression t. -/
def Whole (u : ByteArray) (t : Tr) : Prop := ∃ f, pe u f 0 = some (t, u.size)
theorem whole_piece {u : ByteArray} {f j e : Nat} {t : Tr} (h : pe u f j = some (t, e)) : Whole (u.extract j e) t := by
  obtain ⟨h1, h2⟩ := pe_end _ _ _ _ h
  have hsz : (u.extract j e).size = e - j := by simp [ByteArray.size_extract]; omega
  refine ⟨f, ?_⟩
  have := pe_map (a := u) (b := u.extract j e) (d := j) (E := e) (fun i hi hie => bt_piece u j e i hi hie h2) (by rw [bt_off (by omega)]; omega) f j t e (Nat.le_refl _) h (Nat.le_refl _)
  rw [Nat.sub_self] at this
  rw [this, hsz]
/-- The parts are the operands. -/
def PartOk (u : ByteArray) (ps : List ByteArray) (ts : List Tr) : Prop := ps.length = ts.length ∧ ∀ (i : Nat) p t, ps[i]? = some p → ts[i]? = some t → Whole p t ∧ p.size < u.size
theorem PartOk.snoc {u p : ByteArray} {ps : List ByteArray} {ts : List Tr} {t : Tr} (h : PartOk u ps ts) (hw : Whole p t) (hp : p.size < u.size) : PartOk u (ps ++ [p]) (ts ++ [t]) := by
  refine ⟨by simp [h.1], fun i q x hq hx => ?_⟩
  by_cases hi : i < ps.length
  · rw [List.getElem?_append_left hi] at hq
    rw [List.getElem?_append_left (by rw [← h.1]; exact hi)] at hx
    exact h.2 i q x hq hx
  · have hi2 : i - ps.length = 0 := by
      rcases Nat.eq_zero_or_pos (i - ps.length) with h0 | h0
      · exact h0
      · rw [List.getElem?_append_right (by omega), List.getElem?_eq_none (by simp; omega)] at hq; cases hq
    rw [List.getElem?_append_right (by omega), hi2] at hq
    rw [List.getElem?_append_right (by rw [← h.1]; omega), ← h.1, hi2] at hx
    simp at hq hx
    subst hq hx
    exact ⟨hw, hp⟩
theorem gate_parts {u : ByteArray} {n : Nat} {ts : List Tr} (h : Whole u (.gate n ts)) : ∃ f, bt u 1 = 40 ∧ pl u (pe u f) f 2 = some (ts, u.size) ∧ 2 < u.size := by
  obtain ⟨f, hf⟩ := h
  cases f with
  | zero => simp [pe] at hf
  | succ f =>
    unfold pe at hf
    by_cases hd : isD (bt u 0) = true
    · rw [if_pos hd] at hf
      by_cases h40 : bt u (0 + 1) = 40
      · rw [if_pos h40] at hf
        cases hp : pl u (pe u f) f (0 + 2) with
        | none => simp [hp] at hf
        | some z =>
          obtain ⟨ts', e'⟩ := z
          have hz := pl_end (pe_end f) f (0 + 2) ts' e' hp
          rw [hp] at hf
          simp only at hf
          split at hf
          · simp only [Option.some.injEq, Prod.mk.injEq, Tr.gate.injEq] at hf
            obtain ⟨⟨_, rfl⟩, rfl⟩ := hf
            exact ⟨f, h40, hp, by omega⟩
          · cases hf
      · rw [if_neg h40] at hf
        simp at hf
    · rw [if_neg hd] at hf
      cases hf
theorem leaf_size {u : ByteArray} {n : Nat} (h : Whole u (.leaf n)) : u.size = 1 := by
  obtain ⟨f, hf⟩ := h
  cases f with
  | zero => simp [pe] at hf
  | succ f =>
    unfold pe at hf
    by_cases hd : isD (bt u 0) = true
    · rw [if_pos hd] at hf
      by_cases h40 : bt u (0 + 1) = 40
      · rw [if_pos h40] at hf
        cases hp : pl u (pe u f) f (0 + 2) with
        | none => simp [hp] at hf
        | some z =>
          rw [hp] at hf
          simp only at hf
          split at hf <;> simp at hf
      · rw [if_neg h40] at hf
        simp at hf
        omega
    · rw [if_neg hd] at hf
      cases hf
theorem string_info : (Tryz.prog.info? 9).map (fun i => (i.zero, i.size, i.bytes)) = some (some (.string ByteArray.empty), 1, 16) := by kernel_rfl

/-- What holds at the head of the loop. -/
def PtI (u : ByteArray) (ts : List Tr) (W : World) (f : Nat) (o a : Value) (wr : World) : Prop := ∃ (j : Nat) (ps : List ByteArray) (ts1 ts2 : List Tr), a = .int .i64 (j : Int) ∧ ts = ts1 ++ ts2 ∧ PartOk u ps ts1 ∧
  wr.ownsRow W.heap.size 9 1 o ps.length (ps.map Value.string) ∧ Below W.heap.size W wr ∧ 1 ≤ j ∧ j < u.size ∧ ps.length ≤ j ∧
  ((bt u j ≠ 41 ∧ ∃ f', pl u (pe u f) f' (j + 1) = some (ts2, u.size)) ∨ (ts2 = [] ∧ bt u j = 41))
theorem l2Parts_leaf (u : ByteArray) (n : Nat) (hu : Whole u (.leaf n)) (W : World) : Calls Tryz.prog 86 #[.string u] W fun e W' =>
    ∃ v, e = .returned v ∧ W'.ownsRow W.heap.size 9 1 v 0 [] ∧ Below W.heap.size W W' := by
  have h1 := leaf_size hu
  have h2 : ((u.size : Int) == 1) = true := by rw [h1]; rfl
  have HO := Lib.hid (owns_empty (size := 1) W 9 (Nat.le_refl W.heap.size))
  go_enter Tryz.func86, Tryz.ntmps86
  go_wp2
  go_ret
  exact ⟨_, rfl, HO.out, (Below.refl _ _).alloc (Nat.le_refl _) _⟩
theorem l2Parts_gate (u : ByteArray) (n : Nat) (ts : List Tr) (hu : Whole u (.gate n ts)) (hs : u.size ≤ 40) (W : World) : Calls Tryz.prog 86 #[.string u] W fun e W' =>
    ∃ v ps, e = .returned v ∧ W'.ownsRow W.heap.size 9 1 v ps.length (ps.map Value.string) ∧ PartOk u ps ts ∧ Below W.heap.size W W' := by
  obtain ⟨f, h40, hpl, h2s⟩ := gate_parts hu
  have h1 : ((u.size : Int) == 1) = false := by simp; omega
  have h1' : (u.size == 1) = false := by simp; omega
  have HI := Lib.hid (show PtI u ts W f (.slice (some ⟨W.heap.size, 0, none⟩) 0 0) (.int .i64 1) (W.alloc (.cells #[] 9)) from
    ⟨1, [], [], ts, rfl, rfl, ⟨rfl, fun i p t hp _ => by simp at hp⟩, owns_empty (size := 1) W 9 (Nat.le_refl W.heap.size), (Below.refl _ _).alloc (Nat.le_refl _) _, Nat.le_refl _, by omega, by simp, .inl ⟨by omega, f, hpl⟩⟩)
  clear h40 hpl hu
  go_enter Tryz.func86, Tryz.ntmps86
  go_wp2
  go_loopw [3, 4] (fun o a wr => PtI u ts W f o a wr) (fun _ a _ => u.size - (intOf a).toNat)
  case atStart => exact HI.out
  case round =>
    obtain ⟨j, ps, ts1, ts2, rfl, hts, hok, hown, hB, hj1, hju, hpj, hor⟩ := hrel
    have HO := Lib.hid hown
    have HB := Lib.hid hB
    have HK := Lib.hid hok
    have hsz := hB.size
    have m1 : (j : Int) < u.size := by omega
    have hb := bt_at hju
    obtain ⟨z, hz⟩ : ∃ z, u[j] = z := ⟨_, rfl⟩
    rw [hz] at hb
    clear hown hB hok
    rcases hor with ⟨h41, f', hpl⟩ | ⟨h0, h41⟩
    · obtain ⟨f2, rfl⟩ : ∃ f2, f' = f2 + 1 := by
        cases f' with
        | zero => simp [pl] at hpl
        | succ f2 => exact ⟨f2, rfl⟩
      have hz1 : ¬ ((z.toNat : Nat) : Int) = 41 := by omega
      have hz2 : (((z.toNat : Nat) : Int) != 41) = true := by simp; omega
      have hnext : ∃ t e1, pe u f (j + 1) = some (t, e1) ∧ ((bt u e1 = 41 ∧ ts2 = [t] ∧ e1 + 1 = u.size) ∨ (bt u e1 ≠ 41 ∧ ∃ ts3, ts2 = t :: ts3 ∧ pl u (pe u f) f2 (e1 + 1) = some (ts3, u.size))) := by
        unfold pl at hpl
        cases hg : pe u f (j + 1) with
        | none => rw [hg] at hpl; cases hpl
        | some y =>
          obtain ⟨t, e1⟩ := y
          rw [hg] at hpl
          simp only at hpl
          refine ⟨t, e1, rfl, ?_⟩
          by_cases h4 : bt u e1 = 41
          · rw [if_pos h4] at hpl
            simp only [Option.some.injEq, Prod.mk.injEq] at hpl
            exact .inl ⟨h4, hpl.1.symm, hpl.2⟩
          · rw [if_neg h4] at hpl
            by_cases h44 : bt u e1 = 44
            · rw [if_pos h44] at hpl
              cases hp : pl u (pe u f) f2 (e1 + 1) with
              | none => simp [hp] at hpl
              | some y =>
                obtain ⟨ts3, e3⟩ := y
                simp only [hp, Option.some.injEq, Prod.mk.injEq] at hpl
                obtain ⟨rfl, rfl⟩ := hpl
                exact .inr ⟨h4, ts3, rfl, rfl⟩
            · rw [if_neg h44] at hpl
              cases hpl
      obtain ⟨t, e1, hpe, hcase⟩ := hnext
      obtain ⟨he1, he2⟩ := pe_end _ _ _ _ hpe
      have hce := l2End_any u (by omega) (max f (u.size + 1)) (j + 1) wr (by omega) (by omega)
      rw [pe_mono f (max f (u.size + 1)) (j + 1) _ (by omega) hpe] at hce
      have hjj : ((j + 1 : Nat) : Int) = (j : Int) + 1 := by omega
      rw [hjj] at hce
      have HC := Lib.hid (show Calls Tryz.prog 71 #[.string u, .int .i64 ((j : Int) + 1)] wr fun x w' => x = .returned (.int .i64 (e1 : Int)) ∧ w' = wr from hce)
      have HW := Lib.hid (whole_piece hpe)
      have hps : (u.extract (j + 1) e1).size = e1 - (j + 1) := by simp [ByteArray.size_extract]; omega
      have HPS := Lib.hid hps
      have heu : e1 < u.size := by
        rcases hcase with ⟨_, _, h⟩ | ⟨_, ts3, _, h⟩
        · omega
        · have := pl_end (pe_end f) f2 (e1 + 1) ts3 u.size h
          omega
      have n1 : IntKind.i64.wrap ((j : Int) + 1) = (j : Int) + 1 := IntWalk.i64_in _ (by omega)
      have n2 : (0 : Int) ≤ (j : Int) + 1 := by omega
      have n3 : ((j : Int) + 1).toNat = j + 1 := by omega
      have n4 : (j : Int) + 1 ≤ e1 := by omega
      have n5 : (e1 : Int) ≤ u.size := by omega
      have HCase := Lib.hid hcase
      have HTs := Lib.hid hts
      obtain ⟨i0, hi0, hi1, hi2, hi3⟩ := info_parts string_info
      have J0 := Lib.hid hi0
      have J1 := Lib.hid hi1
      have J2 := Lib.hid hi2
      have J3 := Lib.hid hi3
      clear hi0 hi1 hi2 hi3 hpl hce hcase hps hts hpe h41 hb hjj
      obtain ⟨p, hp⟩ : ∃ p, p = u.extract (j + 1) e1 := ⟨_, rfl⟩
      rw [← hp] at HW HPS
      have hp' : u.extract (j + 1) e1 = p := hp.symm
      clear hp
      go_wp2_with (first
        | (go_at_call 71; refine HC.out.mono ?_; rintro e w' ⟨rfl, rfl⟩)
        | (at_builtin; refine wpl_append1 rfl _ _ 57 (by rfl) W.heap.size 9 i0 (.string ByteArray.empty) 1 16 Tryz.underlying57 J0.out J1.out J2.out J3.out rfl (by omega) _ ps.length _ (by rfl) HO.out #[.string p] rfl (by rfl) (by simp [Value.oneCell']) (by omega) (by omega) hsz ?_; intro v2 w2 hown2 hb2 hg2 hat2))
      go_roundw
      case rel =>
        refine ⟨e1, ps ++ [p], ts1 ++ [t], ?_⟩
        have hB2 := HB.out.trans hb2
        have hown3 : w2.ownsRow W.heap.size 9 1 v2 (ps ++ [p]).length ((ps ++ [p]).map Value.string) := by simpa using hown2
        have hok2 := HK.out.snoc HW.out (by rw [HPS.out]; omega)
        rcases HCase.out with ⟨h1, h2, h3⟩ | ⟨h1, ts3, h2, h3⟩
        · exact ⟨[], rfl, by rw [HTs.out, h2]; simp, hok2, hown3, hB2, by omega, by omega, by simp; omega, .inr ⟨rfl, h1⟩⟩
        · exact ⟨ts3, rfl, by rw [HTs.out, h2]; simp, hok2, hown3, hB2, by omega, by omega, by simp; omega, .inl ⟨h1, f2, h3⟩⟩
      case measure => simp [intOf]; omega
    · have hz1 : ((z.toNat : Nat) : Int) = 41 := by omega
      have HT := Lib.hid (show ts = ts1 by rw [hts, h0, List.append_nil])
      clear hts h0 h41 hb
      go_wp2
      go_ret
      exact ⟨_, ps, rfl, HO.out, by rw [HT.out]; exact HK.out, HB.out⟩
end Go.Proofs.YtafhpbghogdipaaGreatDoor

/- The draws of expressions: some text of few bytes. -/
namespace Go.Proofs.YtafhpbghogdipaaGreatDoor
open Go.RowKit
set_option maxRecDepth 100000
set_option maxHeartbeats 4000000

theorem heap_lt {w : World} {b : Nat} {o : Obj} (h : w.heap[b]? = some o) : b < w.heap.size := by
  rcases Nat.lt_or_ge b w.heap.size with hlt | hge
  · exact hlt
  · rw [Array.getElem?_eq_none hge] at h; cases h
theorem grown_below' {a w w' : World} {row : Option Nat} {K : Nat} (h : a.grownBy w row) (hb : Below K w w') (hK : a.heap.size ≤ K) : a.grownBy w' row :=
  ⟨hb.os.trans h.os, hb.tape.trans h.tape, hb.output.trans h.output, Nat.le_trans h.size hb.size, fun i hi hne => (hb.block i (by omega)).trans (h.block i hi hne)⟩
/-- n strings, each of lo to hi bytes. -/
def StrArr (arr : Array Value) (n lo hi : Nat) : Prop := arr.size = n ∧ ∀ k, k < n → ∃ str, arr[k]? = some (.string str) ∧ lo ≤ str.size ∧ str.size ≤ hi
/-- A text was drawn by the reader in block R. -/
def DrS (R B : Nat) (q : Int) (lo hi : Nat) (w : World) (e : Ending) (w' : World) : Prop := ∃ str : ByteArray, e = .returned (.string str) ∧ (lo ≤ str.size ∧ str.size ≤ hi) ∧ Rdr w' R B q ∧ w.grownBy w' (some R)
theorem blk_kept {w w' : World} {R b : Nat} {o : Obj} (h : w.heap[b]? = some o) (hg : w.grownBy w' (some R)) (hb : b ≠ R) : w'.heap[b]? = some o :=
  (hg.block b (heap_lt h) (by intro e; cases e; exact hb rfl)).trans h
theorem arr_cell {w : World} {b k n lo hi : Nat} {arr : Array Value} {T : TypeId} (h : w.heap[b]? = some (.cells arr T (0, 0))) (hs : StrArr arr n lo hi) (hk : k < n) : ∃ str, w.cell? ⟨b, k, none⟩ = some (.string str) ∧ lo ≤ str.size ∧ str.size ≤ hi := by
  obtain ⟨str, h1, h2⟩ := hs.2 k hk
  exact ⟨str, by rw [cell_of_row w b k arr T (0, 0) h]; exact h1, h2⟩
theorem of_any (R : Nat) {B : Nat} (q : Int) (w : World) (hR : Rdr w R B q) (hq : q ≤ 49000) (b n lo hi : Nat) (arr : Array Value) (T : TypeId) (hb : w.heap[b]? = some (.cells arr T (0, 0))) (hbR : b ≠ R) (hs : StrArr arr n lo hi) (h1 : 1 ≤ n) (h2 : n ≤ 1000) :
    Calls Tryz.prog 22 #[.pointer (some ⟨R, 0, none⟩), .slice (some ⟨b, 0, none⟩) n n] w (DrS R B (q + 1) lo hi w) := by
  have HB := Lib.hid hb
  have HS := Lib.hid hs
  clear hb hs
  go_enter Tryz.func22, Tryz.ntmps22
  go_wp2_with fail
  (apply Calls.mono; focus (apply pick_abs; exact hR; omega)); rintro e wp ⟨v, rfl, hv0, hv1, hrd, hsz, hcp, hfp, hgp⟩
  replace hv1 := hv1 (by omega)
  obtain ⟨k, rfl⟩ := Int.eq_ofNat_of_zero_le hv0
  have hkn : k < n := by omega
  obtain ⟨str, hc, hlo, hhi⟩ := arr_cell HB.out HS.out hkn
  have hc2 : wp.cell? ⟨b, k, none⟩ = some (.string str) := (hcp b k hbR).trans hc
  have HR2 := Lib.hid hrd
  have HG2 := Lib.hid hgp
  clear hcp hfp hgp hrd hsz hc
  go_wp2_with fail
  go_ret
  exact ⟨str, rfl, ⟨hlo, hhi⟩, HR2.out, HG2.out⟩

@[go_sem] theorem sz1 (x : UInt8) : (⟨#[x]⟩ : ByteArray).size = 1 := rfl
theorem l6Dec_small (n : Int) (h0 : 0 ≤ n) (h10 : n < 10) (w : World) : Calls Tryz.prog 87 #[.int .i64 n] w fun e w' => ∃ str : ByteArray, e = .returned (.string str) ∧ str.size = 1 ∧ Below w.heap.size w w' := by
  have m1 : ¬ n < -9223372036854775807 := by omega
  have m2 : ¬ n < 0 := by omega
  have m3 : IntKind.u8.wrap (48 + n) = 48 + n := by
    have : IntKind.u8.wrap (48 + n) = (48 + n) % 256 := by first | rfl | simp [IntKind.wrap]
    omega
  obtain ⟨x, hx⟩ : ∃ x : UInt8, ((x.toNat : Nat) : Int) = 48 + n := ⟨UInt8.ofNat (48 + n).toNat, by simp; omega⟩
  have hconv : ∀ W : World, (convert 22 9 (.slice (some ⟨W.heap.size, 0, none⟩) 1 1)).run Tryz.prog (W.alloc (.cells #[.int .u8 (48 + n)] 5)) = .ok (.string ⟨#[x]⟩) (W.alloc (.cells #[.int .u8 (48 + n)] 5)) := fun W => by
    have := run_convert_bytes_back (P := Tryz.prog) (W.alloc (.cells #[.int .u8 (48 + n)] 5)) 22 9 5 ⟨W.heap.size, 0, none⟩ 1 [x] Tryz.underlying22 Tryz.underlying5 Tryz.underlying9 (fun j hj => by
      have hj0 : j = 0 := by simpa using hj
      subst hj0
      have := cell_of_row (W.alloc (.cells #[.int .u8 (48 + n)] 5)) W.heap.size 0 #[.int .u8 (48 + n)] 5 (0, 0) (heap_alloc_new W _)
      simp [Addr.add, this, hx])
    exact this
  go_enter Tryz.func87, Tryz.ntmps87
  go_wp2
  go_ret
  exact ⟨_, rfl, rfl, (Below.refl _ _).alloc (Nat.le_refl _) _⟩

theorem l91Leaf_any (R : Nat) {B : Nat} (q : Int) (w : World) (hR : Rdr w R B q) (hq : q ≤ 49000) : Calls Tryz.prog 81 #[.pointer (some ⟨R, 0, none⟩)] w (DrS R B (q + 1) 1 1 w) := by
  have hlt := hR.lt
  go_enter Tryz.func81, Tryz.ntmps81
  go_wp2_with fail
  refine (of_any R q _ (hR.alloc _) hq w.heap.size 6 1 1 _ _ (heap_alloc_new w _) (by omega) ?_ (by omega) (by omega)).mono ?_
  · exact ⟨rfl, fun k hk => match k, hk with | 0, _ => ⟨_, rfl, by decide, by decide⟩ | 1, _ => ⟨_, rfl, by decide, by decide⟩ | 2, _ => ⟨_, rfl, by decide, by decide⟩ | 3, _ => ⟨_, rfl, by decide, by decide⟩ | 4, _ => ⟨_, rfl, by decide, by decide⟩ | 5, _ => ⟨_, rfl, by decide, by decide⟩ | (k + 6), hk => absurd hk (by omega)⟩
  rintro e w1 ⟨str, rfl, hs, hrd, hg⟩
  have HS := Lib.hid hs
  have HR2 := Lib.hid hrd
  have HG := Lib.hid (grown_trans (grown_alloc (World.grownBy.refl w (some R)) _) hg)
  clear hs hrd hg
  go_wp2_with fail
  go_ret
  exact ⟨str, rfl, HS.out, HR2.out, HG.out⟩

theorem l91List_any (R : Nat) {B : Nat} (q : Int) (w : World) (hR : Rdr w R B q) (hq : q ≤ 49000) (b n lo hi : Nat) (arr : Array Value) (T : TypeId) (hb : w.heap[b]? = some (.cells arr T (0, 0))) (hbR : b ≠ R) (hs : StrArr arr n lo hi) (h1 : 1 ≤ n) (h3 : n ≤ 3) (hhi : hi ≤ 20) :
    Calls Tryz.prog 82 #[.pointer (some ⟨R, 0, none⟩), .slice (some ⟨b, 0, none⟩) n n] w (DrS R B (q + 1) 3 (3 + n * (hi + 1)) w) := by
  have HB := Lib.hid hb
  have HS := Lib.hid hs
  clear hb hs
  go_enter Tryz.func82, Tryz.ntmps82
  go_wp2_with fail
  (apply Calls.mono; focus (apply pick_abs; exact hR; omega)); rintro e wp ⟨v, rfl, hv0, hv1, hrd, hsz, hcp, hfp, hgp⟩
  replace hv1 := hv1 (by omega)
  have HB2 := Lib.hid (blk_kept HB.out hgp hbR)
  have HG2 := Lib.hid hgp
  have HR2 := Lib.hid hrd
  clear hcp hfp hgp hrd hsz
  go_wp2_with fail
  refine (l6Dec_small (1 + v) (by omega) (by omega) wp).mono ?_
  rintro e w2 ⟨d, rfl, hd, hb2⟩
  have HB3 := Lib.hid ((hb2.block b (heap_lt HB2.out)).trans HB2.out)
  have HG3 := Lib.hid (grown_below' HG2.out hb2 HG2.out.size)
  have HR3 := Lib.hid (Rdr.keepB hb2 HR2.out)
  clear hb2
  go_wp2_with fail
  go_loop [5, 6] (fun u i => ∃ (k : Nat) (str : ByteArray), k ≤ n ∧ i = .int .i64 k ∧ u = .string str ∧ 2 ≤ str.size ∧ str.size ≤ 2 + k * (hi + 1)) (fun _ i => n - (intOf i).toNat)
  case atStart => exact ⟨0, _, Nat.zero_le _, rfl, rfl, by simp [hd, sz1], by simp [hd, sz1]⟩
  case round =>
    obtain ⟨k, str, hk, rfl, rfl, hl, hh⟩ := hrel
    by_cases hkn : k < n
    · have i1 : (k : Int) < n := by omega
      obtain ⟨s2, hc, hlo2, hhi2⟩ := arr_cell HB3.out HS.out hkn
      have hmul : (k + 1) * (hi + 1) = k * (hi + 1) + (hi + 1) := Nat.succ_mul _ _
      have HM := Lib.hid hmul
      have HL := Lib.hid (And.intro hl hh)
      have hkh : k * (hi + 1) ≤ 3 * 21 := Nat.mul_le_mul (by omega) (by omega)
      have hs1 : ¬ 9223372036854775807 < str.size + s2.size := by omega
      have hs2 : ¬ 9223372036854775807 < str.size + 1 := by omega
      have hs3 : ¬ 9223372036854775807 < str.size + 1 + s2.size := by omega
      clear hmul hl hh hkh
      by_cases hk0 : k = 0
      · have hd0 : ¬ (0 : Int) < k := by omega
        clear hk0
        go_wp2
        go_round
        case rel => exact ⟨k + 1, _, by omega, by go_num, rfl, by have := HL.out; simp; omega, by have := HL.out; have := HM.out; simp; omega⟩
        case measure => simp [intOf]; omega
      · have hd0 : (0 : Int) < k := by omega
        clear hk0
        go_wp2
        go_round
        case rel => exact ⟨k + 1, _, by omega, by go_num, rfl, by have := HL.out; simp [sz1]; omega, by have := HL.out; have := HM.out; simp [sz1]; omega⟩
        case measure => simp [intOf]; omega
    · obtain rfl : k = n := by omega
      have HL := Lib.hid (And.intro hl hh)
      have hkh : k * (hi + 1) ≤ 3 * 21 := Nat.mul_le_mul (by omega) (by omega)
      have hs2 : ¬ 9223372036854775807 < str.size + 1 := by omega
      clear hl hh hkh
      go_wp2
      go_ret
      exact ⟨_, rfl, ⟨by have := HL.out; simp [sz1]; omega, by have := HL.out; simp [sz1]; omega⟩, HR3.out, HG3.out⟩
end Go.Proofs.YtafhpbghogdipaaGreatDoor

/- The draws of expressions: some text of few bytes; l91Expr. -/
namespace Go.Proofs.YtafhpbghogdipaaGreatDoor
open Go.RowKit
set_option maxRecDepth 100000
set_option maxHeartbeats 8000000
set_option linter.unusedVariables false

/-- A text of at most 60 bytes was drawn. -/
def DrE (R B : Nat) (q : Int) (hi : Nat) (w : World) (e : Ending) (w' : World) : Prop := ∃ str : ByteArray, e = .returned (.string str) ∧ (0 ≤ str.size ∧ str.size ≤ hi) ∧ (∃ q', q' ≤ q + 20 ∧ Rdr w' R B q') ∧ w.grownBy w' (some R)
theorem strArr2 {a b : ByteArray} {lo hi : Nat} (ha : lo ≤ a.size ∧ a.size ≤ hi) (hb : lo ≤ b.size ∧ b.size ≤ hi) : StrArr #[.string a, .string b] 2 lo hi :=
  ⟨rfl, fun k hk => match k, hk with | 0, _ => ⟨a, rfl, ha⟩ | 1, _ => ⟨b, rfl, hb⟩ | (k + 2), hk => absurd hk (by omega)⟩
theorem strArr3 {a b c : ByteArray} {lo hi : Nat} (ha : lo ≤ a.size ∧ a.size ≤ hi) (hb : lo ≤ b.size ∧ b.size ≤ hi) (hc : lo ≤ c.size ∧ c.size ≤ hi) : StrArr #[.string a, .string b, .string c] 3 lo hi :=
  ⟨rfl, fun k hk => match k, hk with | 0, _ => ⟨a, rfl, ha⟩ | 1, _ => ⟨b, rfl, hb⟩ | 2, _ => ⟨c, rfl, hc⟩ | (k + 3), hk => absurd hk (by omega)⟩

theorem l91Expr_any (R : Nat) {B : Nat} (q : Int) (w : World) (hR : Rdr w R B q) (hq : q ≤ 40000) : Calls Tryz.prog 63 #[.pointer (some ⟨R, 0, none⟩)] w (DrE R B q 61 w) := by
  have hlt := hR.lt
  go_enter Tryz.func63, Tryz.ntmps63
  go_wp2_with fail
  (apply Calls.mono; focus (apply pick_abs; exact hR; omega)); rintro e wp ⟨v, rfl, hv0, hv1, hrd, hsz, hcp, hfp, hgp⟩
  replace hv1 := hv1 (by omega)
  have HR0 := Lib.hid hrd
  have HG0 := Lib.hid hgp
  clear hcp hfp hrd hgp hsz
  rcases (show v = 0 ∨ v = 1 ∨ (v = 2 ∨ v = 3) ∨ (v = 4 ∨ v = 5) by omega) with rfl | rfl | hv | hv
  · go_wp2_with fail
    refine (l91Leaf_any R _ _ HR0.out (by omega)).mono ?_
    rintro e w1 ⟨str, rfl, ⟨hl1, hl2⟩, hr1, hg1⟩
    have HR1 := Lib.hid hr1
    have HG1 := Lib.hid (grown_trans HG0.out hg1)
    clear hr1 hg1
    go_wp2_with fail
    (apply Calls.mono; focus (apply pick_abs; exact HR1.out; omega)); rintro e wa ⟨va, rfl, hva0, hva1, hrda, hsza, hcpa, hfpa, hgpa⟩
    replace hva1 := hva1 (by omega)
    have HRa := Lib.hid hrda
    have HGa := Lib.hid (grown_trans HG1.out hgpa)
    clear hcpa hfpa hsza hrda hgpa
    by_cases hva : va = 0
    · subst hva
      go_wp2_with fail
      (apply Calls.mono; focus (apply pick_abs; exact HRa.out; omega)); rintro e wb ⟨vb, rfl, hvb0, hvb1, hrdb, hszb, hcpb, hfpb, hgpb⟩
      replace hvb1 := hvb1 (by omega)
      obtain ⟨k, rfl⟩ := Int.eq_ofNat_of_zero_le hvb0
      have HRb := Lib.hid hrdb
      have HGb := Lib.hid (grown_trans HGa.out hgpb)
      clear hcpb hfpb hszb hrdb hgpb
      have n0 : (0 : Int) ≤ k := by omega
      have n1 : (k : Int) ≤ str.size := by omega
      have n2 : IntKind.i64.wrap ((k : Int) + 1) = (k : Int) + 1 := IntWalk.i64_in _ (by omega)
      have n3 : (0 : Int) ≤ (k : Int) + 1 := by omega
      have n4 : (k : Int) + 1 ≤ str.size := by omega
      have n5 : ((k : Int) + 1).toNat = k + 1 := by omega
      have e1 : (str.extract 0 k).size = k := by simp [ByteArray.size_extract]; omega
      have e2 : (str.extract (k + 1) str.size).size = str.size - (k + 1) := by simp [ByteArray.size_extract]
      obtain ⟨p1, hp1⟩ : ∃ p, str.extract 0 k = p := ⟨_, rfl⟩
      obtain ⟨p2, hp2⟩ : ∃ p, str.extract (k + 1) str.size = p := ⟨_, rfl⟩
      rw [hp1] at e1
      rw [hp2] at e2
      have E1 := Lib.hid e1
      have E2 := Lib.hid e2
      have hp1s : p1.size ≤ 100 := by omega
      have hp2s : p2.size ≤ 100 := by omega
      clear e1 e2
      go_wp2_with fail
      go_region_held3 (fun _ => True) (trivial) ((go_at_call 22; (apply Calls.mono; focus (apply of_any (lo := 0) (hi := 1) (n := 6) R _ _ (Rdr.alloc (Rdr.drew HRb.out) _); (focus omega); (focus (exact heap_alloc_new _ _)); (focus (have hl := HRb.out.lt; simp; omega)); (focus (exact ⟨rfl, fun k hk => match k, hk with | 0, _ => ⟨_, rfl, by decide, by decide⟩ | 1, _ => ⟨_, rfl, by decide, by decide⟩ | 2, _ => ⟨_, rfl, by decide, by decide⟩ | 3, _ => ⟨_, rfl, by decide, by decide⟩ | 4, _ => ⟨_, rfl, by decide, by decide⟩ | 5, _ => ⟨_, rfl, by decide, by decide⟩ | (k + 6), hk => absurd hk (by omega)⟩)); (focus omega); omega)); rintro e wc ⟨s3, rfl, hs3, hrd3, hg3⟩; have HR3 := Lib.hid hrd3; have HG3 := Lib.hid hg3; have HS3 := Lib.hid hs3; have hs3a : s3.size ≤ 1 := hs3.2; have c1 : ¬ 9223372036854775807 < p1.size + s3.size := (by omega); have c2 : ¬ 9223372036854775807 < p1.size + s3.size + p2.size := (by omega); clear hrd3 hg3 hs3))
      all_goals go_wp2
      all_goals go_ret
      all_goals exact ⟨_, rfl, ⟨Nat.zero_le _, by have := HS3.out; have := E1.out; have := E2.out; simp; omega⟩, ⟨_, by omega, HR3.out⟩, grown_trans (grown_alloc (grown_drew HGb.out) _) HG3.out⟩
    · have hva' : (va == 0) = false := by simpa using hva
      go_wp2_with fail
      go_ret
      exact ⟨str, rfl, ⟨Nat.zero_le _, by omega⟩, ⟨_, by omega, HRa.out⟩, HGa.out⟩
  · go_wp2_with fail
    have hlp := HR0.out.lt
    refine (of_any R _ _ (HR0.out.alloc _) (by omega) wp.heap.size 5 8 23 _ _ (heap_alloc_new wp _) (by omega) ?_ (by omega) (by omega)).mono ?_
    · exact ⟨rfl, fun k hk => match k, hk with | 0, _ => ⟨_, rfl, by decide, by decide⟩ | 1, _ => ⟨_, rfl, by decide, by decide⟩ | 2, _ => ⟨_, rfl, by decide, by decide⟩ | 3, _ => ⟨_, rfl, by decide, by decide⟩ | 4, _ => ⟨_, rfl, by decide, by decide⟩ | (k + 5), hk => absurd hk (by omega)⟩
    rintro e w1 ⟨str, rfl, ⟨hl1, hl2⟩, hr1, hg1⟩
    have HR1 := Lib.hid hr1
    have HG1 := Lib.hid (grown_trans (grown_alloc HG0.out _) hg1)
    clear hr1 hg1 hlp
    go_wp2_with fail
    (apply Calls.mono; focus (apply pick_abs; exact HR1.out; omega)); rintro e wa ⟨va, rfl, hva0, hva1, hrda, hsza, hcpa, hfpa, hgpa⟩
    replace hva1 := hva1 (by omega)
    have HRa := Lib.hid hrda
    have HGa := Lib.hid (grown_trans HG1.out hgpa)
    clear hcpa hfpa hsza hrda hgpa
    by_cases hva : va = 0
    · subst hva
      go_wp2_with fail
      (apply Calls.mono; focus (apply pick_abs; exact HRa.out; omega)); rintro e wb ⟨vb, rfl, hvb0, hvb1, hrdb, hszb, hcpb, hfpb, hgpb⟩
      replace hvb1 := hvb1 (by omega)
      obtain ⟨k, rfl⟩ := Int.eq_ofNat_of_zero_le hvb0
      have HRb := Lib.hid hrdb
      have HGb := Lib.hid (grown_trans HGa.out hgpb)
      clear hcpb hfpb hszb hrdb hgpb
      have n0 : (0 : Int) ≤ k := by omega
      have n1 : (k : Int) ≤ str.size := by omega
      have n2 : IntKind.i64.wrap ((k : Int) + 1) = (k : Int) + 1 := IntWalk.i64_in _ (by omega)
      have n3 : (0 : Int) ≤ (k : Int) + 1 := by omega
      have n4 : (k : Int) + 1 ≤ str.size := by omega
      have n5 : ((k : Int) + 1).toNat = k + 1 := by omega
      have e1 : (str.extract 0 k).size = k := by simp [ByteArray.size_extract]; omega
      have e2 : (str.extract (k + 1) str.size).size = str.size - (k + 1) := by simp [ByteArray.size_extract]
      obtain ⟨p1, hp1⟩ : ∃ p, str.extract 0 k = p := ⟨_, rfl⟩
      obtain ⟨p2, hp2⟩ : ∃ p, str.extract (k + 1) str.size = p := ⟨_, rfl⟩
      rw [hp1] at e1
      rw [hp2] at e2
      have E1 := Lib.hid e1
      have E2 := Lib.hid e2
      have hp1s : p1.size ≤ 100 := by omega
      have hp2s : p2.size ≤ 100 := by omega
      clear e1 e2
      go_wp2_with fail
      go_region_held3 (fun _ => True) (trivial) ((go_at_call 22; (apply Calls.mono; focus (apply of_any (lo := 0) (hi := 1) (n := 6) R _ _ (Rdr.alloc (Rdr.drew HRb.out) _); (focus omega); (focus (exact heap_alloc_new _ _)); (focus (have hl := HRb.out.lt; simp; omega)); (focus (exact ⟨rfl, fun k hk => match k, hk with | 0, _ => ⟨_, rfl, by decide, by decide⟩ | 1, _ => ⟨_, rfl, by decide, by decide⟩ | 2, _ => ⟨_, rfl, by decide, by decide⟩ | 3, _ => ⟨_, rfl, by decide, by decide⟩ | 4, _ => ⟨_, rfl, by decide, by decide⟩ | 5, _ => ⟨_, rfl, by decide, by decide⟩ | (k + 6), hk => absurd hk (by omega)⟩)); (focus omega); omega)); rintro e wc ⟨s3, rfl, hs3, hrd3, hg3⟩; have HR3 := Lib.hid hrd3; have HG3 := Lib.hid hg3; have HS3 := Lib.hid hs3; have hs3a : s3.size ≤ 1 := hs3.2; have c1 : ¬ 9223372036854775807 < p1.size + s3.size := (by omega); have c2 : ¬ 9223372036854775807 < p1.size + s3.size + p2.size := (by omega); clear hrd3 hg3 hs3))
      all_goals go_wp2
      all_goals go_ret
      all_goals exact ⟨_, rfl, ⟨Nat.zero_le _, by have := HS3.out; have := E1.out; have := E2.out; simp; omega⟩, ⟨_, by omega, HR3.out⟩, grown_trans (grown_alloc (grown_drew HGb.out) _) HG3.out⟩
    · have hva' : (va == 0) = false := by simpa using hva
      go_wp2_with fail
      go_ret
      exact ⟨str, rfl, ⟨Nat.zero_le _, by omega⟩, ⟨_, by omega, HRa.out⟩, HGa.out⟩
  · rcases hv with rfl | rfl
    all_goals
      go_wp2_with fail
      refine (l91Leaf_any R _ _ HR0.out (by omega)).mono ?_
      rintro e wl1 ⟨sl1, rfl, hl1, hrl1, hgl1⟩
      have K1 := Lib.hid hl1
      have HRl1 := Lib.hid hrl1
      have HGl1 := Lib.hid (grown_trans HG0.out hgl1)
      clear hl1 hrl1 hgl1
      go_wp2_with fail
      refine (l91Leaf_any R _ _ HRl1.out (by omega)).mono ?_
      rintro e wl2 ⟨sl2, rfl, hl2, hrl2, hgl2⟩
      have K2 := Lib.hid hl2
      have HRl2 := Lib.hid hrl2
      have HGl2 := Lib.hid (grown_trans HGl1.out hgl2)
      clear hl2 hrl2 hgl2
      go_wp2_with fail
      refine (l91Leaf_any R _ _ HRl2.out (by omega)).mono ?_
      rintro e wl3 ⟨sl3, rfl, hl3, hrl3, hgl3⟩
      have K3 := Lib.hid hl3
      have HRl3 := Lib.hid hrl3
      have HGl3 := Lib.hid (grown_trans HGl2.out hgl3)
      clear hl3 hrl3 hgl3
      go_wp2_with fail
      have hlp := HRl3.out.lt
      refine (l91List_any R _ _ (HRl3.out.alloc _) (by omega) wl3.heap.size 3 1 1 _ _ (heap_alloc_new wl3 _) (by omega) (strArr3 K1.out K2.out K3.out) (by omega) (by omega) (by omega)).mono ?_
      rintro e w1 ⟨str, rfl, ⟨hl1, hl2⟩, hr1, hg1⟩
      have HR1 := Lib.hid hr1
      have HG1 := Lib.hid (grown_trans (grown_alloc HGl3.out _) hg1)
      clear hr1 hg1 hlp
      go_wp2_with fail
      (apply Calls.mono; focus (apply pick_abs; exact HR1.out; omega)); rintro e wa ⟨va, rfl, hva0, hva1, hrda, hsza, hcpa, hfpa, hgpa⟩
      replace hva1 := hva1 (by omega)
      have HRa := Lib.hid hrda
      have HGa := Lib.hid (grown_trans HG1.out hgpa)
      clear hcpa hfpa hsza hrda hgpa
      by_cases hva : va = 0
      · subst hva
        go_wp2_with fail
        (apply Calls.mono; focus (apply pick_abs; exact HRa.out; omega)); rintro e wb ⟨vb, rfl, hvb0, hvb1, hrdb, hszb, hcpb, hfpb, hgpb⟩
        replace hvb1 := hvb1 (by omega)
        obtain ⟨k, rfl⟩ := Int.eq_ofNat_of_zero_le hvb0
        have HRb := Lib.hid hrdb
        have HGb := Lib.hid (grown_trans HGa.out hgpb)
        clear hcpb hfpb hszb hrdb hgpb
        have n0 : (0 : Int) ≤ k := by omega
        have n1 : (k : Int) ≤ str.size := by omega
        have n2 : IntKind.i64.wrap ((k : Int) + 1) = (k : Int) + 1 := IntWalk.i64_in _ (by omega)
        have n3 : (0 : Int) ≤ (k : Int) + 1 := by omega
        have n4 : (k : Int) + 1 ≤ str.size := by omega
        have n5 : ((k : Int) + 1).toNat = k + 1 := by omega
        have e1 : (str.extract 0 k).size = k := by simp [ByteArray.size_extract]; omega
        have e2 : (str.extract (k + 1) str.size).size = str.size - (k + 1) := by simp [ByteArray.size_extract]
        obtain ⟨p1, hp1⟩ : ∃ p, str.extract 0 k = p := ⟨_, rfl⟩
        obtain ⟨p2, hp2⟩ : ∃ p, str.extract (k + 1) str.size = p := ⟨_, rfl⟩
        rw [hp1] at e1
        rw [hp2] at e2
        have E1 := Lib.hid e1
        have E2 := Lib.hid e2
        have hp1s : p1.size ≤ 100 := by omega
        have hp2s : p2.size ≤ 100 := by omega
        clear e1 e2
        go_wp2_with fail
        go_region_held3 (fun _ => True) (trivial) ((go_at_call 22; (apply Calls.mono; focus (apply of_any (lo := 0) (hi := 1) (n := 6) R _ _ (Rdr.alloc (Rdr.drew HRb.out) _); (focus omega); (focus (exact heap_alloc_new _ _)); (focus (have hl := HRb.out.lt; simp; omega)); (focus (exact ⟨rfl, fun k hk => match k, hk with | 0, _ => ⟨_, rfl, by decide, by decide⟩ | 1, _ => ⟨_, rfl, by decide, by decide⟩ | 2, _ => ⟨_, rfl, by decide, by decide⟩ | 3, _ => ⟨_, rfl, by decide, by decide⟩ | 4, _ => ⟨_, rfl, by decide, by decide⟩ | 5, _ => ⟨_, rfl, by decide, by decide⟩ | (k + 6), hk => absurd hk (by omega)⟩)); (focus omega); omega)); rintro e wc ⟨s3, rfl, hs3, hrd3, hg3⟩; have HR3 := Lib.hid hrd3; have HG3 := Lib.hid hg3; have HS3 := Lib.hid hs3; have hs3a : s3.size ≤ 1 := hs3.2; have c1 : ¬ 9223372036854775807 < p1.size + s3.size := (by omega); have c2 : ¬ 9223372036854775807 < p1.size + s3.size + p2.size := (by omega); clear hrd3 hg3 hs3))
        all_goals go_wp2
        all_goals go_ret
        all_goals exact ⟨_, rfl, ⟨Nat.zero_le _, by have := HS3.out; have := E1.out; have := E2.out; simp; omega⟩, ⟨_, by omega, HR3.out⟩, grown_trans (grown_alloc (grown_drew HGb.out) _) HG3.out⟩
      · have hva' : (va == 0) = false := by simpa using hva
        go_wp2_with fail
        go_ret
        exact ⟨str, rfl, ⟨Nat.zero_le _, by omega⟩, ⟨_, by omega, HRa.out⟩, HGa.out⟩
  · rcases hv with rfl | rfl
    all_goals
      go_wp2_with fail
      refine (l91Leaf_any R _ _ HR0.out (by omega)).mono ?_
      rintro e wl1 ⟨sl1, rfl, hl1, hrl1, hgl1⟩
      have K1 := Lib.hid hl1
      have HRl1 := Lib.hid hrl1
      have HGl1 := Lib.hid (grown_trans HG0.out hgl1)
      clear hl1 hrl1 hgl1
      go_wp2_with fail
      refine (l91Leaf_any R _ _ HRl1.out (by omega)).mono ?_
      rintro e wl2 ⟨sl2, rfl, hl2, hrl2, hgl2⟩
      have K2 := Lib.hid hl2
      have HRl2 := Lib.hid hrl2
      have HGl2 := Lib.hid (grown_trans HGl1.out hgl2)
      clear hl2 hrl2 hgl2
      go_wp2_with fail
      have hlp := HRl2.out.lt
      refine (l91List_any R _ _ (HRl2.out.alloc _) (by omega) wl2.heap.size 2 1 1 _ _ (heap_alloc_new wl2 _) (by omega) (strArr2 K1.out K2.out) (by omega) (by omega) (by omega)).mono ?_
      rintro e wA ⟨sA, rfl, hA, hrA, hgA⟩
      have KA := Lib.hid hA
      have HRA := Lib.hid hrA
      have HGA := Lib.hid (grown_trans (grown_alloc HGl2.out _) hgA)
      clear hA hrA hgA hlp K1 K2 HRl1 HRl2 HGl1 HGl2
      go_wp2_with fail
      refine (l91Leaf_any R _ _ HRA.out (by omega)).mono ?_
      rintro e wl1 ⟨sl1, rfl, hl1, hrl1, hgl1⟩
      have K1 := Lib.hid hl1
      have HRl1 := Lib.hid hrl1
      have HGl1 := Lib.hid (grown_trans HGA.out hgl1)
      clear hl1 hrl1 hgl1
      go_wp2_with fail
      refine (l91Leaf_any R _ _ HRl1.out (by omega)).mono ?_
      rintro e wl2 ⟨sl2, rfl, hl2, hrl2, hgl2⟩
      have K2 := Lib.hid hl2
      have HRl2 := Lib.hid hrl2
      have HGl2 := Lib.hid (grown_trans HGl1.out hgl2)
      clear hl2 hrl2 hgl2
      go_wp2_with fail
      refine (l91Leaf_any R _ _ HRl2.out (by omega)).mono ?_
      rintro e wl3 ⟨sl3, rfl, hl3, hrl3, hgl3⟩
      have K3 := Lib.hid hl3
      have HRl3 := Lib.hid hrl3
      have HGl3 := Lib.hid (grown_trans HGl2.out hgl3)
      clear hl3 hrl3 hgl3
      go_wp2_with fail
      have hlp := HRl3.out.lt
      refine (l91List_any R _ _ (HRl3.out.alloc _) (by omega) wl3.heap.size 3 1 1 _ _ (heap_alloc_new wl3 _) (by omega) (strArr3 K1.out K2.out K3.out) (by omega) (by omega) (by omega)).mono ?_
      rintro e wB ⟨sB, rfl, hB, hrB, hgB⟩
      have KB := Lib.hid hB
      have HRB := Lib.hid hrB
      have HGB := Lib.hid (grown_trans (grown_alloc HGl3.out _) hgB)
      clear hB hrB hgB hlp
      go_wp2_with fail
      have hlp := HRB.out.lt
      refine (l91List_any R _ _ (HRB.out.alloc _) (by omega) wB.heap.size 2 3 9 _ _ (heap_alloc_new wB _) (by omega) (strArr2 ⟨KA.out.1, by have := KA.out.2; omega⟩ ⟨KB.out.1, by have := KB.out.2; omega⟩) (by omega) (by omega) (by omega)).mono ?_
      rintro e w1 ⟨str, rfl, ⟨hl1, hl2⟩, hr1, hg1⟩
      have HR1 := Lib.hid hr1
      have HG1 := Lib.hid (grown_trans (grown_alloc HGB.out _) hg1)
      clear hr1 hg1 hlp
      go_wp2_with fail
      (apply Calls.mono; focus (apply pick_abs; exact HR1.out; omega)); rintro e wa ⟨va, rfl, hva0, hva1, hrda, hsza, hcpa, hfpa, hgpa⟩
      replace hva1 := hva1 (by omega)
      have HRa := Lib.hid hrda
      have HGa := Lib.hid (grown_trans HG1.out hgpa)
      clear hcpa hfpa hsza hrda hgpa
      by_cases hva : va = 0
      · subst hva
        go_wp2_with fail
        (apply Calls.mono; focus (apply pick_abs; exact HRa.out; omega)); rintro e wb ⟨vb, rfl, hvb0, hvb1, hrdb, hszb, hcpb, hfpb, hgpb⟩
        replace hvb1 := hvb1 (by omega)
        obtain ⟨k, rfl⟩ := Int.eq_ofNat_of_zero_le hvb0
        have HRb := Lib.hid hrdb
        have HGb := Lib.hid (grown_trans HGa.out hgpb)
        clear hcpb hfpb hszb hrdb hgpb
        have n0 : (0 : Int) ≤ k := by omega
        have n1 : (k : Int) ≤ str.size := by omega
        have n2 : IntKind.i64.wrap ((k : Int) + 1) = (k : Int) + 1 := IntWalk.i64_in _ (by omega)
        have n3 : (0 : Int) ≤ (k : Int) + 1 := by omega
        have n4 : (k : Int) + 1 ≤ str.size := by omega
        have n5 : ((k : Int) + 1).toNat = k + 1 := by omega
        have e1 : (str.extract 0 k).size = k := by simp [ByteArray.size_extract]; omega
        have e2 : (str.extract (k + 1) str.size).size = str.size - (k + 1) := by simp [ByteArray.size_extract]
        obtain ⟨p1, hp1⟩ : ∃ p, str.extract 0 k = p := ⟨_, rfl⟩
        obtain ⟨p2, hp2⟩ : ∃ p, str.extract (k + 1) str.size = p := ⟨_, rfl⟩
        rw [hp1] at e1
        rw [hp2] at e2
        have E1 := Lib.hid e1
        have E2 := Lib.hid e2
        have hp1s : p1.size ≤ 100 := by omega
        have hp2s : p2.size ≤ 100 := by omega
        clear e1 e2
        go_wp2_with fail
        go_region_held3 (fun _ => True) (trivial) ((go_at_call 22; (apply Calls.mono; focus (apply of_any (lo := 0) (hi := 1) (n := 6) R _ _ (Rdr.alloc (Rdr.drew HRb.out) _); (focus omega); (focus (exact heap_alloc_new _ _)); (focus (have hl := HRb.out.lt; simp; omega)); (focus (exact ⟨rfl, fun k hk => match k, hk with | 0, _ => ⟨_, rfl, by decide, by decide⟩ | 1, _ => ⟨_, rfl, by decide, by decide⟩ | 2, _ => ⟨_, rfl, by decide, by decide⟩ | 3, _ => ⟨_, rfl, by decide, by decide⟩ | 4, _ => ⟨_, rfl, by decide, by decide⟩ | 5, _ => ⟨_, rfl, by decide, by decide⟩ | (k + 6), hk => absurd hk (by omega)⟩)); (focus omega); omega)); rintro e wc ⟨s3, rfl, hs3, hrd3, hg3⟩; have HR3 := Lib.hid hrd3; have HG3 := Lib.hid hg3; have HS3 := Lib.hid hs3; have hs3a : s3.size ≤ 1 := hs3.2; have c1 : ¬ 9223372036854775807 < p1.size + s3.size := (by omega); have c2 : ¬ 9223372036854775807 < p1.size + s3.size + p2.size := (by omega); clear hrd3 hg3 hs3))
        all_goals go_wp2
        all_goals go_ret
        all_goals exact ⟨_, rfl, ⟨Nat.zero_le _, by have := HS3.out; have := E1.out; have := E2.out; simp; omega⟩, ⟨_, by omega, HR3.out⟩, grown_trans (grown_alloc (grown_drew HGb.out) _) HG3.out⟩
      · have hva' : (va == 0) = false := by simpa using hva
        go_wp2_with fail
        go_ret
        exact ⟨str, rfl, ⟨Nat.zero_le _, by omega⟩, ⟨_, by omega, HRa.out⟩, HGa.out⟩
end Go.Proofs.YtafhpbghogdipaaGreatDoor

/- Lists of lists that the call itself made. -/
namespace Go.Proofs.YtafhpbghogdipaaGreatDoor
open Go.RowKit
set_option maxRecDepth 100000
set_option maxHeartbeats 2000000

/-- A short row of small numbers. -/
def Short (z : List Int) : Prop := z.length ≤ 6 ∧ ∀ x ∈ z, 1 ≤ x ∧ x ≤ 6
theorem short_of (m : Nat) : Short (ofTo m 6) := ⟨ofTo_len m 6, fun x hx => by have := ofTo_bd m 6 x hx; omega⟩
/-- The header u leads to the row z, in a block from B on that is not v's own. -/
def Hd (w : World) (B : Nat) (v u : Value) (z : List Int) : Prop := (u = .slice none 0 0 ∧ z = []) ∨
  (∃ g c, u = .slice (some ⟨g, 0, none⟩) z.length c ∧ z.length ≤ c ∧ c ≤ maxLen ∧ B ≤ g ∧ g < w.heap.size ∧ v.ownBlock ≠ some g ∧ ∀ j x, z[j]? = some x → w.cell? ⟨g, j, none⟩ = some (.int .i64 x))
theorem Hd.step {w w' : World} {B R : Nat} {v v' u : Value} {z : List Int} {row : Option Nat} (h : Hd w B v u z) (hg : w.grownBy w' row) (hr : ∀ r, row = some r → r < B ∨ v.ownBlock = some r) (hv : v'.ownBlock = v.ownBlock ∨ (v'.ownBlock = some R ∧ w.heap.size ≤ R)) : Hd w' B v' u z := by
  rcases h with h | ⟨g, c, h1, h2, h3, h4, h5, h6, h7⟩
  · exact .inl h
  · refine .inr ⟨g, c, h1, h2, h3, h4, Nat.lt_of_lt_of_le h5 hg.size, ?_, fun j x hx => ?_⟩
    · rcases hv with e | ⟨e, e2⟩
      · rw [e]; exact h6
      · rw [e]
        intro e3
        cases e3
        omega
    · rw [hg.cell_far ⟨g, j, none⟩ h5 (fun e => by
        rcases hr g e.symm with e2 | e2
        · omega
        · exact h6 e2)]
      exact h7 j x hx
theorem Hd.of_own {w : World} {B B2 : Nat} {v s : Value} {z : List Int} (h : OwnI w B2 s z) (hB : B ≤ B2) (hv : ∀ r, v.ownBlock = some r → r < B2) : Hd w B v s z := by
  have hrow := owns_row h
  unfold OwnI at h
  rcases h.2 with ⟨rfl, h0⟩ | ⟨g, cap, cur, rfl, h2, h3, h4, h5, h6, h7⟩
  · exact .inl ⟨rfl, List.eq_nil_of_length_eq_zero h0⟩
  · refine .inr ⟨g, cap, rfl, h4, h5, by omega, ?_, fun e => by have := hv g e; omega, fun j x hx => ?_⟩
    · rcases Nat.lt_or_ge g w.heap.size with hlt | hge
      · exact hlt
      · rw [Array.getElem?_eq_none hge] at h3; cases h3
    · obtain ⟨A, c, e, _, _, hr⟩ := hrow
      injection e with e1 e2 e3
      subst e1
      obtain ⟨b, off, e4, _, hc⟩ := hr (by intro e5; have : z = [] := by simpa using e5
                                           rw [this] at hx; simp at hx)
      injection e4 with e4
      injection e4 with e5 e6
      subst e5 e6
      have := hc j (.int .i64 x) (by simp [hx])
      rwa [Nat.zero_add] at this

/-- v owns, from block B on, headers that lead to the rows zss. -/
def OwnM (w : World) (B : Nat) (v : Value) (zss : List (List Int)) : Prop := ∃ cs : List Value, w.ownsRow B 62 1 v zss.length cs ∧ cs.length = zss.length ∧ ∀ (k : Nat) (u : Value) (z : List Int), cs[k]? = some u → zss[k]? = some z → Hd w B v u z
theorem OwnM.empty {B : Nat} (w : World) (hB : B ≤ w.heap.size) : OwnM (w.alloc (.cells #[] 62)) B (.slice (some ⟨w.heap.size, 0, none⟩) 0 0) [] := ⟨[], owns_empty w _ hB, rfl, fun k u z h => by simp at h⟩
theorem OwnM.below {w w' : World} {B K : Nat} {v : Value} {zss : List (List Int)} (h : OwnM w B v zss) (hb : Below K w w') (hK : w.heap.size ≤ K) : OwnM w' B v zss := by
  obtain ⟨cs, h1, h2, h3⟩ := h
  exact ⟨cs, owns_below h1 hb hK, h2, fun k u z hu hz => (h3 k u z hu hz).step (R := 0) (row := none) ⟨hb.os, hb.tape, hb.output, hb.size, fun i hi _ => hb.block i (by omega)⟩ (fun r e => by cases e) (.inl rfl)⟩
theorem OwnM.grown {w w' : World} {B R : Nat} {v : Value} {zss : List (List Int)} (h : OwnM w B v zss) (hg : w.grownBy w' (some R)) (hR : R < B) : OwnM w' B v zss := by
  obtain ⟨cs, h1, h2, h3⟩ := h
  refine ⟨cs, World.ownsRow.kept h1 hg ?_, h2, fun k u z hu hz => (h3 k u z hu hz).step (R := 0) hg (fun r e => by cases e; exact .inl hR) (.inl rfl)⟩
  cases hv : v.ownBlock with
  | none => exact .inl rfl
  | some g =>
    refine .inr fun e => ?_
    cases e
    have := (h1.lt R hv).1
    omega
theorem OwnM.lt {w : World} {B : Nat} {v : Value} {zss : List (List Int)} (h : OwnM w B v zss) : ∀ r, v.ownBlock = some r → r < w.heap.size := by
  obtain ⟨cs, h1, _⟩ := h
  exact fun r hr => (h1.lt r hr).2
theorem OwnM.less {w : World} {B B' : Nat} {v : Value} {zss : List (List Int)} (h : OwnM w B v zss) (hB : B' ≤ B) : OwnM w B' v zss := by
  obtain ⟨cs, h1, h2, h3⟩ := h
  refine ⟨cs, owns_less h1 hB, h2, fun k u z hu hz => ?_⟩
  rcases h3 k u z hu hz with e | ⟨g, c, e1, e2, e3, e4, e5⟩
  · exact .inl e
  · exact .inr ⟨g, c, e1, e2, e3, by omega, e5⟩
theorem wpl_append_row {W : World} {ops : Array Oper} {rest : List Oper} {o : Oper} {a : Act} {Q : Exit → Act → World → Prop} {tt : TypeId} (hgd : o.guard = none) (s x : Operand)
    (ho : o.op = .call { callee := .builtin .append, args := #[s, x], argTypes := #[23, 23] })
    (B : Nat) (v : Value) (zss : List (List Int)) (u : Value) (z : List Int) (hs : a.eval s = v) (hown : OwnM W B v zss) (hh : Hd W B v u z) (hx : a.eval x = .slice (some ⟨W.heap.size, 0, none⟩) 1 1)
    (hn : zss.length ≤ 10000000) (hbase : B ≤ W.heap.size)
    (h : ∀ v' w', OwnM w' B v' (zss ++ [z]) → Below B W w' → W.grownBy w' v.ownBlock → wpList Tryz.prog ops Q rest (a.put o.dst v') w') :
    wpList Tryz.prog ops Q (o :: rest) a (W.alloc (.cells #[u] tt)) := by
  obtain ⟨cs, h1, h2, h3⟩ := hown
  obtain ⟨i0, hi, hz0, hz1, hz2⟩ := info_parts slices_info
  have hu1 : u.oneCell' = true := by rcases hh with ⟨rfl, _⟩ | ⟨g, c, rfl, _⟩ <;> rfl
  refine wpl_append1 hgd s x 23 ho B 62 i0 _ 1 24 Tryz.underlying23 hi hz0 hz1 hz2 rfl (by omega) v zss.length cs hs h1 #[u] rfl hx (by simpa using hu1) hn (by omega) hbase ?_
  intro v' w' ho' hb hg hat
  have hat' : v'.ownBlock = v.ownBlock ∨ (v'.ownBlock = some (W.heap.size + 1) ∧ W.heap.size ≤ W.heap.size + 1) := hat.imp id fun e => ⟨e, by omega⟩
  refine h v' w' ⟨cs ++ [u], by simpa using ho', by simp [h2], fun k u' z' hu hz => ?_⟩ hb hg
  by_cases hk : k < cs.length
  · rw [List.getElem?_append_left hk] at hu
    rw [List.getElem?_append_left (by omega)] at hz
    exact (h3 k u' z' hu hz).step hg (fun r e => .inr e) hat'
  · rw [List.getElem?_append_right (by omega)] at hu
    rw [List.getElem?_append_right (by omega)] at hz
    by_cases e : k - cs.length = 0
    · rw [e] at hu
      rw [← h2, e] at hz
      simp at hu hz
      subst hu hz
      exact hh.step hg (fun r e => .inr e) hat'
    · rw [List.getElem?_eq_none (by simp; omega)] at hu
      cases hu
theorem small_wf {x : Int} (h : 1 ≤ x ∧ x ≤ 6) : (Lit.int .i64 x).wf = true := by
  rcases (show x = 1 ∨ x = 2 ∨ x = 3 ∨ x = 4 ∨ x = 5 ∨ x = 6 by omega) with rfl | rfl | rfl | rfl | rfl | rfl <;> decide
theorem OwnM.mat {w : World} {B : Nat} {v : Value} {zss : List (List Int)} (h : OwnM w B v zss) (hl : zss.length ≤ 1048576) (hs : ∀ z ∈ zss, Short z) :
    ∃ A c, v = .slice A zss.length c ∧ zss.length ≤ c ∧ c ≤ maxLen ∧ Mat w w.heap.size A zss.length zss ∧ SzOk zss zss.length := by
  obtain ⟨cs, h1, h2, h3⟩ := h
  obtain ⟨A, c, rfl, hc1, hc2, hr⟩ := owns_row h1
  have hz : ∀ k, k < zss.length → zss[k]? = some (zss.getD k []) := fun k hk => by simp [List.getD_eq_getElem?_getD, hk]
  have hS : ∀ k, k < zss.length → Short (zss.getD k []) := fun k hk => hs _ (List.mem_of_getElem? (hz k hk))
  refine ⟨A, c, rfl, hc1, hc2, ⟨rfl, ?_, fun k hk => ?_, fun k hk z hzm => small_wf ((hS k hk).2 z hzm)⟩, hl, fun k hk => Nat.le_trans (hS k hk).1 (by omega)⟩
  · rintro rfl
    rcases Nat.eq_zero_or_pos zss.length with h0 | h0
    · exact h0
    · obtain ⟨b, off, e, _⟩ := hr (by intro e; rw [e] at h2; simp at h2; first | done | omega)
      cases e
  · obtain ⟨u, hu⟩ : ∃ u, cs[k]? = some u := ⟨cs[k]'(by omega), by first | (simp; done) | (simp; omega)⟩
    obtain ⟨b, off, rfl, hb, hcell⟩ := hr (by rintro rfl; simp at hu)
    have hcu := hcell k u hu
    rcases h3 k u _ hu (hz k hk) with ⟨rfl, e⟩ | ⟨g, c', rfl, e2, e3, e4, e5, e6, e7⟩
    · refine ⟨b, off, none, 0, rfl, hb, ?_, by rw [e]; simp, Nat.zero_le _, by rw [e]; exact Row.empty, fun _ => e⟩
      rw [hcu, e]
      rfl
    · refine ⟨b, off, some ⟨g, 0, none⟩, c', rfl, hb, hcu, e2, e3, fun _ => ⟨g, 0, rfl, e5, fun j y hy => ?_⟩, fun e => by cases e⟩
      rw [Nat.zero_add]
      rw [List.getElem?_map] at hy
      cases hj : (zss.getD k [])[j]? with
      | none => rw [hj] at hy; cases hy
      | some x0 =>
        rw [hj] at hy
        cases hy
        exact e7 j x0 hj
end Go.Proofs.YtafhpbghogdipaaGreatDoor

/- Append of integers at a step of a region that draws its order. -/
namespace Go.Proofs.YtafhpbghogdipaaGreatDoor
open Go.RowKit
set_option maxRecDepth 100000
set_option maxHeartbeats 2000000

/-- append of integers at a step of a region that draws its order. -/
theorem step_append_ints {W : World} {ops : Array Oper} {o : Oper} {a : Act} {K : Act → World → Prop} {Q : Exit → Act → World → Prop} {E : Prop} (hw : Region.wanted o (yielded ops a.tmps) = true) (s x : Operand)
    (ho : o.op = .call { callee := .builtin .append, args := #[s, x], argTypes := #[62, 62] })
    (B : Nat) (v : Value) (zs : List Int) (hs : a.eval s = v) (hown : OwnI W B v zs) (A : Option Addr) (m c : Nat) (ys : List Int) (hx : a.eval x = .slice A m c)
    (hr0 : ∃ B2, Row W B2 A (ys.map (Value.int .i64))) (hm : ys.length = m) (hA : A = none → m = 0)
    (hn : zs.length ≤ 10000000) (hm2 : m ≤ 10000000) (hbase : B ≤ W.heap.size)
    (h : ∀ v' w', OwnI w' B v' (zs ++ ys) → Below B W w' → W.grownBy w' v.ownBlock → (v'.ownBlock = v.ownBlock ∨ v'.ownBlock = some W.heap.size) → K (a.put o.dst v') w') :
    if Region.wanted o (yielded ops a.tmps) = true then Oper.wp Tryz.prog o a W K Q else E := by
  rw [if_pos hw]
  obtain ⟨B2, hr⟩ := hr0
  obtain ⟨i0, hi, hz0, hz1, hz2⟩ := info_parts int_inf
  have hown' : W.ownsRow B 3 1 v zs.length (zs.map (Value.int .i64)) := hown
  have fin : ∀ v' w', w'.ownsRow B 3 1 v' (zs.length + m) (zs.map (Value.int .i64) ++ ys.map (Value.int .i64)) → OwnI w' B v' (zs ++ ys) := by
    intro v' w' ho'
    unfold OwnI
    rw [← hm] at ho'
    simpa using ho'
  rcases A with _ | ad
  · obtain rfl := hA rfl
    have hn0 : ys = [] := List.eq_nil_of_length_eq_zero hm
    subst hn0
    have hrun := run_append_of_nil (P := Tryz.prog) W B 62 o.type 3 i0 1 Tryz.underlying62 hi v zs.length _ hown' c
    unfold Oper.wp execOp
    simp only [ho, resolve, invoke, builtin, Sem.run_bind, Sem.run_pure, Result.andThen_ok, List.map_toArray, List.map_cons, List.map_nil, hs, hx, hrun]
    exact h v W (by rw [List.append_nil]; exact hown) (Below.refl _ _) (World.grownBy.refl W _) (.inl rfl)
  · obtain ⟨v', w', hrun, ho', hg, _, hat⟩ := run_append_own_at (P := Tryz.prog) W B 62 o.type 3 i0 (.int .i64 0) 1 8 Tryz.underlying62 hi hz0 hz1 hz2 rfl (by omega) v zs.length _ hown' ad m c (ys.map (Value.int .i64)) (by simp [hm]) (by
      intro j u hj
      obtain ⟨b, off, e1, _, hc⟩ := hr (by intro e; rw [e] at hj; simp at hj)
      cases e1
      rw [addr_add]
      exact hc j u hj) (by simp [Value.oneCell']) (by unfold maxLen; omega) (by omega) hbase
    unfold Oper.wp execOp
    simp only [ho, resolve, invoke, builtin, Sem.run_bind, Sem.run_pure, Result.andThen_ok, List.map_toArray, List.map_cons, List.map_nil, hs, hx, hrun]
    exact h v' w' (fin _ _ ho') ((Below.refl _ _).grown hg hbase (fun k hk => (hown'.lt k hk).1)) hg hat

/-- A row of integers that was just made. -/
theorem row_made {w : World} {x : Int} {H : Nat} (hH : w.heap.size = H) (t : TypeId) : Row (w.alloc (.cells #[.int .i64 x] t)) (H + 1) (some ⟨H, 0, none⟩) ([x].map (Value.int .i64)) := by
  subst hH
  intro _
  refine ⟨w.heap.size, 0, rfl, by omega, fun j u hj => ?_⟩
  have := cell_of_row (w.alloc (.cells #[.int .i64 x] t)) w.heap.size j #[.int .i64 x] t (0, 0) (heap_alloc_new w _)
  rw [Nat.zero_add, this]
  simpa using hj
theorem row_grown {w w' : World} {B H c : Nat} {A : Addr} {n : Nat} {cs : List Value} (h : Row w B (some A) cs) (hB : B ≤ w.heap.size) (hg : w.grownBy w' (Value.slice (some ⟨H, 0, none⟩) n c).ownBlock) (hne : A.block ≠ H) : Row w' B (some A) cs := by
  intro hc
  obtain ⟨b, off, e, hlt, hcell⟩ := h hc
  refine ⟨b, off, e, hlt, fun j u hu => ?_⟩
  rw [hg.cell_far ⟨b, off + j, none⟩ (by show b < _; omega) (by
    intro e2
    injection e with e
    subst e
    simp [Value.ownBlock] at e2
    exact hne e2)]
  exact hcell j u hu
theorem own_alloc {w : World} {B : Nat} {v : Value} {zs : List Int} (h : OwnI w B v zs) (o : Obj) : OwnI (w.alloc o) B v zs := World.ownsRow.alloc h o
theorem keep_of {w w' : World} {K b o : Nat} {v : Value} (h : Below K w w') (hlt : b < K) (hc : w.cell? ⟨b, o, none⟩ = some v) : Below K w w' ∧ w'.cell? ⟨b, o, none⟩ = some v := ⟨h, by rw [h.cell hlt]; exact hc⟩
end Go.Proofs.YtafhpbghogdipaaGreatDoor

/- The reference's l3Minimize: it makes a short list of short rows. -/
namespace Go.Proofs.YtafhpbghogdipaaGreatDoor
open Go.RowKit
set_option maxRecDepth 100000
set_option maxHeartbeats 8000000
set_option linter.unusedVariables false

theorem own_emptyq {w : World} {H B : Nat} (hH : w.heap.size = H) (hB : B ≤ H) : OwnI (w.alloc (.cells #[] 3)) B (.slice (some ⟨H, 0, none⟩) 0 0) [] := by
  subst hH
  exact owns_empty w _ hB
/-- The call has made a short list of short rows. -/
def SmRes (w : World) (e : Ending) (w' : World) : Prop := ∃ v rows, e = .returned v ∧ OwnM w' w.heap.size v rows ∧ (rows.length ≤ 64 ∧ ∀ z ∈ rows, Short z) ∧ Below w.heap.size w w'
theorem short_snoc {rows : List (List Int)} {z : List Int} (h : ∀ y ∈ rows, Short y) (hz : Short z) : ∀ y ∈ rows ++ [z], Short y := by
  intro y hy
  rcases List.mem_append.1 hy with h1 | h1
  · exact h y h1
  · rw [List.mem_singleton.1 h1]; exact hz
theorem Hd.below {w w' : World} {B K : Nat} {v u : Value} {z : List Int} (h : Hd w B v u z) (hb : Below K w w') (hK : w.heap.size ≤ K) : Hd w' B v u z :=
  h.step (R := 0) (row := none) ⟨hb.os, hb.tape, hb.output, hb.size, fun i hi _ => hb.block i (by omega)⟩ (fun r e => by cases e) (.inl rfl)
theorem row_drop {w : World} {B b off : Nat} {z : List Int} {j : Nat} (h : Row w B (some ⟨b, off, none⟩) (z.map (Value.int .i64))) : Row w B (some ⟨b, off + j, none⟩) ((z.drop j).map (Value.int .i64)) := by
  intro hne
  obtain ⟨b', off', e, hlt, hc⟩ := h (by intro e; have : z = [] := by simpa using e
                                         rw [this] at hne; simp at hne)
  cases e
  refine ⟨b, off + j, rfl, hlt, fun i u hu => ?_⟩
  rw [List.getElem?_map, List.getElem?_drop] at hu
  have := hc (j + i) u (by rw [List.getElem?_map]; exact hu)
  rwa [Nat.add_assoc]

/-- Where the tail behind element j begins (behind the array's end it does not point). -/
def tailA (b off c j : Nat) : Option Addr := if c = j + 1 then some ⟨b, off, none⟩ else some ⟨b, off + (j + 1), none⟩
theorem tail_run (L c j b off : Nat) (h : j + 1 ≤ L) (w : World) : (Instr.slice 62 (.slice (some ⟨b, off, none⟩) L c) (some (.int .i64 ((j : Int) + 1))) none none).run Tryz.prog w = .ok (.slice (tailA b off c j) (L - (j + 1)) (c - (j + 1))) w := by
  have h0 : (0 : Int) ≤ (j : Int) + 1 := by omega
  have h1 : (j : Int) + 1 ≤ (L : Int) := by omega
  have h2 : ((j : Int) + 1).toNat = j + 1 := by omega
  rw [run_slice_l _ _ _ _ _ Tryz.underlying62 _ _ h0 h1]
  unfold tailA sliced
  rw [h2]
  by_cases hc : c = j + 1
  · rw [if_pos hc]
    simp only [if_pos hc]
    go_simp
  · rw [if_neg hc]
    simp only [if_neg hc, Option.map_some]
    go_simp
theorem tail_exec {ρ : Operand → Value} {x l : Operand} {L c j b off : Nat} {o : Oper} (ho : o.op = .slice 62 x (some l) none none) (hx : ρ x = .slice (some ⟨b, off, none⟩) L c) (hl : ρ l = .int .i64 ((j : Int) + 1)) (h : j + 1 ≤ L) (w : World) :
    (execOp ρ o).run Tryz.prog w = .ok (.value (.slice (tailA b off c j) (L - (j + 1)) (c - (j + 1)))) w := by
  have hr := tail_run L c j b off h w
  unfold execOp
  simp only [ho, Option.map_some, Option.map_none, hx, hl, Sem.run_bind, run_sliceAt_slice _ _ _ _ _ _ Tryz.underlying62, hr]
  rfl
theorem tail_some (b off c j : Nat) : ∃ o, tailA b off c j = some ⟨b, o, none⟩ := by
  unfold tailA
  split
  · exact ⟨_, rfl⟩
  · exact ⟨_, rfl⟩
theorem tail_row {w : World} {B b off c L : Nat} {z : List Int} {j : Nat} (h : Row w B (some ⟨b, off, none⟩) (z.map (Value.int .i64))) (hl : z.length = L) (hc : L ≤ c) : Row w B (tailA b off c j) ((z.drop (j + 1)).map (Value.int .i64)) := by
  unfold tailA
  split
  · rw [List.drop_of_length_le (by omega)]
    exact Row.empty
  · exact row_drop h

theorem l3Minimize_any (A : Option Addr) (n c : Nat) (zss : List (List Int)) (w : World) (h : Mat w w.heap.size A n zss) (hz : SzOk zss n) : Calls Tryz.prog 67 #[.slice A n c] w (SmRes w) := by
  have HM := Lib.hid h
  have HZ := Lib.hid hz
  clear h hz
  have HHas := Lib.hid (fun (W : World) (hb : Below w.heap.size w W) (ys : List Int) (A3 : Option Addr) (k3 c3 : Nat) (h3 : Row W W.heap.size A3 (ys.map (Value.int .i64))) (hl : ys.length = k3) (hk3 : k3 ≤ 1048576) =>
    l3Has_any A n c zss A3 k3 c3 ys W ((HM.out.below hb).more hb.size) HZ.out h3 hl hk3)
  go_enter Tryz.func67, Tryz.ntmps67
  go_wp2_with fail
  go_loopw [3, 4] (fun u i wr => ∃ (k : Nat) (rows : List (List Int)), k ≤ 64 ∧ i = .int .i64 k ∧ OwnM wr w.heap.size u rows ∧ rows.length ≤ k ∧ (∀ z ∈ rows, Short z) ∧ Below w.heap.size w wr) (fun _ i _ => 64 - (intOf i).toNat)
  case atStart => exact ⟨0, [], Nat.zero_le _, rfl, OwnM.empty w (Nat.le_refl _), Nat.le_refl _, (fun z h => by cases h), (Below.refl _ _).alloc (Nat.le_refl _) _⟩
  case round =>
    obtain ⟨k, rows, hk, rfl, hown, hrl, hsh, hB⟩ := hrel
    have HO := Lib.hid hown
    have HSh := Lib.hid hsh
    clear hown hsh
    go_wp2_with fail
    refine (l1Masks_any _).mono ?_
    rintro e wq ⟨rfl, rfl⟩
    by_cases hkn : k < 64
    · have i1 : (k : Int) < 64 := by omega
      go_wp2_with fail
      refine (l1OfMask_any k (by omega) _).mono ?_
      rintro e w2 ⟨s, rfl, ho2, hb2⟩
      have HO2 := Lib.hid (HO.out.below hb2 (Nat.le_refl _))
      have hlt := HO.out.lt
      have HHd := Lib.hid (Hd.of_own (v := _) ho2 hB.size hlt)
      replace hb2 := hB.trans (hb2.mono hB.size)
      obtain ⟨A3, c3, rfl, hcap, hmax, hr3⟩ := owns_row ho2
      have HR3 := Lib.hid hr3
      have hL6 := ofTo_len k 6
      obtain ⟨L, hL⟩ : ∃ L, (ofTo k 6).length = L := ⟨_, rfl⟩
      have HL := Lib.hid hL
      rw [hL] at hcap hL6 HHd ⊢
      clear ho2 hlt hr3 hL HO hB
      have HH1 := Lib.hid (HHas.out w2 hb2 (ofTo k 6) A3 L c3 HR3.out HL.out (by omega))
      go_wp2_with fail
      refine HH1.out.mono ?_
      rintro e wq ⟨rfl, rfl⟩
      go_wp2_with fail
      go_loopw [6, 7] (fun q i wr => ∃ (j : Nat) (p : Bool), j ≤ L ∧ i = .int .i64 j ∧ q = .bool p ∧ Below wq.heap.size wq wr) (fun _ i _ => L - (intOf i).toNat)
      case atStart => exact ⟨0, _, Nat.zero_le _, rfl, rfl, Below.refl _ _⟩
      case round =>
        obtain ⟨j, p, hj, rfl, rfl, hB3⟩ := hrel
        by_cases hjl : j < L
        · have j1 : (j : Int) < L := by omega
          cases p
          · go_wp2
            go_roundw
            case rel => exact ⟨k + 1, rows, by omega, by go_num, HO2.out.below hB3 (Nat.le_refl _), by omega, HSh.out, hb2.trans (hB3.mono hb2.size)⟩
            case measure => simp [intOf]; omega
          · obtain ⟨b, off, hAe, hblt, _⟩ := (HR3.out.src HL.out) j hjl
            subst hAe
            have q1 : (0 : Int) ≤ (j : Int) := by omega
            have q2 : (j : Int) ≤ (c3 : Int) := by omega
            have q3 : wrap64 ((j : Int) + 1) = (j : Int) + 1 := IntWalk.wrap64_in _ (by omega)
            have q3w : IntKind.i64.wrap ((j : Int) + 1) = (j : Int) + 1 := IntWalk.i64_in _ (by omega)
            have q4 : (0 : Int) ≤ (j : Int) + 1 := by omega
            have q5 : (j : Int) + 1 ≤ (L : Int) := by omega
            have q6 : j ≤ c3 := by omega
            obtain ⟨W, hW⟩ : ∃ W, W = wr := ⟨_, rfl⟩
            have hRW : Row W W.heap.size (some ⟨b, off, none⟩) ((ofTo k 6).map (Value.int .i64)) := by rw [hW]; exact (HR3.out.below hB3).more hB3.size
            have HBW : Hid (Below wq.heap.size wq W) := by rw [hW]; exact Lib.hid hB3
            have hT := hRW.take j
            rw [← List.map_take] at hT
            have HTake := Lib.hid hT
            have HLt : Hid (((ofTo k 6).take j).length = j) := Lib.hid (by rw [List.length_take, HL.out]; omega)
            have HLd : Hid (((ofTo k 6).drop (j + 1)).length = L - (j + 1)) := Lib.hid (by rw [List.length_drop, HL.out])
            rw [← hW]
            clear hW hT
            have q7 : j + 1 ≤ L := hjl
            have HDrop := Lib.hid (tail_row (j := j) hRW HL.out hcap)
            have HNd : Hid (tailA b off c3 j = none → L - (j + 1) = 0) := Lib.hid (fun e => by obtain ⟨o, ho⟩ := tail_some b off c3 j; rw [ho] at e; cases e)
            go_wp2_with fail
            refine wp_region_held_drew (S := fun y => Below W.heap.size W y) (by kernel_rfl) ?_ (fun hHeld0 => ?_)
            · (try dsimp only); (first | assumption | (first | assumption | (repeat (first | (with_reducible exact Below.refl _ _) | (with_reducible assumption) | (with_reducible refine below_drewN ?_ _) | (with_reducible refine Below.drew ?_) | (with_reducible refine Below.alloc ?_ (by (first | omega | (show _ < _; omega) | (simp; omega) | (simp; done))) _) | (with_reducible refine Below.setCell ?_ (by (first | omega | (show _ < _; omega) | (simp; omega) | (simp; done))) _) | (with_reducible refine Below.trans ?_ (Below.mono (by with_reducible assumption) (by (first | omega | (show _ < _; omega) | (simp; omega) | (simp; done))))) | (with_reducible refine below_grown ?_ (by with_reducible assumption) (by (first | omega | (show _ < _; omega) | (simp; omega) | (simp; done))) (by (first | omega | (show _ < _; omega) | (simp; omega) | (simp; done))))))))
            refine wpAnyH_take (i := 1) (oi := { dst := some 30, op := Op.move (Operand.tmp 5), type := 62, pos := "l3_family.go:37", after := #[], guard := none }) (v := ?_) rfl (by kernel_rfl) (by kernel_rfl) (by kernel_rfl) (fun _ _ _ h => h) (Or.inl ⟨by rfl, ?_⟩) (by assumption) ?_
            rotate_left
            · (intro w hSw; (try dsimp only at hSw); go_simp; try (with_reducible rfl))
            try simp only [Act.put, List.setIfInBounds_toArray, List.set_cons_zero, List.set_cons_succ]
            refine wpAnyH_take (i := 2) (oi := { dst := some 31, op := Op.move (Operand.tmp 7), type := 3, pos := "l3_family.go:37", after := #[], guard := none }) (v := ?_) rfl (by kernel_rfl) (by kernel_rfl) (by kernel_rfl) (fun _ _ _ h => h) (Or.inl ⟨by rfl, ?_⟩) (by assumption) ?_
            rotate_left
            · (intro w hSw; (try dsimp only at hSw); go_simp; try (with_reducible rfl))
            try simp only [Act.put, List.setIfInBounds_toArray, List.set_cons_zero, List.set_cons_succ]
            refine wpAnyH_take (i := 3) (oi := { dst := some 32, op := Op.slice 62 (Operand.tmp 30) none (some (Operand.tmp 31)) none, type := 62, pos := "l3_family.go:37", after := #[{ on := 1, ground := Ground.data }, { on := 2, ground := Ground.data }], guard := none }) (v := ?_) rfl (by kernel_rfl) (by kernel_rfl) (by kernel_rfl) (fun _ _ _ h => h) (Or.inl ⟨by rfl, ?_⟩) (by assumption) ?_
            rotate_left
            · (intro w hSw; (try dsimp only at hSw); go_simp; try (with_reducible rfl))
            try simp only [Act.put, List.setIfInBounds_toArray, List.set_cons_zero, List.set_cons_succ]
            refine wpAnyH_take (i := 5) (oi := { dst := some 34, op := Op.move (Operand.tmp 5), type := 62, pos := "l3_family.go:37", after := #[], guard := none }) (v := ?_) rfl (by kernel_rfl) (by kernel_rfl) (by kernel_rfl) (fun _ _ _ h => h) (Or.inl ⟨by rfl, ?_⟩) (by assumption) ?_
            rotate_left
            · (intro w hSw; (try dsimp only at hSw); go_simp; try (with_reducible rfl))
            try simp only [Act.put, List.setIfInBounds_toArray, List.set_cons_zero, List.set_cons_succ]
            refine wpAnyH_take (i := 6) (oi := { dst := some 35, op := Op.move (Operand.tmp 7), type := 3, pos := "l3_family.go:37", after := #[], guard := none }) (v := ?_) rfl (by kernel_rfl) (by kernel_rfl) (by kernel_rfl) (fun _ _ _ h => h) (Or.inl ⟨by rfl, ?_⟩) (by assumption) ?_
            rotate_left
            · (intro w hSw; (try dsimp only at hSw); go_simp; try (with_reducible rfl))
            try simp only [Act.put, List.setIfInBounds_toArray, List.set_cons_zero, List.set_cons_succ]
            refine wpAnyH_take (i := 7) (oi := { dst := some 36, op := Op.binOp BinOp.add 3 (Operand.tmp 35) (Operand.const (Value.int IntKind.i64 1)) 3, type := 3, pos := "l3_family.go:37", after := #[{ on := 6, ground := Ground.data }], guard := none }) (v := ?_) rfl (by kernel_rfl) (by kernel_rfl) (by kernel_rfl) (fun _ _ _ h => h) (Or.inl ⟨by rfl, ?_⟩) (by assumption) ?_
            rotate_left
            · (intro w hSw; (try dsimp only at hSw); go_simp; try (with_reducible rfl))
            try simp only [Act.put, List.setIfInBounds_toArray, List.set_cons_zero, List.set_cons_succ]
            refine wpAnyH_take (i := 8) (oi := { dst := some 37, op := Op.slice 62 (Operand.tmp 34) (some (Operand.tmp 36)) none none, type := 62, pos := "l3_family.go:37", after := #[{ on := 5, ground := Ground.data }, { on := 7, ground := Ground.data }], guard := none }) (v := .slice (tailA b off c3 j) (L - (j + 1)) (c3 - (j + 1))) rfl (by kernel_rfl) (by kernel_rfl) (by kernel_rfl) (fun _ _ _ h => h) (Or.inl ⟨by rfl, ?_⟩) (by assumption) ?_
            · (intro w hSw; exact tail_exec rfl (by rfl) (by first | rfl | exact congrArg (Value.int .i64) q3w) q7 w)
            try simp only [Act.put, List.setIfInBounds_toArray, List.set_cons_zero, List.set_cons_succ]
            refine wpAnyH_ready (rs := [0]) (by kernel_rfl) (by simp) ?_
            refine AllReadyH.cons (o := { dst := some 29, op := Op.buildSlice 62 0 #[], type := 62, pos := "l3_family.go:37", after := #[], guard := none }) rfl (fun K hK => ?_) ?_
            · skip -- [] 0
              go_simp
              refine hK.out _ _ ?_ (fun hHeld1 => ?_)
              · (try dsimp only); (first | assumption | (first | assumption | (repeat (first | (with_reducible exact Below.refl _ _) | (with_reducible assumption) | (with_reducible refine below_drewN ?_ _) | (with_reducible refine Below.drew ?_) | (with_reducible refine Below.alloc ?_ (by (first | omega | (show _ < _; omega) | (simp; omega) | (simp; done))) _) | (with_reducible refine Below.setCell ?_ (by (first | omega | (show _ < _; omega) | (simp; omega) | (simp; done))) _) | (with_reducible refine Below.trans ?_ (Below.mono (by with_reducible assumption) (by (first | omega | (show _ < _; omega) | (simp; omega) | (simp; done))))) | (with_reducible refine below_grown ?_ (by with_reducible assumption) (by (first | omega | (show _ < _; omega) | (simp; omega) | (simp; done))) (by (first | omega | (show _ < _; omega) | (simp; omega) | (simp; done))))))))
              clear hK K
              clear hHeld0
              try simp only [Act.put, List.setIfInBounds_toArray, List.set_cons_zero, List.set_cons_succ]
              refine wpAnyH_ready (rs := [4]) (by kernel_rfl) (by simp) ?_
              refine AllReadyH.cons (o := { dst := some 33, op := Op.call { callee := Callee.builtin Builtin.append, args := #[Operand.tmp 29, Operand.tmp 32], argTypes := #[62, 62] }, type := 62, pos := "l3_family.go:37", after := #[{ on := 0, ground := Ground.data }, { on := 3, ground := Ground.data }], guard := none }) rfl (fun K hK => ?_) ?_
              · skip -- [0] 4
                (apply step_append_ints (s := .tmp 29) (x := .tmp 32) (B := W.heap.size) (zs := []) (ys := (ofTo k 6).take j); (focus rfl); (focus rfl); (focus rfl); (focus (first | exact own_emptyq (by simp) (by first | (simp; done) | (simp; omega) | omega) | exact own_alloc (own_emptyq (by simp) (by first | (simp; done) | (simp; omega) | omega)) _)); (focus rfl); (focus (refine ⟨W.heap.size, HTake.out.below ?_⟩; (first | assumption | (repeat (first | (with_reducible exact Below.refl _ _) | (with_reducible assumption) | (with_reducible refine below_drewN ?_ _) | (with_reducible refine Below.drew ?_) | (with_reducible refine Below.alloc ?_ (by (first | omega | (show _ < _; omega) | (simp; omega) | (simp; done))) _) | (with_reducible refine Below.setCell ?_ (by (first | omega | (show _ < _; omega) | (simp; omega) | (simp; done))) _) | (with_reducible refine Below.trans ?_ (Below.mono (by with_reducible assumption) (by (first | omega | (show _ < _; omega) | (simp; omega) | (simp; done))))) | (with_reducible refine below_grown ?_ (by with_reducible assumption) (by (first | omega | (show _ < _; omega) | (simp; omega) | (simp; done))) (by (first | omega | (show _ < _; omega) | (simp; omega) | (simp; done))))))))); (focus (exact HLt.out)); (focus (exact (fun e => by cases e))); (focus (first | (simp; done) | omega | (simp; omega))); (focus (first | (simp; done) | omega | (simp; omega))); (focus (exact ((show Below W.heap.size W _ from (by (first | assumption | (repeat (first | (with_reducible exact Below.refl _ _) | (with_reducible assumption) | (with_reducible refine below_drewN ?_ _) | (with_reducible refine Below.drew ?_) | (with_reducible refine Below.alloc ?_ (by (first | omega | (show _ < _; omega) | (simp; omega) | (simp; done))) _) | (with_reducible refine Below.setCell ?_ (by (first | omega | (show _ < _; omega) | (simp; omega) | (simp; done))) _) | (with_reducible refine Below.trans ?_ (Below.mono (by with_reducible assumption) (by (first | omega | (show _ < _; omega) | (simp; omega) | (simp; done))))) | (with_reducible refine below_grown ?_ (by with_reducible assumption) (by (first | omega | (show _ < _; omega) | (simp; omega) | (simp; done))) (by (first | omega | (show _ < _; omega) | (simp; omega) | (simp; done))))))))).size))); intro v8 w8 hown8 hb8 hg8 hat8; have hbt8 : Below W.heap.size W w8 := Below.trans (by (first | assumption | (repeat (first | (with_reducible exact Below.refl _ _) | (with_reducible assumption) | (with_reducible refine below_drewN ?_ _) | (with_reducible refine Below.drew ?_) | (with_reducible refine Below.alloc ?_ (by (first | omega | (show _ < _; omega) | (simp; omega) | (simp; done))) _) | (with_reducible refine Below.setCell ?_ (by (first | omega | (show _ < _; omega) | (simp; omega) | (simp; done))) _) | (with_reducible refine Below.trans ?_ (Below.mono (by with_reducible assumption) (by (first | omega | (show _ < _; omega) | (simp; omega) | (simp; done))))) | (with_reducible refine below_grown ?_ (by with_reducible assumption) (by (first | omega | (show _ < _; omega) | (simp; omega) | (simp; done))) (by (first | omega | (show _ < _; omega) | (simp; omega) | (simp; done)))))))) hb8; have hsz8 := hbt8.size; simp only [List.nil_append] at hown8)
                refine hK.out _ _ ?_ (fun hHeld2 => ?_)
                · (try dsimp only); (first | assumption | (first | assumption | (repeat (first | (with_reducible exact Below.refl _ _) | (with_reducible assumption) | (with_reducible refine below_drewN ?_ _) | (with_reducible refine Below.drew ?_) | (with_reducible refine Below.alloc ?_ (by (first | omega | (show _ < _; omega) | (simp; omega) | (simp; done))) _) | (with_reducible refine Below.setCell ?_ (by (first | omega | (show _ < _; omega) | (simp; omega) | (simp; done))) _) | (with_reducible refine Below.trans ?_ (Below.mono (by with_reducible assumption) (by (first | omega | (show _ < _; omega) | (simp; omega) | (simp; done))))) | (with_reducible refine below_grown ?_ (by with_reducible assumption) (by (first | omega | (show _ < _; omega) | (simp; omega) | (simp; done))) (by (first | omega | (show _ < _; omega) | (simp; omega) | (simp; done))))))))
                clear hK K
                clear hHeld1
                try simp only [Act.put, List.setIfInBounds_toArray, List.set_cons_zero, List.set_cons_succ]
                refine wpAnyH_ready (rs := [9]) (by kernel_rfl) (by simp) ?_
                refine AllReadyH.cons (o := { dst := some 38, op := Op.call { callee := Callee.builtin Builtin.append, args := #[Operand.tmp 33, Operand.tmp 37], argTypes := #[62, 62] }, type := 62, pos := "l3_family.go:37", after := #[{ on := 4, ground := Ground.data }, { on := 8, ground := Ground.data }, { on := 4, ground := Ground.chain }], guard := none }) rfl (fun K hK => ?_) ?_
                · skip -- [0, 4] 9
                  (apply step_append_ints (s := .tmp 33) (x := .tmp 37) (B := W.heap.size) (zs := (ofTo k 6).take j) (ys := (ofTo k 6).drop (j + 1)); (focus rfl); (focus rfl); (focus rfl); (focus (first | exact hown8 | exact own_alloc hown8 _)); (focus rfl); (focus (refine ⟨W.heap.size, HDrop.out.below ?_⟩; (first | assumption | (repeat (first | (with_reducible exact Below.refl _ _) | (with_reducible assumption) | (with_reducible refine below_drewN ?_ _) | (with_reducible refine Below.drew ?_) | (with_reducible refine Below.alloc ?_ (by (first | omega | (show _ < _; omega) | (simp; omega) | (simp; done))) _) | (with_reducible refine Below.setCell ?_ (by (first | omega | (show _ < _; omega) | (simp; omega) | (simp; done))) _) | (with_reducible refine Below.trans ?_ (Below.mono (by with_reducible assumption) (by (first | omega | (show _ < _; omega) | (simp; omega) | (simp; done))))) | (with_reducible refine below_grown ?_ (by with_reducible assumption) (by (first | omega | (show _ < _; omega) | (simp; omega) | (simp; done))) (by (first | omega | (show _ < _; omega) | (simp; omega) | (simp; done))))))))); (focus (exact HLd.out)); (focus (exact HNd.out)); (focus (first | (simp; done) | omega | (simp; omega))); (focus (first | (simp; done) | omega | (simp; omega))); (focus (exact ((show Below W.heap.size W _ from (by (first | assumption | (repeat (first | (with_reducible exact Below.refl _ _) | (with_reducible assumption) | (with_reducible refine below_drewN ?_ _) | (with_reducible refine Below.drew ?_) | (with_reducible refine Below.alloc ?_ (by (first | omega | (show _ < _; omega) | (simp; omega) | (simp; done))) _) | (with_reducible refine Below.setCell ?_ (by (first | omega | (show _ < _; omega) | (simp; omega) | (simp; done))) _) | (with_reducible refine Below.trans ?_ (Below.mono (by with_reducible assumption) (by (first | omega | (show _ < _; omega) | (simp; omega) | (simp; done))))) | (with_reducible refine below_grown ?_ (by with_reducible assumption) (by (first | omega | (show _ < _; omega) | (simp; omega) | (simp; done))) (by (first | omega | (show _ < _; omega) | (simp; omega) | (simp; done))))))))).size))); intro v9 w9 hown9 hb9 hg9 hat9; have hbt9 : Below W.heap.size W w9 := Below.trans (by (first | assumption | (repeat (first | (with_reducible exact Below.refl _ _) | (with_reducible assumption) | (with_reducible refine below_drewN ?_ _) | (with_reducible refine Below.drew ?_) | (with_reducible refine Below.alloc ?_ (by (first | omega | (show _ < _; omega) | (simp; omega) | (simp; done))) _) | (with_reducible refine Below.setCell ?_ (by (first | omega | (show _ < _; omega) | (simp; omega) | (simp; done))) _) | (with_reducible refine Below.trans ?_ (Below.mono (by with_reducible assumption) (by (first | omega | (show _ < _; omega) | (simp; omega) | (simp; done))))) | (with_reducible refine below_grown ?_ (by with_reducible assumption) (by (first | omega | (show _ < _; omega) | (simp; omega) | (simp; done))) (by (first | omega | (show _ < _; omega) | (simp; omega) | (simp; done)))))))) hb9; have hsz9 := hbt9.size)
                  refine hK.out _ _ ?_ (fun hHeld3 => ?_)
                  · (try dsimp only); (first | assumption | (first | assumption | (repeat (first | (with_reducible exact Below.refl _ _) | (with_reducible assumption) | (with_reducible refine below_drewN ?_ _) | (with_reducible refine Below.drew ?_) | (with_reducible refine Below.alloc ?_ (by (first | omega | (show _ < _; omega) | (simp; omega) | (simp; done))) _) | (with_reducible refine Below.setCell ?_ (by (first | omega | (show _ < _; omega) | (simp; omega) | (simp; done))) _) | (with_reducible refine Below.trans ?_ (Below.mono (by with_reducible assumption) (by (first | omega | (show _ < _; omega) | (simp; omega) | (simp; done))))) | (with_reducible refine below_grown ?_ (by with_reducible assumption) (by (first | omega | (show _ < _; omega) | (simp; omega) | (simp; done))) (by (first | omega | (show _ < _; omega) | (simp; omega) | (simp; done))))))))
                  clear hK K
                  clear hHeld2
                  try simp only [Act.put, List.setIfInBounds_toArray, List.set_cons_zero, List.set_cons_succ]
                  refine wpAnyH_take (i := 10) (oi := { dst := some 8, op := Op.assign (Operand.tmp 38), type := 62, pos := "l3_family.go:37", after := #[{ on := 9, ground := Ground.data }, { on := 9, ground := Ground.chain }, { on := 0, ground := Ground.phase }, { on := 1, ground := Ground.phase }, { on := 2, ground := Ground.phase }, { on := 3, ground := Ground.phase }, { on := 4, ground := Ground.phase }, { on := 5, ground := Ground.phase }, { on := 6, ground := Ground.phase }, { on := 7, ground := Ground.phase }, { on := 8, ground := Ground.phase }, { on := 9, ground := Ground.phase }], guard := none }) (v := ?_) rfl (by kernel_rfl) (by kernel_rfl) (by kernel_rfl) (fun _ _ _ h => h) (Or.inl ⟨by rfl, ?_⟩) (by assumption) ?_
                  rotate_left
                  · (intro w hSw; (try dsimp only at hSw); go_simp; try (with_reducible rfl))
                  try simp only [Act.put, List.setIfInBounds_toArray, List.set_cons_zero, List.set_cons_succ]
                  refine wpAnyH_done (by kernel_rfl) ?_ _
                  clear hown8 hb8 hb9 hg8 hg9 hat8 hat9 hsz8
                  obtain ⟨ys, hys⟩ : ∃ ys, ys = (ofTo k 6).take j ++ (ofTo k 6).drop (j + 1) := ⟨_, rfl⟩
                  have hl5 : ys.length ≤ 6 := by rw [hys]; have := HL.out; simp; omega
                  rw [← hys] at hown9
                  clear hys
                  obtain ⟨A5, c5, rfl, _, _, hr5⟩ := owns_row hown9
                  obtain ⟨m5, hm5⟩ : ∃ m5, ys.length = m5 := ⟨_, rfl⟩
                  have HM5 := Lib.hid hm5
                  rw [hm5] at hl5 ⊢
                  clear hm5
                  have hbv : Below wq.heap.size wq w9 := HBW.out.trans (hbt9.mono HBW.out.size)
                  have hbq : Below w.heap.size w w9 := hb2.trans (hbv.mono hb2.size)
                  have HH2 := Lib.hid (HHas.out w9 hbq ys A5 m5 c5 hr5 HM5.out (by omega))
                  clear hown9 hr5
                  go_wp2_with fail
                  refine HH2.out.mono ?_
                  rintro e wv ⟨rfl, rfl⟩
                  go_wp2
                  go_roundw
                  case rel => exact ⟨j + 1, _, by omega, by go_num, rfl, hbv⟩
                  case measure => simp [intOf]; omega
                exact AllReadyH.nil
              exact AllReadyH.nil
            exact AllReadyH.nil
        · have j1 : ¬ (j : Int) < L := by omega
          cases p
          · go_wp2
            go_roundw
            case rel => exact ⟨k + 1, rows, by omega, by go_num, HO2.out.below hB3 (Nat.le_refl _), by omega, HSh.out, hb2.trans (hB3.mono hb2.size)⟩
            case measure => simp [intOf]; omega
          · have ho6 := HO2.out.below hB3 (Nat.le_refl _)
            have hh6 := HHd.out.below hB3 (Nat.le_refl _)
            have hs6 : w.heap.size ≤ wr.heap.size := Nat.le_trans hb2.size hB3.size
            go_wp2_with (at_builtin; refine wpl_append_row rfl _ _ (by rfl) w.heap.size _ rows _ (ofTo k 6) (by rfl) ho6 hh6 (by rfl) (by omega) hs6 ?_; intro v5 w5 hown5 hb5 _)
            go_roundw
            case rel => exact ⟨k + 1, rows ++ [ofTo k 6], by omega, by go_num, hown5, by simp; omega, short_snoc HSh.out (short_of k), (hb2.trans (hB3.mono hb2.size)).trans hb5⟩
            case measure => simp [intOf]; omega
    · obtain rfl : k = 64 := by omega
      go_wp2
      go_ret
      exact ⟨_, rows, rfl, HO.out, ⟨hrl, HSh.out⟩, hB⟩
end Go.Proofs.YtafhpbghogdipaaGreatDoor

/- The reference's l4Sum and WeightsFamily. -/
namespace Go.Proofs.YtafhpbghogdipaaGreatDoor
open Go.RowKit
set_option maxRecDepth 100000
set_option maxHeartbeats 4000000
set_option linter.unusedVariables false

theorem l4Sum_any (A : Option Addr) (n c : Nat) (zs : List Int) (A2 : Option Addr) (n2 c2 : Nat) (ys : List Int) (w : World) (hA : Row w w.heap.size A (zs.map (Value.int .i64))) (hl : zs.length = n) (hn : n ≤ 1048576)
    (hB : Row w w.heap.size A2 (ys.map (Value.int .i64))) (hl2 : ys.length = n2) (hn2 : n2 ≤ 1048576) (hs : ∀ y ∈ ys, 1 ≤ y ∧ y ≤ 6) :
    Calls Tryz.prog 84 #[.slice A n c, .slice A2 n2 c2] w fun e w' => ∃ x : Int, e = .returned (.int .i64 x) ∧ w' = w := by
  have HA := Lib.hid (hA.src hl)
  have HB := Lib.hid (hB.src hl2)
  have HS : Hid (∀ k, k < n2 → ∃ t : Nat, t ≤ 5 ∧ ys.getD k 0 = (t : Int) + 1) := Lib.hid (fun k hk => by
    have h1 := hs (ys.getD k 0) (by
      rw [List.getD_eq_getElem?_getD]
      have hk' : k < ys.length := by omega
      simp [hk'])
    exact ⟨(ys.getD k 0 - 1).toNat, by omega, by omega⟩)
  clear hA hB hl hl2 hs
  go_enter Tryz.func84, Tryz.ntmps84
  go_wp2
  go_loop [5, 6] (fun u i => ∃ (k : Nat) (x : Int), k ≤ n2 ∧ i = .int .i64 k ∧ u = .int .i64 x) (fun _ i => n2 - (intOf i).toNat)
  case atStart => exact ⟨0, 0, Nat.zero_le _, rfl, rfl⟩
  case round =>
    obtain ⟨k, x, hk, rfl, rfl⟩ := hrel
    by_cases hkn : k < n2
    · have i1 : (k : Int) < n2 := by omega
      obtain ⟨b2, off2, rfl, _, hc2⟩ := HB.out k hkn
      obtain ⟨t, ht, hy⟩ := HS.out k hkn
      rw [hy] at hc2
      clear hy
      by_cases htn : t < n
      · have i2 : (t : Int) + 1 ≤ n := by omega
        have i3 : wrap64 (t : Int) = t := IntWalk.wrap64_in _ (by omega)
        have i4 : (t : Int) < n := by omega
        have i5 : wrap64 ((t : Int) + 1 - 1) = t := by rw [show (t : Int) + 1 - 1 = t by omega]; exact i3
        obtain ⟨b, off, rfl, _, hc⟩ := HA.out t htn
        generalize zs.getD t 0 = z at hc
        go_wp2
        go_round
        case rel => exact ⟨k + 1, _, by omega, by go_num, rfl⟩
        case measure => simp [intOf]; omega
      · have i2 : ¬ (t : Int) + 1 ≤ n := by omega
        go_wp2
        go_round
        case rel => exact ⟨k + 1, _, by omega, by go_num, rfl⟩
        case measure => simp [intOf]; omega
    · obtain rfl : k = n2 := by omega
      go_wp2
      go_ret
      exact ⟨⟨x, rfl⟩, rfl⟩

/-- The call has made a short list of short rows, and says whether it is good. -/
def FmRes (w : World) (e : Ending) (w' : World) : Prop := ∃ v rows ok, e = .returned (.tuple #[v, .bool ok]) ∧ OwnM w' w.heap.size v rows ∧ (rows.length ≤ 64 ∧ ∀ z ∈ rows, Short z) ∧ Below w.heap.size w w'
theorem fm_no {w w1 : World} (hb : Below w.heap.size w w1) : FmRes w (.returned (.tuple #[.slice (some ⟨w1.heap.size, 0, none⟩) 0 0, .bool false])) (w1.alloc (.cells #[] 62)) :=
  ⟨_, [], false, rfl, OwnM.empty w1 hb.size, ⟨by simp, fun z h => (by cases h)⟩, hb.alloc hb.size _⟩
theorem l1Of63' (w : World) : Calls Tryz.prog 66 #[.int .i64 63] w fun e w' =>
    ∃ v, e = .returned v ∧ OwnI w' w.heap.size v (ofTo 63 6) ∧ Below w.heap.size w w' := l1OfMask_any 63 (by omega) w

theorem weightsFamily_any (A : Option Addr) (n c : Nat) (zs : List Int) (need : Int) (w : World) (hA : Row w w.heap.size A (zs.map (Value.int .i64))) (hl : zs.length = n) (hn : n ≤ 1048576) :
    Calls Tryz.prog 64 #[.slice A n c, .int .i64 need] w (FmRes w) := by
  have H1 := specWeights_any A n c zs w hA hl hn
  have HSum := Lib.hid (fun (W : World) (hb : Below w.heap.size w W) (m : Nat) (A3 : Option Addr) (k3 c3 : Nat) (h3 : Row W W.heap.size A3 ((ofTo m 6).map (Value.int .i64))) (hl3 : (ofTo m 6).length = k3) =>
    l4Sum_any A n c zs A3 k3 c3 (ofTo m 6) W ((hA.below hb).more hb.size) hl hn h3 hl3 (by have := ofTo_len m 6; omega) (short_of m).2)
  obtain ⟨p, hp⟩ : ∃ p, wtsB zs = p := ⟨_, rfl⟩
  rw [hp] at H1
  have K1 := Lib.hid H1
  clear hA hl H1 hp
  go_enter Tryz.func64, Tryz.ntmps64
  go_wp2_with fail
  refine K1.out.mono ?_
  rintro e wq ⟨rfl, hw⟩
  subst wq
  cases p
  · go_wp2
    go_ret2
    exact fm_no (Below.refl _ _)
  go_wp2_with fail
  refine (l1Masks_any _).mono ?_
  rintro e wq ⟨rfl, hw⟩
  subst wq
  go_wp2_with fail
  refine (l1Of63' _).mono ?_
  rintro e w2 ⟨s, rfl, ho2, hb2⟩
  obtain ⟨A3, c3, hv, _, _, hr3⟩ := owns_row ho2
  have hv' : s = .slice A3 6 c3 := hv
  subst hv'
  have HS2 := Lib.hid (HSum.out w2 hb2 63 A3 6 c3 hr3 rfl)
  clear hv ho2 hr3
  go_wp2_with fail
  refine HS2.out.mono ?_
  rintro e w3 ⟨x, rfl, rfl⟩
  have H6 := l6In_any need 1 x w3
  obtain ⟨q, hq⟩ : ∃ q, inB need 1 x = q := ⟨_, rfl⟩
  rw [hq] at H6
  have K6 := Lib.hid H6
  clear H6 hq
  go_wp2_with fail
  refine K6.out.mono ?_
  rintro e w4 ⟨rfl, rfl⟩
  cases q
  · go_wp2
    go_ret2
    exact fm_no hb2
  go_wp2_with fail
  have hB2 := Lib.hid hb2
  clear hb2
  go_loopw [6, 7] (fun u i wr => ∃ (k : Nat) (rows : List (List Int)), k ≤ 64 ∧ i = .int .i64 k ∧ OwnM wr w.heap.size u rows ∧ rows.length ≤ k ∧ (∀ z ∈ rows, Short z) ∧ Below w.heap.size w wr) (fun _ i _ => 64 - (intOf i).toNat)
  case atStart => exact ⟨0, [], Nat.zero_le _, rfl, OwnM.empty _ hB2.out.size, Nat.le_refl _, (fun z h => by cases h), hB2.out.alloc hB2.out.size _⟩
  case round =>
    obtain ⟨k, rows, hk, rfl, hown, hrl, hsh, hB⟩ := hrel
    have HO := Lib.hid hown
    have HSh := Lib.hid hsh
    clear hown hsh
    go_wp2_with fail
    refine (l1Masks_any _).mono ?_
    rintro e wq ⟨rfl, hwq⟩
    subst wq
    by_cases hkn : k < 64
    · have i1 : (k : Int) < 64 := by omega
      go_wp2_with fail
      refine (l1OfMask_any k (by omega) _).mono ?_
      rintro e w5 ⟨s, rfl, ho5, hb5⟩
      have HO5 := Lib.hid (HO.out.below hb5 (Nat.le_refl _))
      replace hb5 := hB.trans (hb5.mono hB.size)
      obtain ⟨A5, c5, rfl, _, _, hr5⟩ := owns_row ho5
      obtain ⟨L, hL⟩ : ∃ L, (ofTo k 6).length = L := ⟨_, rfl⟩
      have HS5 := Lib.hid (HSum.out w5 hb5 k A5 L c5 hr5 hL)
      rw [hL]
      clear ho5 hr5 hL HO hB
      go_wp2_with fail
      refine HS5.out.mono ?_
      rintro e w6 ⟨x2, rfl, rfl⟩
      by_cases hx : need ≤ x2
      · go_wp2_with fail
        refine (l1OfMask_any k (by omega) _).mono ?_
        rintro e w7 ⟨s, rfl, ho7, hb7⟩
        have HO7 := Lib.hid (HO5.out.below hb7 (Nat.le_refl _))
        have hh7 := Lib.hid (Hd.of_own (v := _) ho7 hb5.size HO5.out.lt)
        replace hb7 := hb5.trans (hb7.mono hb5.size)
        have hs7 := hb7.size
        obtain ⟨A7, c7, rfl, _, _, _⟩ := owns_row ho7
        clear ho7
        go_wp2_with (at_builtin; refine wpl_append_row rfl _ _ (by rfl) w.heap.size _ rows _ (ofTo k 6) (by rfl) HO7.out hh7.out (by rfl) (by omega) hs7 ?_; intro v8 w8 hown8 hb8 _)
        go_roundw
        case rel => exact ⟨k + 1, rows ++ [ofTo k 6], by omega, by go_num, hown8, by simp; omega, short_snoc HSh.out (short_of k), hb7.trans hb8⟩
        case measure => simp [intOf]; omega
      · go_wp2
        go_roundw
        case rel => exact ⟨k + 1, rows, by omega, by go_num, HO5.out, by omega, HSh.out, hb5⟩
        case measure => simp [intOf]; omega
    · obtain rfl : k = 64 := by omega
      obtain ⟨A9, c9, rfl, _, _, hM9, hZ9⟩ := HO.out.mat (by omega) HSh.out
      have HMin := Lib.hid (l3Minimize_any A9 rows.length c9 rows wr hM9 hZ9)
      clear hM9 hZ9
      go_wp2_with fail
      refine HMin.out.mono ?_
      rintro e w9 ⟨v9, rows9, rfl, ho9, hs9, hb9⟩
      have HO9 := Lib.hid (ho9.less hB.size)
      have HB9 := Lib.hid (hB.trans (hb9.mono hB.size))
      clear ho9 hb9
      go_wp2
      go_ret2
      exact ⟨v9, rows9, true, rfl, HO9.out, hs9, HB9.out⟩
end Go.Proofs.YtafhpbghogdipaaGreatDoor

/- The reference's l2Satisfied, l3OfExpr and FamilyOfExpr. -/
namespace Go.Proofs.YtafhpbghogdipaaGreatDoor
open Go.RowKit
set_option maxRecDepth 100000
set_option maxHeartbeats 4000000
set_option linter.unusedVariables false

/-- The call answers yes or no and turns nothing that was there. -/
def SatRes (w : World) (e : Ending) (w' : World) : Prop := ∃ b : Bool, e = .returned (.bool b) ∧ Below w.heap.size w w'
theorem l2Satisfied_any (A : Option Addr) (n c : Nat) (zs : List Int) (hl : zs.length = n) (hn : n ≤ 1048576) (m : Nat) : ∀ (u : ByteArray) (t : Tr) (W : World), u.size ≤ m → u.size ≤ 40 → Whole u t → Row W W.heap.size A (zs.map (Value.int .i64)) →
    Calls Tryz.prog 72 #[.string u, .slice A n c] W (SatRes W) := by
  induction m with
  | zero =>
    intro u t W hm hs hw hA
    obtain ⟨f, hf⟩ := hw
    have := pe_end _ _ _ _ hf
    omega
  | succ m IH =>
    intro u t W hm hs hw hA
    have hpos : 0 < u.size := by
      obtain ⟨f, hf⟩ := hw
      have := pe_end _ _ _ _ hf
      omega
    cases t with
    | leaf k =>
      have hsz := leaf_size hw
      have HC := Lib.hid (fun x => l1Contains_any A n c zs x W W.heap.size hA hl hn)
      clear hw hA hl
      go_enter Tryz.func72, Tryz.ntmps72
      go_wp2_with fail
      refine (HC.out _).mono ?_
      generalize (zs.any _) = b
      rintro e w1 ⟨rfl, rfl⟩
      go_wp2
      go_ret
      exact ⟨b, rfl, Below.refl _ _⟩
    | gate k ts =>
      have HC := Lib.hid (l2Parts_gate u k ts hw hs W)
      have hne1 : ¬ u.size = 1 := by
        obtain ⟨f, _, _, h⟩ := gate_parts hw
        omega
      have hne2 : ¬ (u.size : Int) = 1 := by omega
      have HA := Lib.hid hA
      clear hw hA hl
      go_enter Tryz.func72, Tryz.ntmps72
      go_wp2_with fail
      refine HC.out.mono ?_
      rintro e w1 ⟨v, ps, rfl, ho, hok, hb⟩
      have HK := Lib.hid hok
      obtain ⟨A1, c1, hv, hlc, hcm, hrow⟩ := owns_row ho
      unfold maxLen at hcm
      obtain ⟨L, hL⟩ : ∃ L, ps.length = L := ⟨_, rfl⟩
      rw [hL] at hv hlc
      have HL := Lib.hid hL
      have HI := Lib.hid (show Row w1 w1.heap.size A1 (ps.map Value.string) ∧ Below W.heap.size W w1 from ⟨hrow, hb⟩)
      subst hv
      clear hb ho hok hrow hL
      go_wp2_with fail
      go_loopw [7, 8] (fun d i wr => ∃ (k : Nat) (x : Int), k ≤ L ∧ i = .int .i64 k ∧ d = .int .i64 x ∧ (Row wr wr.heap.size A1 (ps.map Value.string) ∧ Below W.heap.size W wr)) (fun _ i _ => L - (intOf i).toNat)
      case atStart => exact ⟨0, 0, Nat.zero_le _, rfl, rfl, HI.out⟩
      case round =>
        obtain ⟨k, x, hk, rfl, rfl, hrow, hB⟩ := hrel
        have HR := Lib.hid hrow
        have HB := Lib.hid hB
        have hsz := hB.size
        clear hrow hB
        by_cases hkn : k < L
        · have i1 : (k : Int) < L := by omega
          have hkp : k < ps.length := by rw [HL.out]; exact hkn
          have hkt : k < ts.length := by rw [← HK.out.1]; exact hkp
          obtain ⟨hw, hsm⟩ := HK.out.2 k _ _ (List.getElem?_eq_getElem hkp) (List.getElem?_eq_getElem hkt)
          obtain ⟨b, off, hA, hbl, hcell⟩ := HR.out.at_ (k := k) (u := .string ps[k]) (by simp [hkp])
          generalize ps[k] = p at hw hsm hcell
          generalize ts[k] = t at hw
          have HCk := Lib.hid (IH p t wr (by omega) (by omega) hw ((HA.out.below HB.out).more hsz))
          subst hA
          clear hw hkp hkt
          go_wp2_with fail
          refine HCk.out.mono ?_
          rintro e w2 ⟨b2, rfl, hb2⟩
          have HB2 := Lib.hid hb2
          clear hb2
          cases b2
          · go_wp2
            go_roundw
            case rel => exact ⟨k + 1, x, by omega, by go_num, rfl, ((HR.out.below HB2.out).more HB2.out.size), HB.out.trans (HB2.out.mono hsz)⟩
            case measure => simp [intOf]; omega
          · go_wp2
            go_roundw
            case rel => exact ⟨k + 1, _, by omega, by go_num, rfl, ((HR.out.below HB2.out).more HB2.out.size), HB.out.trans (HB2.out.mono hsz)⟩
            case measure => simp [intOf]; omega
        · obtain rfl : k = L := by omega
          go_wp2
          go_ret
          exact ⟨_, rfl, HB.out⟩

theorem l3OfExpr_any (u : ByteArray) (t : Tr) (w : World) (hu : u.size ≤ 40) (ht : Whole u t) : Calls Tryz.prog 38 #[.string u] w (SmRes w) := by
  have HSat := Lib.hid (fun (W : World) (m : Nat) (A : Option Addr) (n c : Nat) (h : Row W W.heap.size A ((ofTo m 6).map (Value.int .i64))) (hl : (ofTo m 6).length = n) =>
    l2Satisfied_any A n c (ofTo m 6) hl (by have := ofTo_len m 6; omega) u.size u t W (Nat.le_refl _) hu ht h)
  clear hu ht
  go_enter Tryz.func38, Tryz.ntmps38
  go_wp2_with fail
  go_loopw [3, 4] (fun u i wr => ∃ (k : Nat) (rows : List (List Int)), k ≤ 64 ∧ i = .int .i64 k ∧ OwnM wr w.heap.size u rows ∧ rows.length ≤ k ∧ (∀ z ∈ rows, Short z) ∧ Below w.heap.size w wr) (fun _ i _ => 64 - (intOf i).toNat)
  case atStart => exact ⟨0, [], Nat.zero_le _, rfl, OwnM.empty _ (Nat.le_refl _), Nat.le_refl _, (fun z h => by cases h), (Below.refl _ _).alloc (Nat.le_refl _) _⟩
  case round =>
    obtain ⟨k, rows, hk, rfl, hown, hrl, hsh, hB⟩ := hrel
    have HO := Lib.hid hown
    have HSh := Lib.hid hsh
    clear hown hsh
    go_wp2_with fail
    refine (l1Masks_any _).mono ?_
    rintro e wq ⟨rfl, hwq⟩
    subst wq
    by_cases hkn : k < 64
    · have i1 : (k : Int) < 64 := by omega
      go_wp2_with fail
      refine (l1OfMask_any k (by omega) _).mono ?_
      rintro e w5 ⟨s, rfl, ho5, hb5⟩
      have HO5 := Lib.hid (HO.out.below hb5 (Nat.le_refl _))
      obtain ⟨A5, c5, rfl, _, _, hr5⟩ := owns_row ho5
      have HH5 := Lib.hid (Hd.of_own (v := _) ho5 hB.size HO.out.lt)
      replace hb5 := hB.trans (hb5.mono hB.size)
      obtain ⟨L, hL⟩ : ∃ L, (ofTo k 6).length = L := ⟨_, rfl⟩
      have HS5 := Lib.hid (HSat.out w5 k A5 L c5 hr5 hL)
      rw [hL] at HH5
      rw [hL]
      clear ho5 hr5 hL HO hB
      go_wp2_with fail
      refine HS5.out.mono ?_
      rintro e w6 ⟨b, rfl, hb6⟩
      have HO6 := Lib.hid (HO5.out.below hb6 (Nat.le_refl _))
      have HH6 := Lib.hid (HH5.out.below hb6 (Nat.le_refl _))
      replace hb6 := hb5.trans (hb6.mono hb5.size)
      have hs6 := hb6.size
      clear HO5 HH5
      cases b
      · go_wp2
        go_roundw
        case rel => exact ⟨k + 1, rows, by omega, by go_num, HO6.out, by omega, HSh.out, hb6⟩
        case measure => simp [intOf]; omega
      · go_wp2_with (at_builtin; refine wpl_append_row rfl _ _ (by rfl) w.heap.size _ rows _ (ofTo k 6) (by rfl) HO6.out HH6.out (by rfl) (by omega) hs6 ?_; intro v8 w8 hown8 hb8 _)
        go_roundw
        case rel => exact ⟨k + 1, rows ++ [ofTo k 6], by omega, by go_num, hown8, by simp; omega, short_snoc HSh.out (short_of k), hb6.trans hb8⟩
        case measure => simp [intOf]; omega
    · obtain rfl : k = 64 := by omega
      obtain ⟨A9, c9, rfl, _, _, hM9, hZ9⟩ := HO.out.mat (by omega) HSh.out
      have HMin := Lib.hid (l3Minimize_any A9 rows.length c9 rows wr hM9 hZ9)
      clear hM9 hZ9
      go_wp2_with fail
      refine HMin.out.mono ?_
      rintro e w9 ⟨v9, rows9, rfl, ho9, hs9, hb9⟩
      have HO9 := Lib.hid (ho9.less hB.size)
      have HB9 := Lib.hid (hB.trans (hb9.mono hB.size))
      clear ho9 hb9
      go_wp2
      go_ret
      exact ⟨v9, rows9, rfl, HO9.out, hs9, HB9.out⟩

theorem familyOfExpr_any (u : ByteArray) (hu : u.size ≤ 1048576) (w : World) : Calls Tryz.prog 62 #[.string u] w (FmRes w) := by
  have HV := specExprValid_any u hu w
  cases h : exOk u
  · rw [h] at HV
    have HC := Lib.hid HV
    clear h HV
    go_enter Tryz.func62, Tryz.ntmps62
    go_wp2_with fail
    refine HC.out.mono ?_
    rintro e wq ⟨rfl, hwq⟩
    subst wq
    go_wp2
    go_ret2
    exact fm_no (Below.refl _ _)
  · obtain ⟨h40, t, ht⟩ := exOk_tree h
    have HO := Lib.hid (l3OfExpr_any u t w h40 ⟨_, ht⟩)
    rw [h] at HV
    have HC := Lib.hid HV
    clear h HV h40 ht
    go_enter Tryz.func62, Tryz.ntmps62
    go_wp2_with fail
    refine HC.out.mono ?_
    rintro e wq ⟨rfl, hwq⟩
    subst wq
    go_wp2_with fail
    refine HO.out.mono ?_
    rintro e w9 ⟨v9, rows9, rfl, ho9, hs9, hb9⟩
    have HO9 := Lib.hid ho9
    have HB9 := Lib.hid hb9
    clear ho9 hb9
    go_wp2
    go_ret2
    exact ⟨v9, rows9, true, rfl, HO9.out, hs9, HB9.out⟩
end Go.Proofs.YtafhpbghogdipaaGreatDoor

/- The draw of a family: spec.l91Family. -/
namespace Go.Proofs.YtafhpbghogdipaaGreatDoor
open Go.RowKit
set_option maxRecDepth 100000
set_option maxHeartbeats 4000000
set_option linter.unusedVariables false

theorem hd_lit {w : World} {B : Nat} {v : Value} {x : Int} {tt : TypeId} (hB : B ≤ w.heap.size) (hv : ∀ r, v.ownBlock = some r → r < w.heap.size) :
    Hd (w.alloc (.cells #[.int .i64 x] tt)) B v (.slice (some ⟨w.heap.size, 0, none⟩) 1 1) [x] := by
  refine .inr ⟨w.heap.size, 1, rfl, Nat.le_refl _, by unfold maxLen; omega, hB, by simp, fun e => by have := hv _ e; omega, fun j y hy => ?_⟩
  cases j with
  | zero => simp at hy; subst hy; simp
  | succ j => simp at hy
theorem hd_lit0 {w : World} {B : Nat} {v : Value} {tt : TypeId} (hB : B ≤ w.heap.size) (hv : ∀ r, v.ownBlock = some r → r < w.heap.size) :
    Hd (w.alloc (.cells #[] tt)) B v (.slice (some ⟨w.heap.size, 0, none⟩) 0 0) [] :=
  .inr ⟨w.heap.size, 0, rfl, Nat.le_refl _, Nat.zero_le _, hB, by simp, fun e => by have := hv _ e; omega, fun j y hy => by simp at hy⟩
theorem hx_lit (w : World) (o : Obj) : Value.slice (some ⟨w.heap.size + 1, 0, none⟩) 1 1 = Value.slice (some ⟨(w.alloc o).heap.size, 0, none⟩) 1 1 := by simp
theorem le_lit {w : World} {B : Nat} (h : B ≤ w.heap.size) (o : Obj) : B ≤ (w.alloc o).heap.size := by simp; omega
theorem short_one {x : Int} (h : 1 ≤ x ∧ x ≤ 6) : Short [x] := ⟨by simp, fun y hy => by simp at hy; subst hy; exact h⟩
theorem short_nil : Short [] := ⟨by simp, fun y hy => by cases hy⟩

/-- The call has made a short list of short rows, and has gone on in the code. -/
def FaRes (R B : Nat) (q : Int) (w : World) (e : Ending) (w' : World) : Prop := ∃ v rows, e = .returned v ∧ OwnM w' w.heap.size v rows ∧ (rows.length ≤ 65 ∧ ∀ z ∈ rows, Short z) ∧ (∃ q', q' ≤ q + 40 ∧ Rdr w' R B q') ∧ w.grownBy w' (some R)

theorem l91Family_any (R : Nat) {B : Nat} (q : Int) (w : World) (hR : Rdr w R B q) (hq : q ≤ 20000) : Calls Tryz.prog 32 #[.pointer (some ⟨R, 0, none⟩)] w (FaRes R B q w) := by
  have hlt := hR.lt
  have hlo := hR.lo
  go_enter Tryz.func32, Tryz.ntmps32
  go_wp2_with fail
  (apply Calls.mono; focus (apply pick_abs; (focus (repeat (first | (with_reducible assumption) | (with_reducible apply Rdr.drewN) | (with_reducible apply Rdr.drew) | (with_reducible apply Rdr.alloc) | (with_reducible apply Rdr.next) | (with_reducible apply Rdr.keepB; with_reducible assumption) | (with_reducible apply Rdr.setCell; (first | omega | (show _ < _; omega) | (simp; omega) | (simp; done))) | (with_reducible apply Rdr.setLow; (first | omega | (show _ < _; omega) | (simp; omega) | (simp; done)); (first | omega | (show _ < _ ∨ _ < _; omega) | (simp; omega)))))); omega)); rintro e w1 ⟨x, rfl, hx0, hx1, hrd1, hsz1, hcp1, hfp1, hgp1⟩
  replace hx1 := hx1 (by omega)
  try simp at hsz1
  replace hsz1 := Nat.le_of_eq hsz1.symm
  have HO1 := Lib.hid ((OwnM.empty (B := w.heap.size) w (Nat.le_refl _)).grown hgp1 hlt)
  have hg1 := grown_trans (grown_alloc (World.grownBy.refl w (some R)) _) hgp1
  clear hcp1 hfp1 hgp1 hR
  rcases (show x = 0 ∨ x = 1 ∨ x = 2 by omega) with rfl | rfl | rfl
  · go_wp2_with fail
    refine (l91Expr_any _ _ _ hrd1 (by omega)).mono ?_
    rintro e w2 ⟨str, rfl, ⟨_, hstr⟩, ⟨q2, hq2, hrd2⟩, hgx⟩
    have HO2 := Lib.hid (HO1.out.grown hgx hlt)
    have hg2 := grown_trans hg1 hgx
    have hsz2 := hg2.size
    clear hgx HO1 hg1 hrd1
    go_wp2_with fail
    refine (familyOfExpr_any str (by omega) w2).mono ?_
    rintro e w3 ⟨v, rows, ok, rfl, hown3, hs3, hb3⟩
    have HOv := Lib.hid (hown3.less hsz2)
    have HSv := Lib.hid hs3
    have HO0 := Lib.hid (HO2.out.below hb3 (Nat.le_refl _))
    have hrd3 := hrd2.keepB hb3
    have hg3 := grown_below hg2 hb3 hsz2
    clear hown3 hs3 hb3 HO2 hg2 hrd2
    cases ok
    · clear HOv HSv
      have HS0 : Hid (([] : List (List Int)).length ≤ 64 ∧ ∀ z ∈ ([] : List (List Int)), Short z) := Lib.hid ⟨by simp, fun z h => by cases h⟩
      have hlenT := HS0.out.1
      have hszv := hg3.size
      go_wp2_with fail
      (apply Calls.mono; focus (apply pick_abs; exact hrd3; omega)); rintro e wt ⟨xt, rfl, hxt0, hxt1, hrdt, hszt, hcpt, hfpt, hgpt⟩
      replace hxt1 := hxt1 (by omega)
      replace hszt := Nat.le_of_eq hszt.symm
      clear hcpt hfpt
      have HOt := Lib.hid (HO0.out.grown hgpt hlt)
      have hgt := grown_trans hg3 hgpt
      have hszt2 := hgt.size
      clear hgpt
      by_cases hxa : xt = 0
      · subst hxa
        go_wp2_with fail
        (apply Calls.mono; focus (apply pick_abs; exact hrdt; omega)); rintro e wu ⟨xu, rfl, hxu0, hxu1, hrdu, hszu, hcpu, hfpu, hgpu⟩
        replace hxu1 := hxu1 (by omega)
        replace hszu := Nat.le_of_eq hszu.symm
        clear hcpu hfpu
        have HOu := Lib.hid (HOt.out.grown hgpu hlt)
        have hgu := grown_trans hgt hgpu
        have hszu2 := hgu.size
        clear hgpu HOt hgt hrdt
        have hwx : IntKind.i64.wrap (1 + xu) = 1 + xu := IntWalk.i64_in _ (by omega)
        go_wp2_with (at_builtin; refine wpl_append_row rfl _ _ (by rfl) w.heap.size _ [] _ [1 + xu] (by rfl) (HOu.out.below ((Below.refl wu.heap.size wu).alloc (Nat.le_refl _) _) (Nat.le_refl _)) (hd_lit hszu2 HOu.out.lt) (by refine Eq.trans (b := Value.slice (some ⟨wu.heap.size + 1, 0, none⟩) 1 1) (by rfl) (hx_lit wu _)) (by omega) (le_lit hszu2 _) ?_; intro v8 w8 hown8 hb8 _)
        go_ret
        exact ⟨v8, [] ++ [[1 + xu]], rfl, hown8, ⟨by simp <;> omega, short_snoc HS0.out.2 (short_one (by omega))⟩, ⟨_, by omega, (hrdu.alloc _).keep (hb8.mono (by have := hrdu.lt; simp; omega))⟩, grown_below (grown_alloc hgu _) hb8 (Nat.le_refl _)⟩
      by_cases hxb : xt = 1
      · subst hxb
        go_wp2_with (at_builtin; refine wpl_append_row rfl _ _ (by rfl) w.heap.size _ [] _ [] (by rfl) (HOt.out.below ((Below.refl wt.heap.size wt).alloc (Nat.le_refl _) _) (Nat.le_refl _)) (hd_lit0 hszt2 HOt.out.lt) (by refine Eq.trans (b := Value.slice (some ⟨wt.heap.size + 1, 0, none⟩) 1 1) (by rfl) (hx_lit wt _)) (by omega) (le_lit hszt2 _) ?_; intro v8 w8 hown8 hb8 _)
        go_ret
        exact ⟨v8, [] ++ [[]], rfl, hown8, ⟨by simp <;> omega, short_snoc HS0.out.2 short_nil⟩, ⟨_, by omega, (hrdt.alloc _).keep (hb8.mono (by have := hrdt.lt; simp; omega))⟩, grown_below (grown_alloc hgt _) hb8 (Nat.le_refl _)⟩
      have hxa' : (xt == 0) = false := by simpa using hxa
      have hxb' : (xt == 1) = false := by simpa using hxb
      go_wp2
      go_ret
      exact ⟨_, [], rfl, HOt.out, ⟨by omega, HS0.out.2⟩, ⟨_, by omega, hrdt⟩, hgt⟩
    · clear HO0
      have hlenT := HSv.out.1
      have hszv := hg3.size
      go_wp2_with fail
      (apply Calls.mono; focus (apply pick_abs; exact hrd3; omega)); rintro e wt ⟨xt, rfl, hxt0, hxt1, hrdt, hszt, hcpt, hfpt, hgpt⟩
      replace hxt1 := hxt1 (by omega)
      replace hszt := Nat.le_of_eq hszt.symm
      clear hcpt hfpt
      have HOt := Lib.hid (HOv.out.grown hgpt hlt)
      have hgt := grown_trans hg3 hgpt
      have hszt2 := hgt.size
      clear hgpt
      by_cases hxa : xt = 0
      · subst hxa
        go_wp2_with fail
        (apply Calls.mono; focus (apply pick_abs; exact hrdt; omega)); rintro e wu ⟨xu, rfl, hxu0, hxu1, hrdu, hszu, hcpu, hfpu, hgpu⟩
        replace hxu1 := hxu1 (by omega)
        replace hszu := Nat.le_of_eq hszu.symm
        clear hcpu hfpu
        have HOu := Lib.hid (HOt.out.grown hgpu hlt)
        have hgu := grown_trans hgt hgpu
        have hszu2 := hgu.size
        clear hgpu HOt hgt hrdt
        have hwx : IntKind.i64.wrap (1 + xu) = 1 + xu := IntWalk.i64_in _ (by omega)
        go_wp2_with (at_builtin; refine wpl_append_row rfl _ _ (by rfl) w.heap.size _ rows _ [1 + xu] (by rfl) (HOu.out.below ((Below.refl wu.heap.size wu).alloc (Nat.le_refl _) _) (Nat.le_refl _)) (hd_lit hszu2 HOu.out.lt) (by refine Eq.trans (b := Value.slice (some ⟨wu.heap.size + 1, 0, none⟩) 1 1) (by rfl) (hx_lit wu _)) (by omega) (le_lit hszu2 _) ?_; intro v8 w8 hown8 hb8 _)
        go_ret
        exact ⟨v8, rows ++ [[1 + xu]], rfl, hown8, ⟨by simp <;> omega, short_snoc HSv.out.2 (short_one (by omega))⟩, ⟨_, by omega, (hrdu.alloc _).keep (hb8.mono (by have := hrdu.lt; simp; omega))⟩, grown_below (grown_alloc hgu _) hb8 (Nat.le_refl _)⟩
      by_cases hxb : xt = 1
      · subst hxb
        go_wp2_with (at_builtin; refine wpl_append_row rfl _ _ (by rfl) w.heap.size _ rows _ [] (by rfl) (HOt.out.below ((Below.refl wt.heap.size wt).alloc (Nat.le_refl _) _) (Nat.le_refl _)) (hd_lit0 hszt2 HOt.out.lt) (by refine Eq.trans (b := Value.slice (some ⟨wt.heap.size + 1, 0, none⟩) 1 1) (by rfl) (hx_lit wt _)) (by omega) (le_lit hszt2 _) ?_; intro v8 w8 hown8 hb8 _)
        go_ret
        exact ⟨v8, rows ++ [[]], rfl, hown8, ⟨by simp <;> omega, short_snoc HSv.out.2 short_nil⟩, ⟨_, by omega, (hrdt.alloc _).keep (hb8.mono (by have := hrdt.lt; simp; omega))⟩, grown_below (grown_alloc hgt _) hb8 (Nat.le_refl _)⟩
      have hxa' : (xt == 0) = false := by simpa using hxa
      have hxb' : (xt == 1) = false := by simpa using hxb
      go_wp2
      go_ret
      exact ⟨_, rows, rfl, HOt.out, ⟨by omega, HSv.out.2⟩, ⟨_, by omega, hrdt⟩, hgt⟩
  · go_wp2_with fail
    refine (l91Weights_any _ _ _ hrd1 (by omega)).mono ?_
    rintro e w2 ⟨vz, zs, rfl, hoz, ⟨hlz, _⟩, ⟨q2, hq2, hrd2⟩, hgx⟩
    have HO2 := Lib.hid (HO1.out.grown hgx hlt)
    have hg2 := grown_trans hg1 hgx
    have hsz2 := hg2.size
    clear hgx HO1 hg1 hrd1
    go_wp2_with fail
    (apply Calls.mono; focus (apply pick_abs; exact hrd2; omega)); rintro e w4 ⟨y, rfl, hy0, hy1, hrd4, hsz4, hcp4, hfp4, hgp4⟩
    replace hy1 := hy1 (by omega)
    replace hsz4 := Nat.le_of_eq hsz4.symm
    clear hcp4 hfp4
    have HO4 := Lib.hid (HO2.out.grown hgp4 hlt)
    have hoz4 := own_grown (owns_less hoz (Nat.le_refl w1.heap.size)) hgp4 (by omega)
    have hg4 := grown_trans hg2 hgp4
    have hsz4' := hg4.size
    clear hgp4 HO2 hg2 hrd2 hoz
    obtain ⟨Az, cz, rfl, _, _, hrz⟩ := owns_row hoz4
    obtain ⟨L, hL⟩ : ∃ L, zs.length = L := ⟨_, rfl⟩
    have HW := Lib.hid (fun need => weightsFamily_any Az L cz zs need w4 hrz hL (by omega))
    rw [hL]
    clear hoz4 hrz hlz hL
    go_wp2_with fail
    refine (HW.out _).mono ?_
    rintro e w3 ⟨v, rows, ok, rfl, hown3, hs3, hb3⟩
    have HOv := Lib.hid (hown3.less hsz4')
    have HSv := Lib.hid hs3
    have HO0 := Lib.hid (HO4.out.below hb3 (Nat.le_refl _))
    have hrd3 := hrd4.keepB hb3
    have hg3 := grown_below hg4 hb3 hsz4'
    clear hown3 hs3 hb3 HO4 hg4 hrd4 HW
    cases ok
    · clear HOv HSv
      have HS0 : Hid (([] : List (List Int)).length ≤ 64 ∧ ∀ z ∈ ([] : List (List Int)), Short z) := Lib.hid ⟨by simp, fun z h => by cases h⟩
      have hlenT := HS0.out.1
      have hszv := hg3.size
      go_wp2_with fail
      (apply Calls.mono; focus (apply pick_abs; exact hrd3; omega)); rintro e wt ⟨xt, rfl, hxt0, hxt1, hrdt, hszt, hcpt, hfpt, hgpt⟩
      replace hxt1 := hxt1 (by omega)
      replace hszt := Nat.le_of_eq hszt.symm
      clear hcpt hfpt
      have HOt := Lib.hid (HO0.out.grown hgpt hlt)
      have hgt := grown_trans hg3 hgpt
      have hszt2 := hgt.size
      clear hgpt
      by_cases hxa : xt = 0
      · subst hxa
        go_wp2_with fail
        (apply Calls.mono; focus (apply pick_abs; exact hrdt; omega)); rintro e wu ⟨xu, rfl, hxu0, hxu1, hrdu, hszu, hcpu, hfpu, hgpu⟩
        replace hxu1 := hxu1 (by omega)
        replace hszu := Nat.le_of_eq hszu.symm
        clear hcpu hfpu
        have HOu := Lib.hid (HOt.out.grown hgpu hlt)
        have hgu := grown_trans hgt hgpu
        have hszu2 := hgu.size
        clear hgpu HOt hgt hrdt
        have hwx : IntKind.i64.wrap (1 + xu) = 1 + xu := IntWalk.i64_in _ (by omega)
        go_wp2_with (at_builtin; refine wpl_append_row rfl _ _ (by rfl) w.heap.size _ [] _ [1 + xu] (by rfl) (HOu.out.below ((Below.refl wu.heap.size wu).alloc (Nat.le_refl _) _) (Nat.le_refl _)) (hd_lit hszu2 HOu.out.lt) (by refine Eq.trans (b := Value.slice (some ⟨wu.heap.size + 1, 0, none⟩) 1 1) (by rfl) (hx_lit wu _)) (by omega) (le_lit hszu2 _) ?_; intro v8 w8 hown8 hb8 _)
        go_ret
        exact ⟨v8, [] ++ [[1 + xu]], rfl, hown8, ⟨by simp <;> omega, short_snoc HS0.out.2 (short_one (by omega))⟩, ⟨_, by omega, (hrdu.alloc _).keep (hb8.mono (by have := hrdu.lt; simp; omega))⟩, grown_below (grown_alloc hgu _) hb8 (Nat.le_refl _)⟩
      by_cases hxb : xt = 1
      · subst hxb
        go_wp2_with (at_builtin; refine wpl_append_row rfl _ _ (by rfl) w.heap.size _ [] _ [] (by rfl) (HOt.out.below ((Below.refl wt.heap.size wt).alloc (Nat.le_refl _) _) (Nat.le_refl _)) (hd_lit0 hszt2 HOt.out.lt) (by refine Eq.trans (b := Value.slice (some ⟨wt.heap.size + 1, 0, none⟩) 1 1) (by rfl) (hx_lit wt _)) (by omega) (le_lit hszt2 _) ?_; intro v8 w8 hown8 hb8 _)
        go_ret
        exact ⟨v8, [] ++ [[]], rfl, hown8, ⟨by simp <;> omega, short_snoc HS0.out.2 short_nil⟩, ⟨_, by omega, (hrdt.alloc _).keep (hb8.mono (by have := hrdt.lt; simp; omega))⟩, grown_below (grown_alloc hgt _) hb8 (Nat.le_refl _)⟩
      have hxa' : (xt == 0) = false := by simpa using hxa
      have hxb' : (xt == 1) = false := by simpa using hxb
      go_wp2
      go_ret
      exact ⟨_, [], rfl, HOt.out, ⟨by omega, HS0.out.2⟩, ⟨_, by omega, hrdt⟩, hgt⟩
    · clear HO0
      have hlenT := HSv.out.1
      have hszv := hg3.size
      go_wp2_with fail
      (apply Calls.mono; focus (apply pick_abs; exact hrd3; omega)); rintro e wt ⟨xt, rfl, hxt0, hxt1, hrdt, hszt, hcpt, hfpt, hgpt⟩
      replace hxt1 := hxt1 (by omega)
      replace hszt := Nat.le_of_eq hszt.symm
      clear hcpt hfpt
      have HOt := Lib.hid (HOv.out.grown hgpt hlt)
      have hgt := grown_trans hg3 hgpt
      have hszt2 := hgt.size
      clear hgpt
      by_cases hxa : xt = 0
      · subst hxa
        go_wp2_with fail
        (apply Calls.mono; focus (apply pick_abs; exact hrdt; omega)); rintro e wu ⟨xu, rfl, hxu0, hxu1, hrdu, hszu, hcpu, hfpu, hgpu⟩
        replace hxu1 := hxu1 (by omega)
        replace hszu := Nat.le_of_eq hszu.symm
        clear hcpu hfpu
        have HOu := Lib.hid (HOt.out.grown hgpu hlt)
        have hgu := grown_trans hgt hgpu
        have hszu2 := hgu.size
        clear hgpu HOt hgt hrdt
        have hwx : IntKind.i64.wrap (1 + xu) = 1 + xu := IntWalk.i64_in _ (by omega)
        go_wp2_with (at_builtin; refine wpl_append_row rfl _ _ (by rfl) w.heap.size _ rows _ [1 + xu] (by rfl) (HOu.out.below ((Below.refl wu.heap.size wu).alloc (Nat.le_refl _) _) (Nat.le_refl _)) (hd_lit hszu2 HOu.out.lt) (by refine Eq.trans (b := Value.slice (some ⟨wu.heap.size + 1, 0, none⟩) 1 1) (by rfl) (hx_lit wu _)) (by omega) (le_lit hszu2 _) ?_; intro v8 w8 hown8 hb8 _)
        go_ret
        exact ⟨v8, rows ++ [[1 + xu]], rfl, hown8, ⟨by simp <;> omega, short_snoc HSv.out.2 (short_one (by omega))⟩, ⟨_, by omega, (hrdu.alloc _).keep (hb8.mono (by have := hrdu.lt; simp; omega))⟩, grown_below (grown_alloc hgu _) hb8 (Nat.le_refl _)⟩
      by_cases hxb : xt = 1
      · subst hxb
        go_wp2_with (at_builtin; refine wpl_append_row rfl _ _ (by rfl) w.heap.size _ rows _ [] (by rfl) (HOt.out.below ((Below.refl wt.heap.size wt).alloc (Nat.le_refl _) _) (Nat.le_refl _)) (hd_lit0 hszt2 HOt.out.lt) (by refine Eq.trans (b := Value.slice (some ⟨wt.heap.size + 1, 0, none⟩) 1 1) (by rfl) (hx_lit wt _)) (by omega) (le_lit hszt2 _) ?_; intro v8 w8 hown8 hb8 _)
        go_ret
        exact ⟨v8, rows ++ [[]], rfl, hown8, ⟨by simp <;> omega, short_snoc HSv.out.2 short_nil⟩, ⟨_, by omega, (hrdt.alloc _).keep (hb8.mono (by have := hrdt.lt; simp; omega))⟩, grown_below (grown_alloc hgt _) hb8 (Nat.le_refl _)⟩
      have hxa' : (xt == 0) = false := by simpa using hxa
      have hxb' : (xt == 1) = false := by simpa using hxb
      go_wp2
      go_ret
      exact ⟨_, rows, rfl, HOt.out, ⟨by omega, HSv.out.2⟩, ⟨_, by omega, hrdt⟩, hgt⟩
  · go_wp2_with fail
    have hrd1' := hrd1.alloc (.cells #[] 62)
    have hg1' := grown_alloc hg1 (.cells #[] 62)
    have hszA := hg1.size
    have hownA := OwnM.empty (B := w.heap.size) w1 hszA
    clear HO1 hg1 hrd1
    (apply Calls.mono; focus (apply pick_abs; (focus (repeat (first | (with_reducible assumption) | (with_reducible apply Rdr.drewN) | (with_reducible apply Rdr.drew) | (with_reducible apply Rdr.alloc) | (with_reducible apply Rdr.next) | (with_reducible apply Rdr.keepB; with_reducible assumption) | (with_reducible apply Rdr.setCell; (first | omega | (show _ < _; omega) | (simp; omega) | (simp; done))) | (with_reducible apply Rdr.setLow; (first | omega | (show _ < _; omega) | (simp; omega) | (simp; done)); (first | omega | (show _ < _ ∨ _ < _; omega) | (simp; omega)))))); omega)); rintro e w4 ⟨y, rfl, hy0, hy1, hrd4, hsz4, hcp4, hfp4, hgp4⟩
    replace hy1 := hy1 (by omega)
    try simp at hsz4
    replace hsz4 := Nat.le_of_eq hsz4.symm
    have hown4 := hownA.grown hgp4 hlt
    have hg4 := grown_trans hg1' hgp4
    clear hcp4 hfp4 hgp4 hg1' hrd1' hownA
    obtain ⟨kk, rfl⟩ := Int.eq_ofNat_of_zero_le hy0
    have HI := Lib.hid (show OwnM w4 w.heap.size _ [] ∧ Rdr w4 R B _ ∧ w.grownBy w4 (some R) from ⟨hown4, hrd4, hg4⟩)
    clear hown4 hrd4 hg4
    go_wp2_with fail
    go_loopw [8, 9] (fun u i wr => ∃ (rows : List (List Int)) (k : Nat) (q' : Int), i = .int .i64 (k : Int) ∧ k ≤ 4 ∧ rows.length + k ≤ 4 ∧ (∀ z ∈ rows, Short z) ∧ q' + k ≤ q + 8 ∧ 0 ≤ q' ∧ (OwnM wr w.heap.size u rows ∧ Rdr wr R B q' ∧ w.grownBy wr (some R))) (fun _ i _ => (intOf i).toNat)
    case atStart => exact ⟨[], kk, _, by go_num, by omega, by simp; omega, (fun z h => by cases h), by omega, by omega, HI.out⟩
    case round =>
      obtain ⟨rows, k, q', rfl, hk, hlen, hsh, hq', hlo', hown, hrdr, hg⟩ := hrel
      have HSh := Lib.hid hsh
      have hszr := hg.size
      have HOr := Lib.hid hown
      clear hown hsh
      by_cases hk0 : 0 < k
      · have hki : (0 : Int) < (k : Int) := by omega
        go_wp2_with fail
        (apply Calls.mono; focus (apply pick_abs; exact hrdr; omega)); rintro e w5 ⟨z, rfl, hz0, hz1, hrd5, hsz5, hcp5, hfp5, hgp5⟩
        replace hz1 := hz1 (by omega)
        replace hsz5 := Nat.le_of_eq hsz5.symm
        clear hcp5 hfp5
        have HO5 := Lib.hid (HOr.out.grown hgp5 hlt)
        have hg5 := grown_trans hg hgp5
        have hsz5' := hg5.size
        clear hgp5 HOr hg hrdr
        obtain ⟨m, rfl⟩ := Int.eq_ofNat_of_zero_le hz0
        have hwm : IntKind.i64.wrap (1 + (m : Int)) = ((m + 1 : Nat) : Int) := by rw [IntWalk.i64_in _ (by omega)]; omega
        have HM := Lib.hid (l1OfMask_any (m + 1) (by omega) w5)
        go_wp2_with fail
        refine HM.out.mono ?_
        rintro e w6 ⟨s, rfl, ho6, hb6⟩
        have HO6 := Lib.hid (HO5.out.below hb6 (Nat.le_refl _))
        have HH6 := Lib.hid (Hd.of_own (v := _) ho6 hsz5' HO5.out.lt)
        have hrd6 := hrd5.keepB hb6
        have hg6 := grown_below hg5 hb6 hsz5'
        have hsz6 := hg6.size
        obtain ⟨A6, c6, rfl, _, _, _⟩ := owns_row ho6
        clear ho6 hb6 HO5 hrd5 hg5 HM
        go_wp2_with (at_builtin; refine wpl_append_row rfl _ _ (by rfl) w.heap.size _ rows _ (ofTo (m + 1) 6) (by rfl) HO6.out HH6.out (by rfl) (by omega) hsz6 ?_; intro v8 w8 hown8 hb8 _)
        go_roundw
        case rel => exact ⟨rows ++ [ofTo (m + 1) 6], k - 1, q' + 1, by go_num, by omega, by simp; omega, short_snoc HSh.out (short_of (m + 1)), by omega, by omega, hown8, hrd6.keep (hb8.mono (by omega)), grown_below hg6 hb8 (Nat.le_refl _)⟩
        case measure => simp [intOf]; omega
      · have hki : ¬ (0 : Int) < (k : Int) := by omega
        obtain ⟨A9, c9, rfl, _, _, hM9, hZ9⟩ := HOr.out.mat (by omega) HSh.out
        obtain ⟨L, hL⟩ : ∃ L, rows.length = L := ⟨_, rfl⟩
        have HMin := Lib.hid (l3Minimize_any A9 L c9 rows wr (by rw [← hL]; exact hM9) (by rw [← hL]; exact hZ9))
        rw [hL]
        clear hM9 hZ9 HOr
        go_wp2_with fail
        refine HMin.out.mono ?_
        rintro e w3 ⟨v, rows2, rfl, ho9, hs9, hb9⟩
        have HOv := Lib.hid (ho9.less hszr)
        have HSv := Lib.hid hs9
        have hrd3 := hrdr.keepB hb9
        have hg3 := grown_below hg hb9 hszr
        clear ho9 hb9 hs9 hrdr hg HMin
        have hlenT := HSv.out.1
        have hszv := hg3.size
        go_wp2_with fail
        (apply Calls.mono; focus (apply pick_abs; exact hrd3; omega)); rintro e wt ⟨xt, rfl, hxt0, hxt1, hrdt, hszt, hcpt, hfpt, hgpt⟩
        replace hxt1 := hxt1 (by omega)
        replace hszt := Nat.le_of_eq hszt.symm
        clear hcpt hfpt
        have HOt := Lib.hid (HOv.out.grown hgpt hlt)
        have hgt := grown_trans hg3 hgpt
        have hszt2 := hgt.size
        clear hgpt
        by_cases hxa : xt = 0
        · subst hxa
          go_wp2_with fail
          (apply Calls.mono; focus (apply pick_abs; exact hrdt; omega)); rintro e wu ⟨xu, rfl, hxu0, hxu1, hrdu, hszu, hcpu, hfpu, hgpu⟩
          replace hxu1 := hxu1 (by omega)
          replace hszu := Nat.le_of_eq hszu.symm
          clear hcpu hfpu
          have HOu := Lib.hid (HOt.out.grown hgpu hlt)
          have hgu := grown_trans hgt hgpu
          have hszu2 := hgu.size
          clear hgpu HOt hgt hrdt
          have hwx : IntKind.i64.wrap (1 + xu) = 1 + xu := IntWalk.i64_in _ (by omega)
          go_wp2_with (at_builtin; refine wpl_append_row rfl _ _ (by rfl) w.heap.size _ rows2 _ [1 + xu] (by rfl) (HOu.out.below ((Below.refl wu.heap.size wu).alloc (Nat.le_refl _) _) (Nat.le_refl _)) (hd_lit hszu2 HOu.out.lt) (by refine Eq.trans (b := Value.slice (some ⟨wu.heap.size + 1, 0, none⟩) 1 1) (by rfl) (hx_lit wu _)) (by omega) (le_lit hszu2 _) ?_; intro v8 w8 hown8 hb8 _)
          go_ret
          exact ⟨v8, rows2 ++ [[1 + xu]], rfl, hown8, ⟨by simp <;> omega, short_snoc HSv.out.2 (short_one (by omega))⟩, ⟨_, by omega, (hrdu.alloc _).keep (hb8.mono (by have := hrdu.lt; simp; omega))⟩, grown_below (grown_alloc hgu _) hb8 (Nat.le_refl _)⟩
        by_cases hxb : xt = 1
        · subst hxb
          go_wp2_with (at_builtin; refine wpl_append_row rfl _ _ (by rfl) w.heap.size _ rows2 _ [] (by rfl) (HOt.out.below ((Below.refl wt.heap.size wt).alloc (Nat.le_refl _) _) (Nat.le_refl _)) (hd_lit0 hszt2 HOt.out.lt) (by refine Eq.trans (b := Value.slice (some ⟨wt.heap.size + 1, 0, none⟩) 1 1) (by rfl) (hx_lit wt _)) (by omega) (le_lit hszt2 _) ?_; intro v8 w8 hown8 hb8 _)
          go_ret
          exact ⟨v8, rows2 ++ [[]], rfl, hown8, ⟨by simp <;> omega, short_snoc HSv.out.2 short_nil⟩, ⟨_, by omega, (hrdt.alloc _).keep (hb8.mono (by have := hrdt.lt; simp; omega))⟩, grown_below (grown_alloc hgt _) hb8 (Nat.le_refl _)⟩
        have hxa' : (xt == 0) = false := by simpa using hxa
        have hxb' : (xt == 1) = false := by simpa using hxb
        go_wp2
        go_ret
        exact ⟨_, rows2, rfl, HOt.out, ⟨by omega, HSv.out.2⟩, ⟨_, by omega, hrdt⟩, hgt⟩
end Go.Proofs.YtafhpbghogdipaaGreatDoor

/- The draws of FnConfigSafe: transversals; a pair. -/
namespace Go.Proofs.YtafhpbghogdipaaGreatDoor
open Go.RowKit
set_option maxHeartbeats 8000000
set_option maxRecDepth 100000
set_option linter.unusedVariables false

/-- A short list of short rows, made from block lo on. -/
def Pr (w : World) (lo : Nat) (v : Value) : Prop := ∃ rows, OwnM w lo v rows ∧ rows.length ≤ 65 ∧ ∀ z ∈ rows, Short z
theorem Pr.below {w w' : World} {lo K : Nat} {v : Value} (h : Pr w lo v) (hb : Below K w w') (hK : w.heap.size ≤ K) : Pr w' lo v := by
  obtain ⟨rows, h1, h2⟩ := h
  exact ⟨rows, h1.below hb hK, h2⟩
theorem Pr.grown {w w' : World} {lo R : Nat} {v : Value} (h : Pr w lo v) (hg : w.grownBy w' (some R)) (hR : R < lo) : Pr w' lo v := by
  obtain ⟨rows, h1, h2⟩ := h
  exact ⟨rows, h1.grown hg hR, h2⟩
theorem Pr.less {w : World} {lo lo' : Nat} {v : Value} (h : Pr w lo v) (hl : lo' ≤ lo) : Pr w lo' v := by
  obtain ⟨rows, h1, h2⟩ := h
  exact ⟨rows, h1.less hl, h2⟩
theorem Pr.nil (w : World) (lo : Nat) : Pr w lo (.slice none 0 0) := ⟨[], ⟨[], World.ownsRow_nil w lo 62 1, rfl, fun k u z h => by simp at h⟩, by simp, fun z h => by cases h⟩
theorem Pr.mat {w : World} {lo : Nat} {v : Value} (h : Pr w lo v) : ∃ A n c rows, v = .slice A n c ∧ n ≤ c ∧ c ≤ maxLen ∧ Mat w w.heap.size A n rows ∧ SzOk rows n := by
  obtain ⟨rows, h1, h2, h3⟩ := h
  obtain ⟨A, c, rfl, h4, h5, h6, h7⟩ := h1.mat (by omega) h3
  exact ⟨A, _, c, rows, rfl, h4, h5, h6, h7⟩

theorem familyTransversals_any (A : Option Addr) (n c : Nat) (zss : List (List Int)) (w : World) (h : Mat w w.heap.size A n zss) (hz : SzOk zss n) :
    Calls Tryz.prog 33 #[.slice A n c] w (FmRes w) := by
  have H1 := specFamily_any A n c zss w h hz
  have HHit := Lib.hid (fun (W : World) (hb : Below w.heap.size w W) (m : Nat) (A3 : Option Addr) (k3 c3 : Nat) (h3 : Row W W.heap.size A3 ((ofTo m 6).map (Value.int .i64))) (hl3 : (ofTo m 6).length = k3) =>
    l3Hits_any A n c zss A3 k3 c3 (ofTo m 6) W ((h.below hb).more hb.size) hz h3 hl3 (by have := ofTo_len m 6; omega))
  have hn := hz.1
  obtain ⟨p, hp⟩ : ∃ p, famB zss = p := ⟨_, rfl⟩
  rw [hp] at H1
  have K1 := Lib.hid H1
  clear h hz H1 hp
  go_enter Tryz.func33, Tryz.ntmps33
  go_wp2_with fail
  refine K1.out.mono ?_
  rintro e wq ⟨rfl, m, hw⟩
  have hbq : Below w.heap.size w wq := by rw [hw]; exact below_drewN (Below.refl _ _) m
  clear hw
  cases p
  · go_wp2
    go_ret2
    exact fm_no hbq
  by_cases hn0 : n = 0
  · have e1 : ((n : Nat) : Int) = 0 := by omega
    go_wp2
    go_ret2
    exact fm_no hbq
  have e1 : (((n : Nat) : Int) == 0) = false := by simp; omega
  have hB2 := Lib.hid hbq
  clear hbq
  go_wp2_with fail
  go_loopw [4, 5] (fun u i wr => ∃ (k : Nat) (rows : List (List Int)), k ≤ 64 ∧ i = .int .i64 k ∧ OwnM wr w.heap.size u rows ∧ rows.length ≤ k ∧ (∀ z ∈ rows, Short z) ∧ Below w.heap.size w wr) (fun _ i _ => 64 - (intOf i).toNat)
  case atStart => exact ⟨0, [], Nat.zero_le _, rfl, OwnM.empty _ hB2.out.size, Nat.le_refl _, (fun z h => by cases h), hB2.out.alloc hB2.out.size _⟩
  case round =>
    obtain ⟨k, rows, hk, rfl, hown, hrl, hsh, hB⟩ := hrel
    have HO := Lib.hid hown
    have HSh := Lib.hid hsh
    clear hown hsh
    go_wp2_with fail
    refine (l1Masks_any _).mono ?_
    rintro e wq ⟨rfl, hwq⟩
    subst wq
    by_cases hkn : k < 64
    · have i1 : (k : Int) < 64 := by omega
      go_wp2_with fail
      refine (l1OfMask_any k (by omega) _).mono ?_
      rintro e w5 ⟨s, rfl, ho5, hb5⟩
      have HO5 := Lib.hid (HO.out.below hb5 (Nat.le_refl _))
      replace hb5 := hB.trans (hb5.mono hB.size)
      obtain ⟨A5, c5, rfl, _, _, hr5⟩ := owns_row ho5
      obtain ⟨L, hL⟩ : ∃ L, (ofTo k 6).length = L := ⟨_, rfl⟩
      have HS5 := Lib.hid (HHit.out w5 hb5 k A5 L c5 hr5 hL)
      rw [hL]
      clear ho5 hr5 hL HO hB
      go_wp2_with fail
      refine HS5.out.mono ?_
      rintro e w6 ⟨rfl, hb6⟩
      have HO6 := Lib.hid (HO5.out.below hb6 (Nat.le_refl _))
      replace hb6 := hb5.trans (hb6.mono hb5.size)
      clear HO5
      generalize hitTo zss (ofTo k 6) n = b
      cases b
      · go_wp2
        go_roundw
        case rel => exact ⟨k + 1, rows, by omega, by go_num, HO6.out, by omega, HSh.out, hb6⟩
        case measure => simp [intOf]; omega
      · go_wp2_with fail
        refine (l1OfMask_any k (by omega) _).mono ?_
        rintro e w7 ⟨s, rfl, ho7, hb7⟩
        have HO7 := Lib.hid (HO6.out.below hb7 (Nat.le_refl _))
        have hh7 := Lib.hid (Hd.of_own (v := _) ho7 hb6.size HO6.out.lt)
        replace hb7 := hb6.trans (hb7.mono hb6.size)
        have hs7 := hb7.size
        obtain ⟨A7, c7, rfl, _, _, _⟩ := owns_row ho7
        clear ho7
        go_wp2_with (at_builtin; refine wpl_append_row rfl _ _ (by rfl) w.heap.size _ rows _ (ofTo k 6) (by rfl) HO7.out hh7.out (by rfl) (by omega) hs7 ?_; intro v8 w8 hown8 hb8 _)
        go_roundw
        case rel => exact ⟨k + 1, rows ++ [ofTo k 6], by omega, by go_num, hown8, by simp; omega, short_snoc HSh.out (short_of k), hb7.trans hb8⟩
        case measure => simp [intOf]; omega
    · obtain rfl : k = 64 := by omega
      obtain ⟨A9, c9, rfl, _, _, hM9, hZ9⟩ := HO.out.mat (by omega) HSh.out
      have HMin := Lib.hid (l3Minimize_any A9 rows.length c9 rows wr hM9 hZ9)
      clear hM9 hZ9
      go_wp2_with fail
      refine HMin.out.mono ?_
      rintro e w9 ⟨v9, rows9, rfl, ho9, hs9, hb9⟩
      have HO9 := Lib.hid (ho9.less hB.size)
      have HB9 := Lib.hid (hB.trans (hb9.mono hB.size))
      clear ho9 hb9
      go_wp2
      go_ret2
      exact ⟨v9, rows9, true, rfl, HO9.out, hs9, HB9.out⟩

/-- Two families are drawn. -/
def PaRes (R B : Nat) (q : Int) (w : World) (e : Ending) (w' : World) : Prop := ∃ v1 v2, e = .returned (.tuple #[v1, v2]) ∧ Pr w' w.heap.size v1 ∧ Pr w' w.heap.size v2 ∧ (∃ q', q' ≤ q + 100 ∧ Rdr w' R B q') ∧ w.grownBy w' (some R)
theorem l91Pair_any (R : Nat) {B : Nat} (q : Int) (w : World) (hR : Rdr w R B q) (hq : q ≤ 10000) : Calls Tryz.prog 18 #[.pointer (some ⟨R, 0, none⟩)] w (PaRes R B q w) := by
  have hlt := hR.lt
  go_enter Tryz.func18, Tryz.ntmps18
  go_wp2_with fail
  refine (l91Family_any R q w hR (by omega)).mono ?_
  rintro e w1 ⟨v1, r1, rfl, ho1, hs1, ⟨q1, hq1, hrd1⟩, hg1⟩
  have hP1 : Pr w1 w.heap.size v1 := ⟨r1, ho1, hs1⟩
  obtain ⟨A1, c1, rfl, _, _, hM1, hZ1⟩ := ho1.mat (by omega) hs1.2
  have HT := Lib.hid (familyTransversals_any A1 r1.length c1 r1 w1 hM1 hZ1)
  have HP1 := Lib.hid hP1
  have HG1 := Lib.hid hg1
  clear hM1 hZ1 ho1 hP1 hR
  go_wp2_with fail
  refine HT.out.mono ?_
  rintro e w2 ⟨v2, r2, ok, rfl, ho2, hs2, hb2⟩
  have HP2 : Hid (Pr w2 w.heap.size v2) := Lib.hid ⟨r2, ho2.less hg1.size, by omega, hs2.2⟩
  have HP12 := Lib.hid (HP1.out.below hb2 (Nat.le_refl _))
  have hrd2 := Rdr.keepB hb2 hrd1
  have HG2 := Lib.hid (grown_below hg1 hb2 hg1.size)
  clear ho2 hs2 hb2 hrd1 hg1 HP1 HG1 HT
  cases ok
  · go_wp2_with fail
    refine (l91Family_any R q1 w2 hrd2 (by omega)).mono ?_
    rintro e w3 ⟨v3, r3, rfl, ho3, hs3, ⟨q3, hq3, hrd3⟩, hg3⟩
    have HP3 : Hid (Pr w3 w.heap.size v3) := Lib.hid ⟨r3, ho3.less HG2.out.size, hs3⟩
    have HP13 := Lib.hid (HP12.out.grown hg3 hlt)
    have HG3 := Lib.hid (grown_trans HG2.out hg3)
    clear ho3 hg3
    go_wp2
    go_ret2
    exact ⟨_, _, rfl, HP13.out, HP3.out, ⟨q3, by omega, hrd3⟩, HG3.out⟩
  · go_wp2_with fail
    (apply Calls.mono; focus (apply pick_abs; (focus (repeat (first | (with_reducible assumption) | (with_reducible apply Rdr.drewN) | (with_reducible apply Rdr.drew) | (with_reducible apply Rdr.alloc) | (with_reducible apply Rdr.next) | (with_reducible apply Rdr.keepB; with_reducible assumption) | (with_reducible apply Rdr.setCell; (first | omega | (show _ < _; omega) | (simp; omega) | (simp; done))) | (with_reducible apply Rdr.setLow; (first | omega | (show _ < _; omega) | (simp; omega) | (simp; done)); (first | omega | (show _ < _ ∨ _ < _; omega) | (simp; omega)))))); omega)); rintro e w3 ⟨x, rfl, hx0, hx1, hrd3, hsz3, hcp3, hfp3, hgp3⟩
    have HP13 := Lib.hid (HP12.out.grown hgp3 hlt)
    have HP23 := Lib.hid (HP2.out.grown hgp3 hlt)
    have HG3 := Lib.hid (grown_trans HG2.out hgp3)
    have hs3 := hgp3.size
    clear hcp3 hfp3 hgp3 HP12 HP2
    by_cases hx : 0 < x
    · go_wp2
      go_ret2
      exact ⟨_, _, rfl, HP13.out, HP23.out, ⟨_, by omega, hrd3⟩, HG3.out⟩
    · go_wp2_with fail
      refine (l91Family_any R _ w3 hrd3 (by omega)).mono ?_
      rintro e w4 ⟨v4, r4, rfl, ho4, hs4, ⟨q4, hq4, hrd4⟩, hg4⟩
      have HP4 : Hid (Pr w4 w.heap.size v4) := Lib.hid ⟨r4, ho4.less HG3.out.size, hs4⟩
      have HP14 := Lib.hid (HP13.out.grown hg4 hlt)
      have HG4 := Lib.hid (grown_trans HG3.out hg4)
      clear ho4 hg4
      go_wp2
      go_ret2
      exact ⟨_, _, rfl, HP14.out, HP4.out, ⟨q4, by omega, hrd4⟩, HG4.out⟩
end Go.Proofs.YtafhpbghogdipaaGreatDoor

/- The draws of FnConfigSafe: a configuration of two expressions. -/
namespace Go.Proofs.YtafhpbghogdipaaGreatDoor
open Go.RowKit
set_option maxHeartbeats 8000000
set_option maxRecDepth 100000
set_option linter.unusedVariables false
set_option linter.unusedSimpArgs false

theorem Pr.set {w : World} {lo R : Nat} {v : Value} (h : Pr w lo v) (hR : R < lo) (o : Nat) (u : Value) : Pr (w.setCell ⟨R, o, none⟩ u) lo v :=
  h.grown (grown_setCell (World.grownBy.refl w (some R)) (.inl rfl) u) hR
theorem Pr.alloc {w : World} {lo : Nat} {v : Value} (h : Pr w lo v) (o : Obj) : Pr (w.alloc o) lo v := h.below ((Below.refl w.heap.size w).alloc (Nat.le_refl _) o) (Nat.le_refl _)
theorem Pr.of_sm {w w' : World} {v : Value} {rows : List (List Int)} {lo : Nat} (h : OwnM w' w.heap.size v rows) (hs : rows.length ≤ 64 ∧ ∀ z ∈ rows, Short z) (hl : lo ≤ w.heap.size) : Pr w' lo v := ⟨rows, h.less hl, by omega, hs.2⟩
/-- A configuration and a word. -/
def CcRes (w : World) (e : Ending) (w' : World) : Prop := ∃ v1 v2 ok, e = .returned (.tuple #[.agg #[v1, v2], .bool ok]) ∧ Pr w' w.heap.size v1 ∧ Pr w' w.heap.size v2 ∧ Below w.heap.size w w'
theorem configOfExprs_any (u1 u2 : ByteArray) (h1 : u1.size ≤ 1048576) (h2 : u2.size ≤ 1048576) (w : World) : Calls Tryz.prog 21 #[.string u1, .string u2] w (CcRes w) := by
  have HV1 := Lib.hid (fun W => specExprValid_any u1 h1 W)
  have HV2 := Lib.hid (fun W => specExprValid_any u2 h2 W)
  have HL1 := Lib.hid (fun (h : exOk u1 = true) (W : World) => (let ⟨h40, t, ht⟩ := exOk_tree h; l3OfExpr_any u1 t W h40 ⟨_, ht⟩ : Calls Tryz.prog 38 #[.string u1] W (SmRes W)))
  have HL2 := Lib.hid (fun (h : exOk u2 = true) (W : World) => (let ⟨h40, t, ht⟩ := exOk_tree h; l3OfExpr_any u2 t W h40 ⟨_, ht⟩ : Calls Tryz.prog 38 #[.string u2] W (SmRes W)))
  clear h1 h2
  obtain ⟨p, hp⟩ : ∃ p, exOk u1 = p := ⟨_, rfl⟩
  obtain ⟨q, hq⟩ : ∃ q, exOk u2 = q := ⟨_, rfl⟩
  rw [hp] at HV1 HL1
  rw [hq] at HV2 HL2
  clear hp hq
  go_enter Tryz.func21, Tryz.ntmps21
  go_wp2_with fail
  refine (HV1.out _).mono ?_
  rintro e wq ⟨rfl, hwq⟩
  subst wq
  cases p
  · go_wp2_with fail
    refine bodyPost_ret (by simp only [results, Tryz.results21]; go_simp; try rfl) rfl ?_
    exact ⟨_, _, false, rfl, Pr.nil _ _, Pr.nil _ _, by (repeat (first | (with_reducible exact Below.refl _ _) | (with_reducible assumption) | (with_reducible refine below_drewN ?_ _) | (with_reducible refine Below.drew ?_) | (with_reducible refine Below.alloc ?_ (by (first | omega | (show _ < _; omega) | (simp; omega) | (simp; done))) _) | (with_reducible refine Below.setCell ?_ (by (first | omega | (show _ < _; omega) | (simp; omega) | (simp; done))) _) | (with_reducible refine Below.trans ?_ (Below.mono (by with_reducible assumption) (by (first | omega | (show _ < _; omega) | (simp; omega) | (simp; done))))) | (with_reducible refine below_grown ?_ (by with_reducible assumption) (by (first | omega | (show _ < _; omega) | (simp; omega) | (simp; done))) (by (first | omega | (show _ < _; omega) | (simp; omega) | (simp; done))))))⟩
  go_wp2_with fail
  refine (HV2.out _).mono ?_
  rintro e wq ⟨rfl, hwq⟩
  subst wq
  cases q
  · go_wp2_with fail
    refine bodyPost_ret (by simp only [results, Tryz.results21]; go_simp; try rfl) rfl ?_
    exact ⟨_, _, false, rfl, Pr.nil _ _, Pr.nil _ _, by (repeat (first | (with_reducible exact Below.refl _ _) | (with_reducible assumption) | (with_reducible refine below_drewN ?_ _) | (with_reducible refine Below.drew ?_) | (with_reducible refine Below.alloc ?_ (by (first | omega | (show _ < _; omega) | (simp; omega) | (simp; done))) _) | (with_reducible refine Below.setCell ?_ (by (first | omega | (show _ < _; omega) | (simp; omega) | (simp; done))) _) | (with_reducible refine Below.trans ?_ (Below.mono (by with_reducible assumption) (by (first | omega | (show _ < _; omega) | (simp; omega) | (simp; done))))) | (with_reducible refine below_grown ?_ (by with_reducible assumption) (by (first | omega | (show _ < _; omega) | (simp; omega) | (simp; done))) (by (first | omega | (show _ < _; omega) | (simp; omega) | (simp; done))))))⟩
  go_wp2_with fail
  refine (HL1.out (by trivial) _).mono ?_
  rintro e w1 ⟨v1, r1, rfl, ho1, hs1, hb1⟩
  have hsz1 := hb1.size
  simp at hsz1
  obtain ⟨hc1, hf1⟩ := bcell hb1
  have k1 := fun o => hc1 w.heap.size o (by simp)
  have j1 := fun o => hf1 w.heap.size o (by simp)
  have HP1 : Hid (Pr w1 (w.heap.size + 1) v1) := Lib.hid (Pr.of_sm ho1 hs1 (by simp))
  have HB1 : Hid (Below w.heap.size w w1) := Lib.hid (by (repeat (first | (with_reducible exact Below.refl _ _) | (with_reducible assumption) | (with_reducible refine below_drewN ?_ _) | (with_reducible refine Below.drew ?_) | (with_reducible refine Below.alloc ?_ (by (first | omega | (show _ < _; omega) | (simp; omega) | (simp; done))) _) | (with_reducible refine Below.setCell ?_ (by (first | omega | (show _ < _; omega) | (simp; omega) | (simp; done))) _) | (with_reducible refine Below.trans ?_ (Below.mono (by with_reducible assumption) (by (first | omega | (show _ < _; omega) | (simp; omega) | (simp; done))))) | (with_reducible refine below_grown ?_ (by with_reducible assumption) (by (first | omega | (show _ < _; omega) | (simp; omega) | (simp; done))) (by (first | omega | (show _ < _; omega) | (simp; omega) | (simp; done)))))))
  clear hc1 hf1 ho1 hs1 hb1
  go_wp2_with fail
  refine (HL2.out (by trivial) _).mono ?_
  rintro e w2 ⟨v2, r2, rfl, ho2, hs2, hb2⟩
  have hsz2 := hb2.size
  obtain ⟨hc2, hf2⟩ := bcell hb2
  have k2 := fun o => hc2 w.heap.size o (by omega)
  have j2 := fun o => hf2 w.heap.size o (by omega)
  have HP2 : Hid (Pr w2 (w.heap.size + 1) v2) := Lib.hid (Pr.of_sm ho2 hs2 (by omega))
  have HP12 := Lib.hid (HP1.out.below hb2 (Nat.le_refl _))
  have HB2 := Lib.hid (HB1.out.trans (hb2.mono HB1.out.size))
  obtain ⟨A1, n1, c1, z1, rfl, _, _, hM1, hZ1⟩ := HP12.out.mat
  obtain ⟨A2, n2, c2, z2, rfl, _, _, hM2, hZ2⟩ := HP2.out.mat
  have HS := Lib.hid (fun (W : World) (hb : Below w2.heap.size w2 W) => specSafe_any A1 n1 c1 z1 A2 n2 c2 z2 W ((hM1.below hb).more hb.size) ((hM2.below hb).more hb.size) hZ1 hZ2)
  clear hc2 hf2 ho2 hs2 hb2 hM1 hM2 hZ1 hZ2 HP1 HB1
  go_wp2_with fail
  refine (HS.out _ (by (repeat (first | (with_reducible exact Below.refl _ _) | (with_reducible assumption) | (with_reducible refine below_drewN ?_ _) | (with_reducible refine Below.drew ?_) | (with_reducible refine Below.alloc ?_ (by (first | omega | (show _ < _; omega) | (simp; omega) | (simp; done))) _) | (with_reducible refine Below.setCell ?_ (by (first | omega | (show _ < _; omega) | (simp; omega) | (simp; done))) _) | (with_reducible refine Below.trans ?_ (Below.mono (by with_reducible assumption) (by (first | omega | (show _ < _; omega) | (simp; omega) | (simp; done))))) | (with_reducible refine below_grown ?_ (by with_reducible assumption) (by (first | omega | (show _ < _; omega) | (simp; omega) | (simp; done))) (by (first | omega | (show _ < _; omega) | (simp; omega) | (simp; done)))))))).mono ?_
  rintro e w3 ⟨rfl, hb3⟩
  have hsz3 := hb3.size
  simp at hsz3
  obtain ⟨hc3, hf3⟩ := bcell hb3
  have k3 := fun o => (hc3 w.heap.size o (by simp; omega)).trans (World.cell?_alloc_lt w2 _ ⟨w.heap.size, o, none⟩ (by show w.heap.size < w2.heap.size; omega))
  have j3 := fun o => (hf3 w.heap.size o (by simp; omega)).trans (World.frozen?_of_block (Below.heap_alloc w2 _ w.heap.size (by omega)))
  have l3 := fun o => hc3 w2.heap.size o (by simp)
  have hb23 : Below w2.heap.size w2 w3 := by (repeat (first | (with_reducible exact Below.refl _ _) | (with_reducible assumption) | (with_reducible refine below_drewN ?_ _) | (with_reducible refine Below.drew ?_) | (with_reducible refine Below.alloc ?_ (by (first | omega | (show _ < _; omega) | (simp; omega) | (simp; done))) _) | (with_reducible refine Below.setCell ?_ (by (first | omega | (show _ < _; omega) | (simp; omega) | (simp; done))) _) | (with_reducible refine Below.trans ?_ (Below.mono (by with_reducible assumption) (by (first | omega | (show _ < _; omega) | (simp; omega) | (simp; done))))) | (with_reducible refine below_grown ?_ (by with_reducible assumption) (by (first | omega | (show _ < _; omega) | (simp; omega) | (simp; done))) (by (first | omega | (show _ < _; omega) | (simp; omega) | (simp; done))))))
  have HP13 := Lib.hid (HP12.out.below hb23 (Nat.le_refl _))
  have HP23 := Lib.hid (HP2.out.below hb23 (Nat.le_refl _))
  have HB3 := Lib.hid (HB2.out.trans (hb23.mono HB2.out.size))
  clear hc3 hf3 hb3 hb23
  generalize safeB z1 z2 n1 n2 = s
  cases s
  · go_wp2_with fail
    refine bodyPost_ret (by simp only [results, Tryz.results21]; go_simp; try rfl) rfl ?_
    have HBo := HB3.out
    exact ⟨_, _, false, rfl, Pr.nil _ _, Pr.nil _ _, by (repeat (first | (with_reducible exact Below.refl _ _) | (with_reducible assumption) | (with_reducible refine below_drewN ?_ _) | (with_reducible refine Below.drew ?_) | (with_reducible refine Below.alloc ?_ (by (first | omega | (show _ < _; omega) | (simp; omega) | (simp; done))) _) | (with_reducible refine Below.setCell ?_ (by (first | omega | (show _ < _; omega) | (simp; omega) | (simp; done))) _) | (with_reducible refine Below.trans ?_ (Below.mono (by with_reducible assumption) (by (first | omega | (show _ < _; omega) | (simp; omega) | (simp; done))))) | (with_reducible refine below_grown ?_ (by with_reducible assumption) (by (first | omega | (show _ < _; omega) | (simp; omega) | (simp; done))) (by (first | omega | (show _ < _; omega) | (simp; omega) | (simp; done))))))⟩
  · go_wp2_with fail
    refine bodyPost_ret (by simp only [results, Tryz.results21]; go_simp; try rfl) rfl ?_
    have HBo := HB3.out
    exact ⟨_, _, true, rfl, ((HP13.out.set (by omega) _ _).set (by omega) _ _).less (by omega), ((HP23.out.set (by omega) _ _).set (by omega) _ _).less (by omega), by (repeat (first | (with_reducible exact Below.refl _ _) | (with_reducible assumption) | (with_reducible refine below_drewN ?_ _) | (with_reducible refine Below.drew ?_) | (with_reducible refine Below.alloc ?_ (by (first | omega | (show _ < _; omega) | (simp; omega) | (simp; done))) _) | (with_reducible refine Below.setCell ?_ (by (first | omega | (show _ < _; omega) | (simp; omega) | (simp; done))) _) | (with_reducible refine Below.trans ?_ (Below.mono (by with_reducible assumption) (by (first | omega | (show _ < _; omega) | (simp; omega) | (simp; done))))) | (with_reducible refine below_grown ?_ (by with_reducible assumption) (by (first | omega | (show _ < _; omega) | (simp; omega) | (simp; done))) (by (first | omega | (show _ < _; omega) | (simp; omega) | (simp; done))))))⟩
end Go.Proofs.YtafhpbghogdipaaGreatDoor

/- The draws of FnConfigSafe: l91Config, DrawConfigSafe. -/
namespace Go.Proofs.YtafhpbghogdipaaGreatDoor
open Go.RowKit
set_option maxHeartbeats 8000000
set_option maxRecDepth 100000
set_option linter.unusedVariables false
set_option linter.unusedSimpArgs false

/-- A configuration is drawn. -/
def CoRes (R : Nat) (w : World) (e : Ending) (w' : World) : Prop := (∃ v1 v2, e = .returned (.agg #[v1, v2]) ∧ Pr w' w.heap.size v1 ∧ Pr w' w.heap.size v2) ∧ w.grownBy w' (some R)
theorem l91Config_any (R : Nat) {B : Nat} (q : Int) (w : World) (hR : Rdr w R B q) (hq : q ≤ 1000) : Calls Tryz.prog 8 #[.pointer (some ⟨R, 0, none⟩)] w (CoRes R w) := by
  have hlt := hR.lt
  have HR := Lib.hid hR
  clear hR
  go_enter Tryz.func8, Tryz.ntmps8
  go_wp2_with fail
  refine (l91Pair_any R q _ (HR.out.alloc _) (by omega)).mono ?_
  rintro e w1 ⟨v1, v2, rfl, hp1, hp2, ⟨q1, hq1, hrd1⟩, hg1⟩
  have hs1 := hg1.size
  simp at hs1
  have hH1 := (hg1.block w.heap.size (by simp) (by simp; omega)).trans (heap_alloc_new w _)
  have HG1 := Lib.hid (grown_trans (grown_alloc (World.grownBy.refl w (some R)) _) hg1)
  have HP1 : Hid (Pr w1 (w.heap.size + 1) v1) := Lib.hid (hp1.less (by simp))
  have HP2 : Hid (Pr w1 (w.heap.size + 1) v2) := Lib.hid (hp2.less (by simp))
  obtain ⟨A1, n1, c1, z1, rfl, _, _, hM1, hZ1⟩ := HP1.out.mat
  obtain ⟨A2, n2, c2, z2, rfl, _, _, _, _⟩ := HP2.out.mat
  have HF := Lib.hid (specFamily_any A1 n1 c1 z1 w1 hM1 hZ1)
  have hn1 := hZ1.1
  clear hp1 hp2 hg1 hM1 hZ1
  go_wp2_with fail
  refine HF.out.mono ?_
  rintro e w2 ⟨rfl, m, hw2⟩
  have hb2 : Below w1.heap.size w1 w2 := by rw [hw2]; exact below_drewN (Below.refl _ _) m
  have hH2 := (hb2.block w.heap.size (by omega)).trans hH1
  have hrd2 := Rdr.keepB hb2 hrd1
  have HG2 := grown_below HG1.out hb2 HG1.out.size
  have HP12 := Lib.hid (HP1.out.below hb2 (Nat.le_refl _))
  have HP22 := Lib.hid (HP2.out.below hb2 (Nat.le_refl _))
  have hs2 := hb2.size
  clear hw2 hb2 hrd1 hH1
  generalize famB z1 = p
  cases p
  · -- an invalid family
    have hlW := hrd2.lt
    have hsW := HG2.size
    go_wp2_with fail
    (apply Calls.mono; focus (apply of_any (lo := 8) (hi := 8) (n := 2) R _ _ (Rdr.alloc hrd2 _); (focus omega); (focus (exact heap_alloc_new _ _)); (focus omega); (focus (exact ⟨rfl, fun k hk => match k, hk with | 0, _ => ⟨_, rfl, by decide, by decide⟩ | 1, _ => ⟨_, rfl, by decide, by decide⟩⟩)); (focus omega); omega))
    rintro e w4 ⟨s, rfl, hs4, hrd4, hg4⟩
    have hs4' := hg4.size
    simp at hs4'
    have hH4 := (hg4.block w.heap.size (by simp; omega) (by simp; omega)).trans ((Below.heap_alloc w2 _ w.heap.size (by omega)).trans hH2)
    have HG4 := Lib.hid (grown_trans (grown_alloc HG2 _) hg4)
    clear hg4 hrd4
    go_wp2_with fail
    refine (configOfExprs_any _ s (by decide) (by omega) _).mono ?_
    rintro e w5 ⟨v5, v6, ok, rfl, hp5, hp6, hb5⟩
    have hs5 := hb5.size
    have hH5 := (hb5.block w.heap.size (by omega)).trans hH4
    have HG5 := Lib.hid (grown_below HG4.out hb5 HG4.out.size)
    obtain ⟨A5, n5, c5, z5, rfl, _, _, _, _⟩ := hp5.mat
    obtain ⟨A6, n6, c6, z6, rfl, _, _, _, _⟩ := hp6.mat
    have HP5 := Lib.hid hp5
    have HP6 := Lib.hid hp6
    have x0 : w5.cell? ⟨w.heap.size, 0, none⟩ = some (.slice none 0 0) := by simp [World.cell?, hH5]
    have x1 : w5.cell? ⟨w.heap.size, 1, none⟩ = some (.slice none 0 0) := by simp [World.cell?, hH5]
    have y0 : w5.frozen? ⟨w.heap.size, 0, none⟩ = false := by simp [World.frozen?, hH5]
    have y1 : w5.frozen? ⟨w.heap.size, 1, none⟩ = false := by simp [World.frozen?, hH5]
    have x0' := fun o => (World.cell?_alloc_lt w5 o ⟨w.heap.size, 0, none⟩ (by show w.heap.size < w5.heap.size; omega)).trans x0
    have x1' := fun o => (World.cell?_alloc_lt w5 o ⟨w.heap.size, 1, none⟩ (by show w.heap.size < w5.heap.size; omega)).trans x1
    have y0' := fun (o : Obj) => (World.frozen?_of_block (a := ⟨w.heap.size, 0, none⟩) (Below.heap_alloc w5 o w.heap.size (by omega))).trans y0
    have y1' := fun (o : Obj) => (World.frozen?_of_block (a := ⟨w.heap.size, 1, none⟩) (Below.heap_alloc w5 o w.heap.size (by omega))).trans y1
    clear hp5 hp6 hb5 hH4 hH5
    go_wp2_with fail
    refine bodyPost_ret (by simp only [results, Tryz.results8]; go_simp; try rfl) rfl ?_
    exact ⟨⟨_, _, rfl, (((HP5.out.alloc _).set (by omega) _ _).set (by omega) _ _).less (by omega), (((HP6.out.alloc _).set (by omega) _ _).set (by omega) _ _).less (by omega)⟩, grown_setCell (grown_setCell (grown_alloc HG5.out _) (.inr (Nat.le_refl _)) _) (.inr (Nat.le_refl _)) _⟩
  by_cases hn0 : n1 = 0
  · subst hn0
    have hlW := hrd2.lt
    have hsW := HG2.size
    go_wp2_with fail
    (apply Calls.mono; focus (apply of_any (lo := 8) (hi := 8) (n := 2) R _ _ (Rdr.alloc hrd2 _); (focus omega); (focus (exact heap_alloc_new _ _)); (focus omega); (focus (exact ⟨rfl, fun k hk => match k, hk with | 0, _ => ⟨_, rfl, by decide, by decide⟩ | 1, _ => ⟨_, rfl, by decide, by decide⟩⟩)); (focus omega); omega))
    rintro e w4 ⟨s, rfl, hs4, hrd4, hg4⟩
    have hs4' := hg4.size
    simp at hs4'
    have hH4 := (hg4.block w.heap.size (by simp; omega) (by simp; omega)).trans ((Below.heap_alloc w2 _ w.heap.size (by omega)).trans hH2)
    have HG4 := Lib.hid (grown_trans (grown_alloc HG2 _) hg4)
    clear hg4 hrd4
    go_wp2_with fail
    refine (configOfExprs_any _ s (by decide) (by omega) _).mono ?_
    rintro e w5 ⟨v5, v6, ok, rfl, hp5, hp6, hb5⟩
    have hs5 := hb5.size
    have hH5 := (hb5.block w.heap.size (by omega)).trans hH4
    have HG5 := Lib.hid (grown_below HG4.out hb5 HG4.out.size)
    obtain ⟨A5, n5, c5, z5, rfl, _, _, _, _⟩ := hp5.mat
    obtain ⟨A6, n6, c6, z6, rfl, _, _, _, _⟩ := hp6.mat
    have HP5 := Lib.hid hp5
    have HP6 := Lib.hid hp6
    have x0 : w5.cell? ⟨w.heap.size, 0, none⟩ = some (.slice none 0 0) := by simp [World.cell?, hH5]
    have x1 : w5.cell? ⟨w.heap.size, 1, none⟩ = some (.slice none 0 0) := by simp [World.cell?, hH5]
    have y0 : w5.frozen? ⟨w.heap.size, 0, none⟩ = false := by simp [World.frozen?, hH5]
    have y1 : w5.frozen? ⟨w.heap.size, 1, none⟩ = false := by simp [World.frozen?, hH5]
    have x0' := fun o => (World.cell?_alloc_lt w5 o ⟨w.heap.size, 0, none⟩ (by show w.heap.size < w5.heap.size; omega)).trans x0
    have x1' := fun o => (World.cell?_alloc_lt w5 o ⟨w.heap.size, 1, none⟩ (by show w.heap.size < w5.heap.size; omega)).trans x1
    have y0' := fun (o : Obj) => (World.frozen?_of_block (a := ⟨w.heap.size, 0, none⟩) (Below.heap_alloc w5 o w.heap.size (by omega))).trans y0
    have y1' := fun (o : Obj) => (World.frozen?_of_block (a := ⟨w.heap.size, 1, none⟩) (Below.heap_alloc w5 o w.heap.size (by omega))).trans y1
    clear hp5 hp6 hb5 hH4 hH5
    go_wp2_with fail
    refine bodyPost_ret (by simp only [results, Tryz.results8]; go_simp; try rfl) rfl ?_
    exact ⟨⟨_, _, rfl, (((HP5.out.alloc _).set (by omega) _ _).set (by omega) _ _).less (by omega), (((HP6.out.alloc _).set (by omega) _ _).set (by omega) _ _).less (by omega)⟩, grown_setCell (grown_setCell (grown_alloc HG5.out _) (.inr (Nat.le_refl _)) _) (.inr (Nat.le_refl _)) _⟩
  have e1 : (((n1 : Nat) : Int) == 0) = false := by simp; omega
  go_wp2_with fail
  (apply Calls.mono; focus (apply pick_abs; (focus (repeat (first | (with_reducible assumption) | (with_reducible apply Rdr.drewN) | (with_reducible apply Rdr.drew) | (with_reducible apply Rdr.alloc) | (with_reducible apply Rdr.next) | (with_reducible apply Rdr.keepB; with_reducible assumption) | (with_reducible apply Rdr.setCell; (first | omega | (show _ < _; omega) | (simp; omega) | (simp; done))) | (with_reducible apply Rdr.setLow; (first | omega | (show _ < _; omega) | (simp; omega) | (simp; done)); (first | omega | (show _ < _ ∨ _ < _; omega) | (simp; omega)))))); omega)); rintro e w3 ⟨x, rfl, hx0, hx1, hrd3, hsz3, hcp3, hfp3, hgp3⟩
  have hH3 := (hgp3.block w.heap.size (by omega) (by simp; omega)).trans hH2
  have HG3 := grown_trans HG2 hgp3
  have HP13 := Lib.hid (HP12.out.grown hgp3 (by omega))
  have HP23 := Lib.hid (HP22.out.grown hgp3 (by omega))
  have hs3 := hgp3.size
  clear hcp3 hfp3 hgp3 hH2 hrd2 hsz3
  by_cases hx : x = 0
  · subst hx
    have hlW := hrd3.lt
    have hsW := HG3.size
    go_wp2_with fail
    (apply Calls.mono; focus (apply of_any (lo := 8) (hi := 8) (n := 2) R _ _ (Rdr.alloc hrd3 _); (focus omega); (focus (exact heap_alloc_new _ _)); (focus omega); (focus (exact ⟨rfl, fun k hk => match k, hk with | 0, _ => ⟨_, rfl, by decide, by decide⟩ | 1, _ => ⟨_, rfl, by decide, by decide⟩⟩)); (focus omega); omega))
    rintro e w4 ⟨s, rfl, hs4, hrd4, hg4⟩
    have hs4' := hg4.size
    simp at hs4'
    have hH4 := (hg4.block w.heap.size (by simp; omega) (by simp; omega)).trans ((Below.heap_alloc w3 _ w.heap.size (by omega)).trans hH3)
    have HG4 := Lib.hid (grown_trans (grown_alloc HG3 _) hg4)
    clear hg4 hrd4
    go_wp2_with fail
    refine (configOfExprs_any _ s (by decide) (by omega) _).mono ?_
    rintro e w5 ⟨v5, v6, ok, rfl, hp5, hp6, hb5⟩
    have hs5 := hb5.size
    have hH5 := (hb5.block w.heap.size (by omega)).trans hH4
    have HG5 := Lib.hid (grown_below HG4.out hb5 HG4.out.size)
    obtain ⟨A5, n5, c5, z5, rfl, _, _, _, _⟩ := hp5.mat
    obtain ⟨A6, n6, c6, z6, rfl, _, _, _, _⟩ := hp6.mat
    have HP5 := Lib.hid hp5
    have HP6 := Lib.hid hp6
    have x0 : w5.cell? ⟨w.heap.size, 0, none⟩ = some (.slice none 0 0) := by simp [World.cell?, hH5]
    have x1 : w5.cell? ⟨w.heap.size, 1, none⟩ = some (.slice none 0 0) := by simp [World.cell?, hH5]
    have y0 : w5.frozen? ⟨w.heap.size, 0, none⟩ = false := by simp [World.frozen?, hH5]
    have y1 : w5.frozen? ⟨w.heap.size, 1, none⟩ = false := by simp [World.frozen?, hH5]
    have x0' := fun o => (World.cell?_alloc_lt w5 o ⟨w.heap.size, 0, none⟩ (by show w.heap.size < w5.heap.size; omega)).trans x0
    have x1' := fun o => (World.cell?_alloc_lt w5 o ⟨w.heap.size, 1, none⟩ (by show w.heap.size < w5.heap.size; omega)).trans x1
    have y0' := fun (o : Obj) => (World.frozen?_of_block (a := ⟨w.heap.size, 0, none⟩) (Below.heap_alloc w5 o w.heap.size (by omega))).trans y0
    have y1' := fun (o : Obj) => (World.frozen?_of_block (a := ⟨w.heap.size, 1, none⟩) (Below.heap_alloc w5 o w.heap.size (by omega))).trans y1
    clear hp5 hp6 hb5 hH4 hH5
    go_wp2_with fail
    refine bodyPost_ret (by simp only [results, Tryz.results8]; go_simp; try rfl) rfl ?_
    exact ⟨⟨_, _, rfl, (((HP5.out.alloc _).set (by omega) _ _).set (by omega) _ _).less (by omega), (((HP6.out.alloc _).set (by omega) _ _).set (by omega) _ _).less (by omega)⟩, grown_setCell (grown_setCell (grown_alloc HG5.out _) (.inr (Nat.le_refl _)) _) (.inr (Nat.le_refl _)) _⟩
  · have ex : (x == 0) = false := by simp; omega
    have x0 : w3.cell? ⟨w.heap.size, 0, none⟩ = some (.slice none 0 0) := by simp [World.cell?, hH3]
    have x1 : w3.cell? ⟨w.heap.size, 1, none⟩ = some (.slice none 0 0) := by simp [World.cell?, hH3]
    have y0 : w3.frozen? ⟨w.heap.size, 0, none⟩ = false := by simp [World.frozen?, hH3]
    have y1 : w3.frozen? ⟨w.heap.size, 1, none⟩ = false := by simp [World.frozen?, hH3]
    clear hH3
    go_wp2_with fail
    refine bodyPost_ret (by simp only [results, Tryz.results8]; go_simp; try rfl) rfl ?_
    refine ⟨⟨_, _, rfl, ?_, ?_⟩, ?_⟩
    · exact ((HP13.out.set (by omega) _ _).set (by omega) _ _).less (by omega)
    · exact ((HP23.out.set (by omega) _ _).set (by omega) _ _).less (by omega)
    · exact grown_setCell (grown_setCell HG3 (.inr (Nat.le_refl w.heap.size)) _) (.inr (Nat.le_refl w.heap.size)) _
/-- DrawConfigSafe. -/
def DwRes (w : World) (e : Ending) (w' : World) : Prop := (∃ v1 v2, e = .returned (.agg #[v1, v2]) ∧ Pr w' w.heap.size v1 ∧ Pr w' w.heap.size v2) ∧ Below w.heap.size w w'
theorem drawConfigSafe_any (A : Option Addr) (n c : Nat) (zs0 : List Int) (w : World) (h : Ints .u8 w A n c zs0) : Calls Tryz.prog 4 #[.slice A n c] w (DwRes w) := by
  go_enter Tryz.func4, Tryz.ntmps4
  go_wp2_with fail
  refine (l6Open_any A n c zs0 _ _ h (by (repeat (first | (with_reducible exact Below.refl _ _) | (with_reducible assumption) | (with_reducible refine below_drewN ?_ _) | (with_reducible refine Below.drew ?_) | (with_reducible refine Below.alloc ?_ (by (first | omega | (show _ < _; omega) | (simp; omega) | (simp; done))) _) | (with_reducible refine Below.setCell ?_ (by (first | omega | (show _ < _; omega) | (simp; omega) | (simp; done))) _) | (with_reducible refine Below.trans ?_ (Below.mono (by with_reducible assumption) (by (first | omega | (show _ < _; omega) | (simp; omega) | (simp; done))))) | (with_reducible refine below_grown ?_ (by with_reducible assumption) (by (first | omega | (show _ < _; omega) | (simp; omega) | (simp; done))) (by (first | omega | (show _ < _; omega) | (simp; omega) | (simp; done)))))))).mono ?_
  rintro e w1 ⟨rfl, n', c', hw1, hrd⟩
  simp only [World.size_alloc] at hrd
  have hH1 : w1.heap[w.heap.size]? = some (.cells #[.slice none 0 0, .slice none 0 0] 25 (0, 0)) := by
    rw [hw1]
    exact (Below.heap_alloc _ _ _ (by simp)).trans (heap_alloc_new w _)
  have hb1 : Below w.heap.size w w1 := by rw [hw1]; exact ((Below.refl w.heap.size w).alloc (Nat.le_refl _) _).alloc (by simp) _
  have hs1 : w.heap.size + 2 ≤ w1.heap.size := by rw [hw1]; simp
  clear hw1
  go_wp2_with fail
  refine (l91Config_any _ 0 _ hrd (by omega)).mono ?_
  rintro e w2 ⟨⟨v1, v2, rfl, hp1, hp2⟩, hg2⟩
  have hH2 := (hg2.block w.heap.size (by omega) (by simp)).trans hH1
  have hb2 : Below w.heap.size w w2 := below_grown hb1 hg2 (by omega) (by simp)
  have HP1 := Lib.hid hp1
  have HP2 := Lib.hid hp2
  obtain ⟨A1, n1, c1, z1, rfl, _, _, _, _⟩ := hp1.mat
  obtain ⟨A2, n2, c2, z2, rfl, _, _, _, _⟩ := hp2.mat
  have x0 : w2.cell? ⟨w.heap.size, 0, none⟩ = some (.slice none 0 0) := by simp [World.cell?, hH2]
  have x1 : w2.cell? ⟨w.heap.size, 1, none⟩ = some (.slice none 0 0) := by simp [World.cell?, hH2]
  have y0 : w2.frozen? ⟨w.heap.size, 0, none⟩ = false := by simp [World.frozen?, hH2]
  have y1 : w2.frozen? ⟨w.heap.size, 1, none⟩ = false := by simp [World.frozen?, hH2]
  clear hg2 hH1 hH2 hp1 hp2 hrd hb1
  go_wp2_with fail
  refine bodyPost_ret (by simp only [results, Tryz.results4]; go_simp; try rfl) rfl ?_
  exact ⟨⟨_, _, rfl, ((HP1.out.set (by omega) _ _).set (by omega) _ _).less (by omega), ((HP2.out.set (by omega) _ _).set (by omega) _ _).less (by omega)⟩, by (repeat (first | (with_reducible exact Below.refl _ _) | (with_reducible assumption) | (with_reducible refine below_drewN ?_ _) | (with_reducible refine Below.drew ?_) | (with_reducible refine Below.alloc ?_ (by (first | omega | (show _ < _; omega) | (simp; omega) | (simp; done))) _) | (with_reducible refine Below.setCell ?_ (by (first | omega | (show _ < _; omega) | (simp; omega) | (simp; done))) _) | (with_reducible refine Below.trans ?_ (Below.mono (by with_reducible assumption) (by (first | omega | (show _ < _; omega) | (simp; omega) | (simp; done))))) | (with_reducible refine below_grown ?_ (by with_reducible assumption) (by (first | omega | (show _ < _; omega) | (simp; omega) | (simp; done))) (by (first | omega | (show _ < _; omega) | (simp; omega) | (simp; done))))))⟩
end Go.Proofs.YtafhpbghogdipaaGreatDoor

/- FnConfigSafe: the lone parts. -/
namespace Go.Proofs.YtafhpbghogdipaaGreatDoor
open Go.RowKit
set_option maxHeartbeats 8000000
set_option maxRecDepth 100000
set_option linter.unusedVariables false
set_option linter.unusedSimpArgs false

/-- The law's own memory, behind its draw. -/
structure LsSt (A1 : Option Addr) (n1 c1 : Nat) (z1 : List (List Int)) (A2 : Option Addr) (n2 c2 : Nat) (z2 : List (List Int)) (b3 : Nat) (w : World) : Prop where
  x0 : w.cell? ⟨b3, 0, none⟩ = some (.slice A1 n1 c1)
  x1 : w.cell? ⟨b3, 1, none⟩ = some (.slice A2 n2 c2)
  C1 : AM w A1 n1 c1 z1
  C2 : AM w A2 n2 c2 z2
theorem LsSt.bel {A1 : Option Addr} {n1 c1 : Nat} {z1 : List (List Int)} {A2 : Option Addr} {n2 c2 : Nat} {z2 : List (List Int)} {b3 : Nat} {w w' : World} (h : LsSt A1 n1 c1 z1 A2 n2 c2 z2 b3 w) (hb : Bel w.heap.size w w') : LsSt A1 n1 c1 z1 A2 n2 c2 z2 b3 w' :=
  ⟨cell_bel hb h.x0, cell_bel hb h.x1, h.C1.bel hb, h.C2.bel hb⟩
theorem LsSt.tp {A1 : Option Addr} {n1 c1 : Nat} {z1 : List (List Int)} {A2 : Option Addr} {n2 c2 : Nat} {z2 : List (List Int)} {b3 : Nat} {w : World} (h : LsSt A1 n1 c1 z1 A2 n2 c2 z2 b3 w) (T : Nat → Question → Nat) (d : Nat) : LsSt A1 n1 c1 z1 A2 n2 c2 z2 b3 (tp w T d) := h.bel ((Bel.refl w.heap.size w).tp T d)
/-- The law stands ahead of its first call. -/
def QAL (A : Option Addr) (n c : Nat) (w0 : World) (a : Act) (w : World) : Prop :=
  ∃ (d5 d6 d7 d8 d9 : Value) (b3 : Nat) (A1 : Option Addr) (n1 c1 : Nat) (z1 : List (List Int)) (A2 : Option Addr) (n2 c2 : Nat) (z2 : List (List Int)), a = ⟨#[.slice A n c, undef, .bool false, .pointer (some ⟨b3, 0, none⟩), undef, d5, d6, d7, d8, d9, undef, undef, undef, undef, undef, undef, undef, undef, undef, undef, undef, undef, undef, undef, undef, undef, undef, undef, undef, undef, undef, undef, undef, undef, undef], []⟩ ∧ LsSt A1 n1 c1 z1 A2 n2 c2 z2 b3 w ∧ Bel w0.heap.size w0 w
/-- It is about to answer 'true'. -/
def QRL (w0 : World) (a : Act) (w : World) : Prop := a.defers = [] ∧ a.tmps.getD 2 undef = .bool true ∧ Bel w0.heap.size w0 w
/-- It stands at a place, its temporaries known. -/
def QBL (a0 : Act) (w0 : World) (a : Act) (w : World) : Prop := a = a0 ∧ Bel w0.heap.size w0 w
theorem QAL.tp {A : Option Addr} {n c : Nat} {w0 : World} (a : Act) (w : World) (T : Nat → Question → Nat) (d : Nat) (h : QAL A n c w0 a w) : QAL A n c w0 a (tp w T d) := by
  obtain ⟨d5, d6, d7, d8, d9, b3, A1, n1, c1, z1, A2, n2, c2, z2, e, h1, h2⟩ := h
  exact ⟨d5, d6, d7, d8, d9, b3, A1, n1, c1, z1, A2, n2, c2, z2, e, h1.tp T d, h2.tp T d⟩
theorem QRL.tp {w0 : World} (a : Act) (w : World) (T : Nat → Question → Nat) (d : Nat) (h : QRL w0 a w) : QRL w0 a (tp w T d) := ⟨h.1, h.2.1, h.2.2.tp T d⟩
theorem QBL.tp {a0 : Act} {w0 : World} (a : Act) (w : World) (T : Nat → Question → Nat) (d : Nat) (h : QBL a0 w0 a w) : QBL a0 w0 a (tp w T d) := ⟨h.1, h.2.tp T d⟩
theorem ints_tp {w : World} {A : Option Addr} {n c : Nat} {zs : List Int} {T : Nat → Question → Nat} {d : Nat} (h : Ints .u8 w A n c zs) : Ints .u8 (tp w T d) A n c zs := ⟨row_tp h.row, h.len, h.cap, h.max, h.fit⟩
theorem ints_psn {W : World} {A : Option Addr} {n c : Nat} {zs : List Int} (h : Ints .u8 W A n c zs) : Ints .u8 (psn (Dd (fun _ => False) W) W) A n c zs := ⟨by rw [psn_size]; exact row_psn h.row, h.len, h.cap, h.max, h.fit⟩
theorem safe_meet (z1 z2 : List (List Int)) (n1 n2 : Nat) : safeB z1 z2 n1 n2 = (meetB z1 z2 n1 n2 && decide (0 < n1) && decide (0 < n2)) := by
  unfold safeB meetB
  cases famB z1 <;> cases famB z2 <;> cases decide (0 < n1) <;> cases decide (0 < n2) <;> simp

noncomputable def ZLA : Code := tailN 2 (bodyOf 3)
noncomputable def ZLB : Code := restOf ZLA
noncomputable def CLB : Code := match ZLB with | .seq c _ => c | _ => .skip
noncomputable def ZLC : Code := restOf ZLB
noncomputable def opsL : Array Oper := opsOf ZLC
noncomputable def RLC : Code := restOf ZLC
theorem plainLA : plainCode SP (headN 2 (bodyOf 3)) = true := by kernel_rfl
theorem graftLA : graft (headN 2 (bodyOf 3)) (tailN 2 (bodyOf 3)) = bodyOf 3 := by kernel_rfl
theorem plainLB : plainCode SP CLB = true := by kernel_rfl
theorem plainLC : plainCode SP RLC = true := by kernel_rfl
theorem plainLO : ([6, 7, 8, 9, 10, 11, 12, 13, 14, 15, 16, 17, 18, 19].all fun i => ((opsL[i]?).map fun o => plainOp SP o.op).getD true) = true := by kernel_rfl
/-- The law's draw. -/
theorem lawAL (A : Option Addr) (n c : Nat) (zs0 : List Int) (w : World) (h : Ints .u8 w A n c zs0) :
    (headN 2 (bodyOf 3)).wp Tryz.prog (QQ (QAL A n c w) (QRL w)) ⟨#[.slice A n c] ++ Array.replicate (35 - 1) undef, []⟩ w := by
  obtain ⟨Q, hQ⟩ : ∃ Q, Q = QQ (QAL A n c w) (QRL w) := ⟨_, rfl⟩
  rw [← hQ]
  have HQ := Lib.hid hQ
  clear hQ
  have hmx := h.max
  unfold maxLen at hmx
  have HD := Lib.hid (drawConfigSafe_any A n c zs0 w h)
  clear h
  simp only [bodyOf, Tryz.func3, Tryz.f3, headN, Option.bind_some, Option.getD_some, Array.replicate, List.replicate, List.append_toArray, List.cons_append, List.nil_append, Nat.reduceSub]
  by_cases hl : 1048576 < n
  · go_wp2
    rw [HQ.out]
    exact .inr ⟨rfl, rfl, rfl, Bel.refl _ _⟩
  go_wp2_with fail
  refine HD.out.mono ?_
  rintro e w1 ⟨⟨v1, v2, rfl, hp1, hp2⟩, hb1⟩
  obtain ⟨A1, n1, c1, z1, rfl, k1, k2, hM1, hZ1⟩ := hp1.mat
  obtain ⟨A2, n2, c2, z2, rfl, k3, k4, hM2, hZ2⟩ := hp2.mat
  have HC1 : Hid (AM w1 A1 n1 c1 z1) := Lib.hid ⟨⟨hM1, k1, k2⟩, hZ1⟩
  have HC2 : Hid (AM w1 A2 n2 c2 z2) := Lib.hid ⟨⟨hM2, k3, k4⟩, hZ2⟩
  have HB1 := Lib.hid hb1
  have hsz := hb1.size
  clear hp1 hp2 k1 k2 k3 k4 hM1 hM2 hZ1 hZ2 hb1
  go_wp2_with fail
  rw [HQ.out]
  have HBo := HB1.out
  refine .inl ⟨rfl, _, _, _, _, _, w1.heap.size, A1, n1, c1, z1, A2, n2, c2, z2, rfl, ⟨?_, ?_, ?_, ?_⟩, Bel.of' (by (repeat (first | (with_reducible exact Below.refl _ _) | (with_reducible assumption) | (with_reducible refine below_drewN ?_ _) | (with_reducible refine Below.drew ?_) | (with_reducible refine Below.alloc ?_ (by (first | omega | (show _ < _; omega) | (simp; omega) | (simp; done))) _) | (with_reducible refine Below.setCell ?_ (by (first | omega | (show _ < _; omega) | (simp; omega) | (simp; done))) _) | (with_reducible refine Below.trans ?_ (Below.mono (by with_reducible assumption) (by (first | omega | (show _ < _; omega) | (simp; omega) | (simp; done))))) | (with_reducible refine below_grown ?_ (by with_reducible assumption) (by (first | omega | (show _ < _; omega) | (simp; omega) | (simp; done))) (by (first | omega | (show _ < _; omega) | (simp; omega) | (simp; done)))))))⟩
  · simp
  · simp
  · exact HC1.out.below ((Below.refl _ _).alloc (Nat.le_refl _) _)
  · exact HC2.out.below ((Below.refl _ _).alloc (Nat.le_refl _) _)
/-- Between the two calls. -/
theorem lawBL (A1 : Option Addr) (n1 c1 : Nat) (z1 : List (List Int)) (A2 : Option Addr) (n2 c2 : Nat) (z2 : List (List Int)) (b3 : Nat) (s : Bool) (y d5 d6 d7 d8 d9 t10 : Value) (w : World) (hS : LsSt A1 n1 c1 z1 A2 n2 c2 z2 b3 w) (hs : safeB z1 z2 n1 n2 = s) :
    CLB.wp Tryz.prog (QQ (QBL ⟨#[y, undef, .bool false, .pointer (some ⟨b3, 0, none⟩), .bool s, d5, d6, d7, d8, d9, t10, .bool s, .bool s, .agg #[.slice A1 n1 c1, .slice A2 n2 c2], .bool s, .bool false, undef, undef, undef, undef, undef, undef, undef, undef, undef, undef, undef, undef, undef, undef, undef, undef, undef, undef, undef], []⟩ w) (fun _ _ => False)) ⟨#[y, undef, .bool false, .pointer (some ⟨b3, 0, none⟩), .bool s, d5, d6, d7, d8, d9, t10, .bool s, undef, undef, undef, undef, undef, undef, undef, undef, undef, undef, undef, undef, undef, undef, undef, undef, undef, undef, undef, undef, undef, undef, undef], []⟩ w := by
  obtain ⟨Q, hQ⟩ : ∃ Q, Q = QQ (QBL ⟨#[y, undef, .bool false, .pointer (some ⟨b3, 0, none⟩), .bool s, d5, d6, d7, d8, d9, t10, .bool s, .bool s, .agg #[.slice A1 n1 c1, .slice A2 n2 c2], .bool s, .bool false, undef, undef, undef, undef, undef, undef, undef, undef, undef, undef, undef, undef, undef, undef, undef, undef, undef, undef, undef], []⟩ w) (fun _ _ => False) := ⟨_, rfl⟩
  rw [← hQ]
  have HQ := Lib.hid hQ
  clear hQ
  have HS := specSafe_any A1 n1 c1 z1 A2 n2 c2 z2 w hS.C1.mat hS.C2.mat hS.C1.ok hS.C2.ok
  rw [hs] at HS
  have HK := Lib.hid HS
  have x0 := hS.x0
  have x1 := hS.x1
  have sq : (s != s) = false := by simp
  clear HS hs hS
  simp only [CLB, ZLB, ZLA, bodyOf, tailN, restOf, Tryz.func3, Tryz.f3, Option.bind_some, Option.getD_some, Array.replicate, List.replicate, List.append_toArray, List.cons_append, List.nil_append, Nat.reduceSub]
  go_wp2_with fail
  refine HK.out.mono ?_
  rintro e w1 ⟨rfl, hb1⟩
  have HB1 := Lib.hid hb1
  clear hb1
  go_wp2_with fail
  rw [HQ.out]
  exact .inl ⟨rfl, rfl, Bel.of' HB1.out⟩
/-- Behind Intersects: the region's rest. -/
theorem lawIL (A1 : Option Addr) (n1 c1 : Nat) (z1 : List (List Int)) (A2 : Option Addr) (n2 c2 : Nat) (z2 : List (List Int)) (b3 : Nat) (s m : Bool) (y d5 d6 d7 d8 d9 t10 t12 t13 t14 t15 t17 t18 t19 t20 : Value) (w : World) (hS : LsSt A1 n1 c1 z1 A2 n2 c2 z2 b3 w) (hsm : s = (m && decide (0 < n1) && decide (0 < n2))) (T : Nat → Question → Nat) :
    wpOps Tryz.prog opsL (QQ (QRL w) (fun _ _ => False)) [6, 7, 8, 9, 10, 11, 12, 13, 14, 15, 16, 17, 18, 19] ⟨#[y, undef, .bool false, .pointer (some ⟨b3, 0, none⟩), .bool s, d5, d6, d7, d8, d9, t10, .bool s, t12, t13, t14, t15, .bool s, t17, t18, t19, t20, .bool m, undef, undef, undef, undef, undef, undef, undef, undef, undef, undef, undef, undef, undef], []⟩ (Go.Proofs.YtafhpbghogdipaaGreatDoor.tp w T 0) := by
  have x0 : (Go.Proofs.YtafhpbghogdipaaGreatDoor.tp w T 0).cell? ⟨b3, 0, none⟩ = some (.slice A1 n1 c1) := hS.x0
  have x1 : (Go.Proofs.YtafhpbghogdipaaGreatDoor.tp w T 0).cell? ⟨b3, 1, none⟩ = some (.slice A2 n2 c2) := hS.x1
  have hbb : ∀ y', Below (Go.Proofs.YtafhpbghogdipaaGreatDoor.tp w T 0).heap.size (Go.Proofs.YtafhpbghogdipaaGreatDoor.tp w T 0) y' → Bel w.heap.size w y' := fun y' h => bel_base (Bel.of' h)
  have hn1 := hS.C1.arg.2
  have hn2 := hS.C2.arg.2
  unfold maxLen at hn1 hn2
  clear hS
  generalize Go.Proofs.YtafhpbghogdipaaGreatDoor.tp w T 0 = yy at x0 x1 hbb ⊢
  obtain ⟨Q, hQ⟩ : ∃ Q, Q = QQ (QRL w) (fun _ _ => False) := ⟨_, rfl⟩
  rw [← hQ]
  have HQ := Lib.hid hQ
  clear hQ
  have e := wpOps_drop (P := Tryz.prog) (ops := opsL) (Q := Q) 6 14 (by kernel_rfl)
  have e2 : List.range' 6 14 = [6, 7, 8, 9, 10, 11, 12, 13, 14, 15, 16, 17, 18, 19] := by decide
  rw [e2] at e
  rw [e]
  clear e e2
  simp only [opsL, ZLC, ZLB, ZLA, opsOf, tailN, restOf, bodyOf, Tryz.func3, Tryz.f3, Option.bind_some, Option.getD_some, Array.replicate, List.replicate, List.append_toArray, List.cons_append, List.nil_append, Nat.reduceSub, List.drop_succ_cons, List.drop_zero]
  cases m
  · have es : s = false := by rw [hsm]; rfl
    subst es
    clear hsm
    go_wp2
    rw [HQ.out]
    exact .inl ⟨rfl, rfl, rfl, hbb _ (by (repeat (first | (with_reducible exact Below.refl _ _) | (with_reducible assumption) | (with_reducible refine below_drewN ?_ _) | (with_reducible refine Below.drew ?_) | (with_reducible refine Below.alloc ?_ (by (first | omega | (show _ < _; omega) | (simp; omega) | (simp; done))) _) | (with_reducible refine Below.setCell ?_ (by (first | omega | (show _ < _; omega) | (simp; omega) | (simp; done))) _) | (with_reducible refine Below.trans ?_ (Below.mono (by with_reducible assumption) (by (first | omega | (show _ < _; omega) | (simp; omega) | (simp; done))))) | (with_reducible refine below_grown ?_ (by with_reducible assumption) (by (first | omega | (show _ < _; omega) | (simp; omega) | (simp; done))) (by (first | omega | (show _ < _; omega) | (simp; omega) | (simp; done)))))))⟩
  by_cases h1 : 0 < n1
  · have f1 : decide ((0 : Int) < (n1 : Int)) = true := by simp; omega
    have f1' : (0 : Int) < (n1 : Int) := by omega
    by_cases h2 : 0 < n2
    · have f2' : (0 : Int) < (n2 : Int) := by omega
      have es : s = true := by rw [hsm]; simp [h1, h2]
      subst es
      clear hsm
      go_wp2
      rw [HQ.out]
      exact .inl ⟨rfl, rfl, rfl, hbb _ (by (repeat (first | (with_reducible exact Below.refl _ _) | (with_reducible assumption) | (with_reducible refine below_drewN ?_ _) | (with_reducible refine Below.drew ?_) | (with_reducible refine Below.alloc ?_ (by (first | omega | (show _ < _; omega) | (simp; omega) | (simp; done))) _) | (with_reducible refine Below.setCell ?_ (by (first | omega | (show _ < _; omega) | (simp; omega) | (simp; done))) _) | (with_reducible refine Below.trans ?_ (Below.mono (by with_reducible assumption) (by (first | omega | (show _ < _; omega) | (simp; omega) | (simp; done))))) | (with_reducible refine below_grown ?_ (by with_reducible assumption) (by (first | omega | (show _ < _; omega) | (simp; omega) | (simp; done))) (by (first | omega | (show _ < _; omega) | (simp; omega) | (simp; done)))))))⟩
    · obtain rfl : n2 = 0 := by omega
      have es : s = false := by rw [hsm]; simp
      subst es
      clear hsm
      go_wp2
      rw [HQ.out]
      exact .inl ⟨rfl, rfl, rfl, hbb _ (by (repeat (first | (with_reducible exact Below.refl _ _) | (with_reducible assumption) | (with_reducible refine below_drewN ?_ _) | (with_reducible refine Below.drew ?_) | (with_reducible refine Below.alloc ?_ (by (first | omega | (show _ < _; omega) | (simp; omega) | (simp; done))) _) | (with_reducible refine Below.setCell ?_ (by (first | omega | (show _ < _; omega) | (simp; omega) | (simp; done))) _) | (with_reducible refine Below.trans ?_ (Below.mono (by with_reducible assumption) (by (first | omega | (show _ < _; omega) | (simp; omega) | (simp; done))))) | (with_reducible refine below_grown ?_ (by with_reducible assumption) (by (first | omega | (show _ < _; omega) | (simp; omega) | (simp; done))) (by (first | omega | (show _ < _; omega) | (simp; omega) | (simp; done)))))))⟩
  · obtain rfl : n1 = 0 := by omega
    have es : s = false := by rw [hsm]; simp
    subst es
    clear hsm
    go_wp2
    rw [HQ.out]
    exact .inl ⟨rfl, rfl, rfl, hbb _ (by (repeat (first | (with_reducible exact Below.refl _ _) | (with_reducible assumption) | (with_reducible refine below_drewN ?_ _) | (with_reducible refine Below.drew ?_) | (with_reducible refine Below.alloc ?_ (by (first | omega | (show _ < _; omega) | (simp; omega) | (simp; done))) _) | (with_reducible refine Below.setCell ?_ (by (first | omega | (show _ < _; omega) | (simp; omega) | (simp; done))) _) | (with_reducible refine Below.trans ?_ (Below.mono (by with_reducible assumption) (by (first | omega | (show _ < _; omega) | (simp; omega) | (simp; done))))) | (with_reducible refine below_grown ?_ (by with_reducible assumption) (by (first | omega | (show _ < _; omega) | (simp; omega) | (simp; done))) (by (first | omega | (show _ < _; omega) | (simp; omega) | (simp; done)))))))⟩
/-- The return. -/
theorem lawRL (a : Act) (w : World) (hd : a.defers = []) (hv : a.tmps.getD 2 undef = .bool true) : RLC.wp Tryz.prog (QQ (fun _ _ => False) (QRL w)) a w := by
  obtain ⟨tmps, defers⟩ := a
  obtain rfl : defers = [] := hd
  have e : RLC = .ret := by kernel_rfl
  rw [e]
  obtain ⟨Q, hQ⟩ : ∃ Q, Q = QQ (fun _ _ => False) (QRL w) := ⟨_, rfl⟩
  rw [← hQ]
  have HQ := Lib.hid hQ
  clear hQ
  go_wp2
  rw [HQ.out]
  exact .inr ⟨rfl, rfl, hv, Bel.refl _ _⟩
end Go.Proofs.YtafhpbghogdipaaGreatDoor

/- FnConfigSafe: the quiet walks; the law's run, from its start. -/
namespace Go.Proofs.YtafhpbghogdipaaGreatDoor
open Go.Conc Go.ConcN Go.RowKit Go.Conc.Lib Go.ConcR.Gen Go.ConcN.Gen
open Go.ConcR (DC0)
set_option maxHeartbeats 8000000
set_option maxRecDepth 100000
set_option linter.unusedVariables false
set_option linter.unusedSimpArgs false

/-- The law waits: for ConfigSafe; for Intersects. -/
noncomputable def WLA (y p d5 d6 d7 d8 d9 t10 : Value) (l : List Nat) : Frame := (base 3).at ⟨#[y, undef, .bool false, p, undef, d5, d6, d7, d8, d9, t10, undef, undef, undef, undef, undef, undef, undef, undef, undef, undef, undef, undef, undef, undef, undef, undef, undef, undef, undef, undef, undef, undef, undef, undef], []⟩ (.inRegion (opsOf ZLA) l :: .code (restOf ZLA) :: [])
noncomputable def WLC (b3 : Nat) (y s d5 d6 d7 d8 d9 t10 t11 t12 t13 t14 t15 t16 t17 t18 t19 t20 : Value) (l : List Nat) : Frame := (base 3).at ⟨#[y, undef, .bool false, .pointer (some ⟨b3, 0, none⟩), s, d5, d6, d7, d8, d9, t10, t11, t12, t13, t14, t15, t16, t17, t18, t19, t20, undef, undef, undef, undef, undef, undef, undef, undef, undef, undef, undef, undef, undef, undef], []⟩ (.inRegion opsL l :: .code RLC :: [])
set_option maxRecDepth 100000 in
theorem quietLA (y p d5 d6 d7 d8 d9 : Value) (cs : List Frame) : ∀ w, True → Goes Tryz.prog true AtRel DC0 (fun g1 _ => g1 = G (WLA y p d5 d6 d7 d8 d9 undef [0, 1, 2]) cs) 3
    (G ((base 3).at ⟨#[y, undef, .bool false, p, undef, d5, d6, d7, d8, d9, undef, undef, undef, undef, undef, undef, undef, undef, undef, undef, undef, undef, undef, undef, undef, undef, undef, undef, undef, undef, undef, undef, undef, undef, undef], []⟩ (.code ZLA :: [])) cs) w := by
  intro w hF
  unfold WLA ZLA
  simp only [opsL, RLC, ZLC, ZLB, ZLA, CLB, bodyOf, tailN, opsOf, restOf, Tryz.func3, Tryz.f3, Option.bind_some, Option.getD_some, Array.replicate, List.replicate, List.append_toArray, List.cons_append, List.nil_append, Nat.reduceSub]
  u_c stepG_seq no_rely hF
  u_reg no_rely hF
  refine Goes.stop (fun w₁ h₁ => ?_)
  rfl
set_option maxRecDepth 100000 in
theorem quietLB (y p d5 d6 d7 d8 d9 t : Value) (cs : List Frame) : ∀ w, True → Goes Tryz.prog true AtRel DC0 (fun g1 _ => g1 = G ((base 5).at ⟨#[t] ++ Array.replicate (12 - 1) undef, []⟩ [.code (bodyOf 5)]) (WLA y p d5 d6 d7 d8 d9 t [1, 2] :: cs)) 3
    (G ((WLA y p d5 d6 d7 d8 d9 undef [0, 1, 2]).finish t) cs) w := by
  intro w hF
  unfold WLA ZLA
  simp only [opsL, RLC, ZLC, ZLB, ZLA, CLB, bodyOf, tailN, opsOf, restOf, Tryz.func3, Tryz.f3, Option.bind_some, Option.getD_some, Array.replicate, List.replicate, List.append_toArray, List.cons_append, List.nil_append, Nat.reduceSub, Tryz.func5, Tryz.f5]
  show Goes _ _ _ _ _ _ (G ((base 3).at ⟨#[y, undef, .bool false, p, undef, d5, d6, d7, d8, d9, t, undef, undef, undef, undef, undef, undef, undef, undef, undef, undef, undef, undef, undef, undef, undef, undef, undef, undef, undef, undef, undef, undef, undef, undef], []⟩ (.inRegion _ [1, 2] :: _)) cs) w
  u_call Tryz.func5 (by decide) Tryz.f5 no_rely hF
  refine Goes.stop (fun w₁ h₁ => ?_)
  rfl
set_option maxRecDepth 100000 in
theorem quietLC (y p d5 d6 d7 d8 d9 t r : Value) (cs : List Frame) : ∀ w, True → Goes Tryz.prog true AtRel DC0 (fun g1 _ => g1 = G ((base 3).at ⟨#[y, undef, .bool false, p, r, d5, d6, d7, d8, d9, t, r, undef, undef, undef, undef, undef, undef, undef, undef, undef, undef, undef, undef, undef, undef, undef, undef, undef, undef, undef, undef, undef, undef, undef], []⟩ (.code CLB :: .code ZLC :: [])) cs) 5
    (G ((WLA y p d5 d6 d7 d8 d9 t [1, 2]).finish r) cs) w := by
  intro w hF
  unfold WLA
  simp only [opsL, RLC, ZLC, ZLB, ZLA, CLB, bodyOf, tailN, opsOf, restOf, Tryz.func3, Tryz.f3, Option.bind_some, Option.getD_some, Array.replicate, List.replicate, List.append_toArray, List.cons_append, List.nil_append, Nat.reduceSub]
  show Goes _ _ _ _ _ _ (G ((base 3).at ⟨#[y, undef, .bool false, p, undef, d5, d6, d7, d8, d9, t, r, undef, undef, undef, undef, undef, undef, undef, undef, undef, undef, undef, undef, undef, undef, undef, undef, undef, undef, undef, undef, undef, undef, undef], []⟩ (.inRegion _ [2] :: _)) cs) w
  u_op no_rely hF
  u_c stepG_region_end no_rely hF
  u_c stepG_seq no_rely hF
  refine Goes.stop (fun w₁ h₁ => ?_)
  rfl
set_option maxRecDepth 100000 in
theorem quietLD (y s d5 d6 d7 d8 d9 t10 t11 t12 t13 t14 t15 : Value) (b3 : Nat) (cs : List Frame) : ∀ w, True → Goes Tryz.prog true AtRel DC0 (fun g1 _ => g1 = G (WLC b3 y s d5 d6 d7 d8 d9 t10 t11 t12 t13 t14 t15 s (.pointer (some ⟨b3, 0, none⟩)) undef undef undef [2, 3, 4, 5, 6, 7, 8, 9, 10, 11, 12, 13, 14, 15, 16, 17, 18, 19]) cs) 7
    (G ((base 3).at ⟨#[y, undef, .bool false, .pointer (some ⟨b3, 0, none⟩), s, d5, d6, d7, d8, d9, t10, t11, t12, t13, t14, t15, undef, undef, undef, undef, undef, undef, undef, undef, undef, undef, undef, undef, undef, undef, undef, undef, undef, undef, undef], []⟩ (.code ZLC :: [])) cs) w := by
  intro w hF
  unfold WLC
  simp only [opsL, RLC, ZLC, ZLB, ZLA, CLB, bodyOf, tailN, opsOf, restOf, Tryz.func3, Tryz.f3, Option.bind_some, Option.getD_some, Array.replicate, List.replicate, List.append_toArray, List.cons_append, List.nil_append, Nat.reduceSub]
  u_c stepG_seq no_rely hF
  u_reg no_rely hF
  u_op no_rely hF
  u_op no_rely hF
  refine Goes.stop (fun w₁ h₁ => ?_)
  rfl
set_option maxRecDepth 100000 in
theorem quietLE (y s d5 d6 d7 d8 d9 t10 t11 t12 t13 t14 t15 t16 t17 v : Value) (b3 : Nat) (cs : List Frame) : ∀ w, True → Goes Tryz.prog true AtRel DC0 (fun g1 _ => g1 = G (WLC b3 y s d5 d6 d7 d8 d9 t10 t11 t12 t13 t14 t15 t16 t17 v (.pointer (some ⟨b3, 1, none⟩)) undef [4, 5, 6, 7, 8, 9, 10, 11, 12, 13, 14, 15, 16, 17, 18, 19]) cs) 4
    (G ((WLC b3 y s d5 d6 d7 d8 d9 t10 t11 t12 t13 t14 t15 t16 t17 undef undef undef [2, 3, 4, 5, 6, 7, 8, 9, 10, 11, 12, 13, 14, 15, 16, 17, 18, 19]).finish v) cs) w := by
  intro w hF
  unfold WLC
  simp only [opsL, RLC, ZLC, ZLB, ZLA, CLB, bodyOf, tailN, opsOf, restOf, Tryz.func3, Tryz.f3, Option.bind_some, Option.getD_some, Array.replicate, List.replicate, List.append_toArray, List.cons_append, List.nil_append, Nat.reduceSub]
  show Goes _ _ _ _ _ _ (G ((base 3).at ⟨#[y, undef, .bool false, .pointer (some ⟨b3, 0, none⟩), s, d5, d6, d7, d8, d9, t10, t11, t12, t13, t14, t15, t16, t17, v, undef, undef, undef, undef, undef, undef, undef, undef, undef, undef, undef, undef, undef, undef, undef, undef], []⟩ (.inRegion _ [3, 4, 5, 6, 7, 8, 9, 10, 11, 12, 13, 14, 15, 16, 17, 18, 19] :: _)) cs) w
  u_op no_rely hF
  refine Goes.stop (fun w₁ h₁ => ?_)
  rfl
set_option maxRecDepth 100000 in
theorem quietLF (y s d5 d6 d7 d8 d9 t10 t11 t12 t13 t14 t15 t16 t17 t18 t19 v : Value) (b3 : Nat) (cs : List Frame) : ∀ w, True → Goes Tryz.prog true AtRel DC0 (fun g1 _ => g1 = G ((base 7).at ⟨#[t18, v] ++ Array.replicate (24 - 2) undef, []⟩ [.code (bodyOf 7)]) (WLC b3 y s d5 d6 d7 d8 d9 t10 t11 t12 t13 t14 t15 t16 t17 t18 t19 v [5, 6, 7, 8, 9, 10, 11, 12, 13, 14, 15, 16, 17, 18, 19] :: cs)) 4
    (G ((WLC b3 y s d5 d6 d7 d8 d9 t10 t11 t12 t13 t14 t15 t16 t17 t18 t19 undef [4, 5, 6, 7, 8, 9, 10, 11, 12, 13, 14, 15, 16, 17, 18, 19]).finish v) cs) w := by
  intro w hF
  unfold WLC
  simp only [opsL, RLC, ZLC, ZLB, ZLA, CLB, bodyOf, tailN, opsOf, restOf, Tryz.func3, Tryz.f3, Option.bind_some, Option.getD_some, Array.replicate, List.replicate, List.append_toArray, List.cons_append, List.nil_append, Nat.reduceSub, Tryz.func7, Tryz.f7]
  show Goes _ _ _ _ _ _ (G ((base 3).at ⟨#[y, undef, .bool false, .pointer (some ⟨b3, 0, none⟩), s, d5, d6, d7, d8, d9, t10, t11, t12, t13, t14, t15, t16, t17, t18, t19, v, undef, undef, undef, undef, undef, undef, undef, undef, undef, undef, undef, undef, undef, undef], []⟩ (.inRegion _ [5, 6, 7, 8, 9, 10, 11, 12, 13, 14, 15, 16, 17, 18, 19] :: _)) cs) w
  u_call Tryz.func7 (by decide) Tryz.f7 no_rely hF
  refine Goes.stop (fun w₁ h₁ => ?_)
  rfl
theorem loadL4 : ∃ pos, (opsOf ZLA)[0]? = some { dst := some 10, op := .load 25 (.tmp 3), type := 25, pos := pos, after := #[], guard := none } := op_shape (by kernel_rfl)
theorem loadL2 : ∃ pos, opsL[2]? = some { dst := some 18, op := .load 23 (.tmp 17), type := 23, pos := pos, after := #[{ on := 1, ground := .data }], guard := none } := op_shape (by kernel_rfl)
theorem loadL5 : ∃ pos, opsL[4]? = some { dst := some 20, op := .load 23 (.tmp 19), type := 23, pos := pos, after := #[{ on := 3, ground := .data }], guard := none } := op_shape (by kernel_rfl)
theorem finLI (b3 : Nat) (y s d5 d6 d7 d8 d9 t10 t11 t12 t13 t14 t15 t16 t17 t18 t19 t20 v : Value) : (WLC b3 y s d5 d6 d7 d8 d9 t10 t11 t12 t13 t14 t15 t16 t17 t18 t19 t20 [5, 6, 7, 8, 9, 10, 11, 12, 13, 14, 15, 16, 17, 18, 19]).finish v = (base 3).at ⟨#[y, undef, .bool false, .pointer (some ⟨b3, 0, none⟩), s, d5, d6, d7, d8, d9, t10, t11, t12, t13, t14, t15, t16, t17, t18, t19, t20, v, undef, undef, undef, undef, undef, undef, undef, undef, undef, undef, undef, undef, undef], []⟩ (.inRegion opsL [6, 7, 8, 9, 10, 11, 12, 13, 14, 15, 16, 17, 18, 19] :: .code RLC :: []) := by kernel_rfl
theorem loadMat {w : World} {b o : Nat} {X : Option Addr} {nx cx : Nat} (h0 : w.cell? ⟨b, o, none⟩ = some (.slice X nx cx)) :
    (Instr.loadAt 23 (.pointer (some ⟨b, o, none⟩))).run Tryz.prog w = .ok (.slice X nx cx) w := by
  go_simp
theorem enterL (x : Value) : Frame.enter Tryz.prog 3 #[x] .normal = (base 3).at ⟨#[x] ++ Array.replicate (35 - 1) undef, []⟩ [.code (graft (headN 2 (bodyOf 3)) ZLA)] := by
  have hb : Tryz.f3.body = some (bodyOf 3) := by kernel_rfl
  have h := enter_base (P := Tryz.prog) #[x] Tryz.func3 hb
  rw [Tryz.ntmps3] at h
  have hZ : graft (headN 2 (bodyOf 3)) ZLA = bodyOf 3 := graftLA
  rw [h, hZ]
  rfl
theorem evl_psn {W : World} {a0 a1 : Addr} (h : EV W a0 a1) : EV (psn (Dd (fun _ => False) W) W) a0 a1 :=
  h.keep fun b ⟨c, t, f, hc⟩ => psn_out (by
    rintro (h2 | ⟨c', e', h2⟩)
    · exact h2
    · rw [hc] at h2
      cases h2)
section
variable {Shun : Loc → Prop} {D : DS} {W : World}
/-- Plain code that may end or return, some of our blocks turned. -/
theorem walk_mid (hS : ∀ l, Shun l → ∃ a, l = .cell a ∧ D a.block) {f : FuncId} (hr : resOk Tryz.prog f = true) {a : Act} {c : Code} {K : List Item} {cs : List Frame} {wp : World} {Qn Qr : World → Act → World → Prop} {B : Nat} (hB : W.heap.size ≤ B) (hd : a.defers = []) (hp : plainCode SP c = true)
    (hQn : ∀ a w T d, Qn wp a w → Qn wp a (tp w T d)) (hQr : ∀ a w T d, Qr wp a w → Qr wp a (tp w T d)) (hbn : ∀ a w, Qn wp a w → Bel B wp w) (hbr : ∀ a w, Qr wp a w → Bel B wp w)
    (hwp : ∀ T, c.wp Tryz.prog (QQ (Qn wp) (Qr wp)) a (tp wp T 0))
    {gs : Array Goroutine} {w : World} (sl : Option (Nat × Nat)) {t : Trace} {q : Nat → Nat} (hF : Fr Tryz.prog Shun D (G ((base f).at a (.code c :: K)) cs) wp gs w t q) (hT : Truth W w wp)
    (hk : ∀ (gs' : Array Goroutine) (wp' w' : World) (sl' : Option (Nat × Nat)) (t' : Trace) (q' : Nat → Nat) (a' : Act), Qn wp a' wp' → Truth W w' wp' → Fr Tryz.prog Shun D (G ((base f).at a' K) cs) wp' gs' w' t' q' → Ends W gs' w' sl' t')
    (hk2 : ∀ (gs' : Array Goroutine) (wp' w' : World) (sl' : Option (Nat × Nat)) (t' : Trace) (q' : Nat → Nat) (a' : Act) (todo : List Item), Qr wp a' wp' → Truth W w' wp' → Fr Tryz.prog Shun D (G { (base f).at a' todo with mode := .returning } cs) wp' gs' w' t' q' → Ends W gs' w' sl' t') : Ends W gs w sl t := by
  refine (lift_last (b := base f) (Qn := Qn wp) (Qr := Qr wp) hSP hS rfl hr hd hp hQn hQr hwp sl hF).ends ?_
  rintro gs1 g1' wp1 w1 sl1 tt1 q1 (⟨a', rfl, h⟩ | ⟨a', todo, rfl, h⟩) hF1
  · exact hk gs1 wp1 w1 sl1 tt1 q1 a' h (hT.next hF.pz hF1.pz (hbn _ _ h) hB) hF1
  · exact hk2 gs1 wp1 w1 sl1 tt1 q1 a' todo h (hT.next hF.pz hF1.pz (hbr _ _ h) hB) hF1
end
/-- ████ The law's run. ████ -/
theorem start_ls (A : Option Addr) (n c : Nat) (zs : List Int) (W : World) (hI : Ints .u8 W A n c zs) (hEV : ∃ a0 a1, EV W a0 a1) :
    Ends W #[G (Frame.enter Tryz.prog 3 #[.slice A n c] .normal) []] W none #[] := by
  obtain ⟨a0, a1, hE⟩ := hEV
  have hS : ∀ l : Loc, (fun _ : Loc => False) l → ∃ a, l = .cell a ∧ (Dd (fun _ => False) W).dead a.block := fun l h => h.elim
  have hF := fr_first Tryz.prog (G (Frame.enter Tryz.prog 3 #[.slice A n c] .normal) []) W
  have hu0 : (psn (Dd (fun _ => False) W) W).heap.size = W.heap.size := psn_size
  have hR : Truth W W (psn (Dd (fun _ => False) W) W) := ⟨rfl, rfl, by rw [hu0]; exact Nat.le_refl _, fun b hb => rfl⟩
  replace hI := ints_psn hI
  replace hE := evl_psn hE
  generalize psn (Dd (fun _ => False) W) W = u0 at hF hR hI hu0 hE
  rw [enterL] at hF ⊢
  refine walk_code hS (Z := ZLA) (Qn := fun w0 => QAL A n c w0) (Qr := fun w0 => QRL w0) (by kernel_rfl) rfl plainLA (fun a w T d h => QAL.tp a w T d h) (fun a w T d h => QRL.tp a w T d h)
    (fun a w h => by obtain ⟨_, _, _, _, _, _, _, _, _, _, _, _, _, _, _, _, hb⟩ := h; exact hb) (fun a w h => h.2.2)
    (fun T => wp_mono (lawAL A n c zs (tp u0 T 0) (ints_tp hI)) (fun e a w h => h.imp
      (fun ⟨h0, d5, d6, d7, d8, d9, b3, A1, n1, c1, z1, A2, n2, c2, z2, h1, h2, h3⟩ => ⟨h0, d5, d6, d7, d8, d9, b3, A1, n1, c1, z1, A2, n2, c2, z2, h1, h2, bel_base h3⟩) (fun ⟨h1, h2, h3, h4⟩ => ⟨h1, h2, h3, bel_base h4⟩))) none hF hR ?_ ?_
  rotate_left
  · intro gs1 wp1 w1 sl1 t1 q1 a1 todo1 hq1 hT1 hF1
    exact end_of Tryz.func3 (by kernel_rfl) (by decide) sl1 hq1.1 hq1.2.1 hF1 hT1
  intro gs1 wp1 w1 sl1 t1 q1 a1' hq1 hT1 hF1
  obtain ⟨d5, d6, d7, d8, d9, b3, A1, n1, c1, z1, A2, n2, c2, z2, rfl, hSt, hb1⟩ := hq1
  have hE1 := hE.bel hb1
  refine walk_quiet sl1 hF1 hT1 (quietLA _ _ _ _ _ _ _ _) ?_
  intro gs2 w2 sl2 t2 q2 hT2 hF2
  obtain ⟨pos4, hl4⟩ := loadL4
  refine walk_op hS (v := .agg #[.slice A1 n1 c1, .slice A2 n2 c2]) hl4 rfl rfl (fun T d => ?_) sl2 hF2 hT2 ?_
  · have e := loadCfg (w := tp wp1 T d) hSt.x0 hSt.x1
    show ((Instr.loadAt 25 (.pointer (some ⟨b3, 0, none⟩))) >>= fun x => (Pure.pure (Next.value x) : Sem Next)).run Tryz.prog (tp wp1 T d) = _
    rw [Sem.run_bind, e]
    rfl
  intro gs3 w3 sl3 t3 q3 hT3 hF3
  refine walk_quiet sl3 hF3 hT3 (quietLB _ _ _ _ _ _ _ _ _) ?_
  intro gs4 w4 sl4 t4 q4 hT4 hF4
  refine cs_run hS sl4 hE1 hSt.C1 hSt.C2 hF4 hT4 ?_
  intro gs5 wp5 w5 sl5 t5 q5 DD5 Sh5 hS5 hb5 hT5 hF5
  obtain ⟨s, hs⟩ : ∃ s, safeB z1 z2 n1 n2 = s := ⟨_, rfl⟩
  rw [hs] at hF5
  have hSt5 := hSt.bel hb5
  refine walk_quiet sl5 hF5 hT5 (quietLC _ _ _ _ _ _ _ _ _ _) ?_
  intro gs6 w6 sl6 t6 q6 hT6 hF6
  refine walk_mid hS5 (B := wp5.heap.size) (Qn := fun w0 => QBL _ w0) (Qr := fun _ _ _ => False) (by kernel_rfl) hT6.size rfl plainLB (fun a w T d h => QBL.tp a w T d h) (fun _ _ _ _ h => h.elim) (fun a w h => h.2) (fun _ _ h => h.elim)
    (fun T => wp_mono (lawBL A1 n1 c1 z1 A2 n2 c2 z2 b3 s _ _ _ _ _ _ _ (tp wp5 T 0) (hSt5.tp T 0) hs) (fun e a w h => h.imp (fun ⟨h1, h2, h3⟩ => ⟨h1, h2, bel_base h3⟩) (fun h => h))) sl6 hF6 hT6 ?_ (fun _ _ _ _ _ _ _ _ h => h.elim)
  rintro gs7 wp7 w7 sl7 t7 q7 a7 ⟨rfl, hb7⟩ hT7 hF7
  have hSt7 := hSt5.bel hb7
  refine walk_quiet sl7 hF7 hT7 (quietLD _ _ _ _ _ _ _ _ _ _ _ _ _ b3 _) ?_
  intro gs8 w8 sl8 t8 q8 hT8 hF8
  obtain ⟨pos2, hl2⟩ := loadL2
  refine walk_op hS5 (v := .slice A1 n1 c1) hl2 rfl rfl (fun T d => ?_) sl8 hF8 hT8 ?_
  · have e := loadMat (w := tp wp7 T d) (o := 0) hSt7.x0
    show ((Instr.loadAt 23 (.pointer (some ⟨b3, 0, none⟩))) >>= fun x => (Pure.pure (Next.value x) : Sem Next)).run Tryz.prog (tp wp7 T d) = _
    rw [Sem.run_bind, e]
    rfl
  intro gs9 w9 sl9 t9 q9 hT9 hF9
  refine walk_quiet sl9 hF9 hT9 (quietLE _ _ _ _ _ _ _ _ _ _ _ _ _ _ _ _ b3 _) ?_
  intro gs10 w10 sl10 t10 q10 hT10 hF10
  obtain ⟨pos5, hl5⟩ := loadL5
  refine walk_op hS5 (v := .slice A2 n2 c2) hl5 rfl rfl (fun T d => ?_) sl10 hF10 hT10 ?_
  · have e := loadMat (w := tp wp7 T d) (o := 1) hSt7.x1
    show ((Instr.loadAt 23 (.pointer (some ⟨b3, 1, none⟩))) >>= fun x => (Pure.pure (Next.value x) : Sem Next)).run Tryz.prog (tp wp7 T d) = _
    rw [Sem.run_bind, e]
    rfl
  intro gs11 w11 sl11 t11 q11 hT11 hF11
  refine walk_quiet sl11 hF11 hT11 (quietLF _ _ _ _ _ _ _ _ _ _ _ _ _ _ _ _ _ _ b3 _) ?_
  intro gs12 w12 sl12 t12 q12 hT12 hF12
  refine is_run hS5 sl12 hSt7.C1 hSt7.C2 hF12 hT12 ?_
  intro gs13 wp13 w13 sl13 t13 q13 DD13 Sh13 hS13 hb13 hT13 hF13
  have hSt13 := hSt7.bel hb13
  have hsm := safe_meet z1 z2 n1 n2
  rw [hs] at hsm
  generalize meetB z1 z2 n1 n2 = m at hF13 hsm
  rw [finLI] at hF13
  refine walk_ops hS13 (B := wp13.heap.size) (Qn := fun w0 => QRL w0) (by kernel_rfl) hT13.size rfl plainLO (fun a w T d h => QRL.tp a w T d h) (fun a w h => h.2.2)
    (fun T => lawIL A1 n1 c1 z1 A2 n2 c2 z2 b3 s m _ _ _ _ _ _ _ _ _ _ _ _ _ _ _ wp13 hSt13 hsm T) sl13 hF13 hT13 ?_
  intro gs14 wp14 w14 sl14 t14 q14 a14 hq14 hT14 hF14
  refine walk_last hS13 (Qr := fun w0 => QRL w0) (by kernel_rfl) hq14.1 plainLC (fun a w T d h => QRL.tp a w T d h) (fun a w h => h.2.2)
    (fun T => wp_mono (lawRL a14 (tp wp14 T 0) hq14.1 hq14.2.1) (fun e a w h => h.imp (fun h => h) (fun ⟨h1, h2, h3, h4⟩ => ⟨h1, h2, h3, bel_base h4⟩))) sl14 hF14 hT14 ?_
  intro gs15 wp15 w15 sl15 t15 q15 a15 todo15 hq15 hT15 hF15
  exact end_of Tryz.func3 (by kernel_rfl) (by decide) sl15 hq15.1 hq15.2.1 hF15 hT15
end Go.Proofs.YtafhpbghogdipaaGreatDoor
