/- The program's tally. -/
import Derived.Test.YtiepoadnncnbkaaMet4
namespace Go.Proofs.Ytiepoadnncnbkaa
open Go.RowKit Go.Shelf
attribute [local go_sem] Oper.semAt_some
set_option maxHeartbeats 4000000

/-- How many of the masks that came pass and have c members. -/
def tl (P : Nat → Bool) (c : Nat) (pre : List (Fin 64)) : Nat := (pre.filter fun x => P x.val && (cnt x.val == c)).length
theorem tl_snoc (P : Nat → Bool) (c : Nat) (pre : List (Fin 64)) (x : Fin 64) : tl P c (pre ++ [x]) = tl P c pre + (if P x.val = true ∧ cnt x.val = c then 1 else 0) := by
  unfold tl
  rw [List.filter_append, List.length_append]
  congr 1
  by_cases h1 : P x.val = true <;> by_cases h2 : cnt x.val = c <;> simp [h1, h2]
theorem tl_le (P : Nat → Bool) (c : Nat) (pre : List (Fin 64)) : tl P c pre ≤ pre.length := List.length_filter_le _ _
theorem tl_upto (P : Nat → Bool) (c : Nat) : ∀ k, k ≤ 64 → tl P c (upto k) = byTo P c k
  | 0, _ => rfl
  | k + 1, h => by rw [upto_next (by omega), tl_snoc, tl_upto P c k (by omega), byTo_next]

/-- Seven counts as cells. -/
def sv (f : Nat → Nat) : List Value := [.int .i64 (f 0 : Nat), .int .i64 (f 1 : Nat), .int .i64 (f 2 : Nat), .int .i64 (f 3 : Nat), .int .i64 (f 4 : Nat), .int .i64 (f 5 : Nat), .int .i64 (f 6 : Nat)]
theorem sv_at (f : Nat → Nat) {c : Nat} (hc : c < 7) : (sv f)[c]? = some (.int .i64 (f c : Nat)) := by
  rcases (show c = 0 ∨ c = 1 ∨ c = 2 ∨ c = 3 ∨ c = 4 ∨ c = 5 ∨ c = 6 by omega) with rfl | rfl | rfl | rfl | rfl | rfl | rfl <;> rfl
theorem sv_set (f g : Nat → Nat) {c : Nat} (hc : c < 7) (h : ∀ d, d < 7 → g d = f d + (if c = d then 1 else 0)) : (sv f).set c (.int .i64 ((f c : Nat) + 1)) = sv g := by
  unfold sv
  rw [h 0 (by omega), h 1 (by omega), h 2 (by omega), h 3 (by omega), h 4 (by omega), h 5 (by omega), h 6 (by omega)]
  rcases (show c = 0 ∨ c = 1 ∨ c = 2 ∨ c = 3 ∨ c = 4 ∨ c = 5 ∨ c = 6 by omega) with rfl | rfl | rfl | rfl | rfl | rfl | rfl <;> simp
theorem sv_same (f g : Nat → Nat) (h : ∀ d, d < 7 → g d = f d) : sv g = sv f := by
  unfold sv
  rw [h 0 (by omega), h 1 (by omega), h 2 (by omega), h 3 (by omega), h 4 (by omega), h 5 (by omega), h 6 (by omega)]

theorem subsets_any (c : Int) (w : World) : Calls Try.prog 52 #[.int .u64 c] w fun e w' => e = .returned (.func (.func 61) #[] #[.pointer (some ⟨w.heap.size, 0, none⟩)]) ∧ w' = w.alloc (.cells #[.int .u64 c] 44) := by
  go_enter Try.func52, Try.ntmps52
  go_wp2
  go_ret
  exact ⟨rfl, rfl⟩

theorem blk_own {X Y : World} {row : Option Nat} {j : Nat} {a : Array Value} {t : TypeId} (h : X.heap[j]? = some (.cells a t (0, 0))) (hg : X.grownBy Y row) (hr : ∀ r, row = some r → ∃ o : Obj, X.heap[r]? = some o ∧ o.isCells = false) : Y.heap[j]? = some (.cells a t (0, 0)) :=
  (grownBy_keeps_cells hg hr h rfl).trans h
theorem blk_other {X : World} {j b c : Nat} {o : Obj} {v : Value} (h : X.heap[j]? = some o) (hne : j ≠ b) : (X.setCell ⟨b, c, none⟩ v).heap[j]? = some o :=
  (Below.heap_setCell X _ _ j (by show j ≠ b; exact hne)).trans h
/-- The blocks of tally. -/
structure TB (w W : World) (AQ : Option Addr) (n cq b0 b1 b2 b3 b4 : Nat) (f f' : Nat → Nat) : Prop where
  q : W.heap[b0]? = some (.cells #[.slice AQ n cq] 40 (0, 0))
  r1 : W.heap[b1]? = some (.cells (sv fun _ => 0).toArray 54 (0, 0))
  r2 : W.heap[b2]? = some (.cells (sv fun _ => 0).toArray 54 (0, 0))
  y : W.heap[b3]? = some (.cells (sv f).toArray 54 (0, 0))
  z : W.heap[b4]? = some (.cells (sv f').toArray 54 (0, 0))
  bl : Below w.heap.size w W
theorem TB.own {w X Y : World} {AQ : Option Addr} {n cq b0 b1 b2 b3 b4 B : Nat} {f f' : Nat → Nat} {row : Option Nat} (h : TB w X AQ n cq b0 b1 b2 b3 b4 f f') (hg : X.grownBy Y row)
    (hr : ∀ r, row = some r → B ≤ r ∧ ∃ o : Obj, X.heap[r]? = some o ∧ o.isCells = false) (hB : w.heap.size ≤ B) : TB w Y AQ n cq b0 b1 b2 b3 b4 f f' :=
  ⟨blk_own h.q hg (fun r e => (hr r e).2), blk_own h.r1 hg (fun r e => (hr r e).2), blk_own h.r2 hg (fun r e => (hr r e).2), blk_own h.y hg (fun r e => (hr r e).2), blk_own h.z hg (fun r e => (hr r e).2),
    h.bl.grown hg h.bl.size (fun k e => Nat.le_trans hB (hr k e).1)⟩
theorem TB.putY {w W : World} {AQ : Option Addr} {n cq b0 b1 b2 b3 b4 c : Nat} {f f' g' : Nat → Nat} (h : TB w W AQ n cq b0 b1 b2 b3 b4 f f') (hb : w.heap.size = b0 ∧ b0 < b1 ∧ b1 < b2 ∧ b2 < b3 ∧ b3 < b4) (hc : c < 7) (hg : ∀ d, d < 7 → g' d = f d + (if c = d then 1 else 0)) :
    TB w (W.setCell ⟨b3, c, none⟩ (.int .i64 ((f c : Nat) + 1))) AQ n cq b0 b1 b2 b3 b4 g' f' :=
  ⟨blk_other h.q (by omega), blk_other h.r1 (by omega), blk_other h.r2 (by omega), by rw [← sv_set f g' hc hg]; exact blk_set h.y _, blk_other h.z (by omega), h.bl.setCell (by show w.heap.size ≤ b3; omega) _⟩
theorem TB.putZ {w W : World} {AQ : Option Addr} {n cq b0 b1 b2 b3 b4 c : Nat} {f f' g' : Nat → Nat} (h : TB w W AQ n cq b0 b1 b2 b3 b4 f f') (hb : w.heap.size = b0 ∧ b0 < b1 ∧ b1 < b2 ∧ b2 < b3 ∧ b3 < b4) (hc : c < 7) (hg : ∀ d, d < 7 → g' d = f' d + (if c = d then 1 else 0)) :
    TB w (W.setCell ⟨b4, c, none⟩ (.int .i64 ((f' c : Nat) + 1))) AQ n cq b0 b1 b2 b3 b4 f g' :=
  ⟨blk_other h.q (by omega), blk_other h.r1 (by omega), blk_other h.r2 (by omega), blk_other h.y (by omega), by rw [← sv_set f' g' hc hg]; exact blk_set h.z _, h.bl.setCell (by show w.heap.size ≤ b4; omega) _⟩
theorem TB.same {w W : World} {AQ : Option Addr} {n cq b0 b1 b2 b3 b4 : Nat} {f f' g g' : Nat → Nat} (h : TB w W AQ n cq b0 b1 b2 b3 b4 f f') (h1 : ∀ d, d < 7 → g d = f d) (h2 : ∀ d, d < 7 → g' d = f' d) : TB w W AQ n cq b0 b1 b2 b3 b4 g g' :=
  ⟨h.q, h.r1, h.r2, by rw [sv_same f g h1]; exact h.y, by rw [sv_same f' g' h2]; exact h.z, h.bl⟩
theorem sv_store {W : World} {b : Nat} {t : TypeId} {f0 : Nat → Nat} (h : W.heap[b]? = some (.cells (sv f0).toArray t (0, 0))) (f : Nat → Nat) :
    (((((((W.setCell ⟨b, 0, none⟩ (.int .i64 (f 0 : Nat))).setCell ⟨b, 1, none⟩ (.int .i64 (f 1 : Nat))).setCell ⟨b, 2, none⟩ (.int .i64 (f 2 : Nat))).setCell ⟨b, 3, none⟩ (.int .i64 (f 3 : Nat))).setCell ⟨b, 4, none⟩ (.int .i64 (f 4 : Nat))).setCell ⟨b, 5, none⟩ (.int .i64 (f 5 : Nat))).setCell ⟨b, 6, none⟩ (.int .i64 (f 6 : Nat))).heap[b]? = some (.cells (sv f).toArray t (0, 0)) :=
  blk_set (blk_set (blk_set (blk_set (blk_set (blk_set (blk_set h _) _) _) _) _) _) _
theorem sv_other {W : World} {b j : Nat} {o : Obj} (h : W.heap[j]? = some o) (hne : j ≠ b) (f : Nat → Nat) :
    (((((((W.setCell ⟨b, 0, none⟩ (.int .i64 (f 0 : Nat))).setCell ⟨b, 1, none⟩ (.int .i64 (f 1 : Nat))).setCell ⟨b, 2, none⟩ (.int .i64 (f 2 : Nat))).setCell ⟨b, 3, none⟩ (.int .i64 (f 3 : Nat))).setCell ⟨b, 4, none⟩ (.int .i64 (f 4 : Nat))).setCell ⟨b, 5, none⟩ (.int .i64 (f 5 : Nat))).setCell ⟨b, 6, none⟩ (.int .i64 (f 6 : Nat))).heap[j]? = some o :=
  blk_other (blk_other (blk_other (blk_other (blk_other (blk_other (blk_other h hne) hne) hne) hne) hne) hne) hne
theorem sv_below {w W : World} {b : Nat} (h : Below w.heap.size w W) (hb : w.heap.size ≤ b) (f : Nat → Nat) :
    Below w.heap.size w (((((((W.setCell ⟨b, 0, none⟩ (.int .i64 (f 0 : Nat))).setCell ⟨b, 1, none⟩ (.int .i64 (f 1 : Nat))).setCell ⟨b, 2, none⟩ (.int .i64 (f 2 : Nat))).setCell ⟨b, 3, none⟩ (.int .i64 (f 3 : Nat))).setCell ⟨b, 4, none⟩ (.int .i64 (f 4 : Nat))).setCell ⟨b, 5, none⟩ (.int .i64 (f 5 : Nat))).setCell ⟨b, 6, none⟩ (.int .i64 (f 6 : Nat))) :=
  (((((((h.setCell hb _).setCell hb _).setCell hb _).setCell hb _).setCell hb _).setCell hb _).setCell hb _)
theorem blk_drew {W : World} {j : Nat} {o : Option Obj} (h : W.heap[j]? = o) : W.drew.heap[j]? = o := h
theorem blk0 {w : World} {g : Nat} {v : Value} {t : TypeId} (h : w.heap[g]? = some (.cells #[v] t (0, 0))) : w.cell? ⟨g, 0, none⟩ = some v := blk_cell (l := [v]) h 0

theorem al_new {w : World} {o : Obj} {k : Nat} (h : k = w.heap.size) : (w.alloc o).heap[k]? = some o := by rw [h]; exact World.alloc_heap_new w o
theorem al_old {w : World} {o o' : Obj} {k : Nat} (h : w.heap[k]? = some o) : (w.alloc o').heap[k]? = some o := (Below.heap_alloc w o' k (blk_lt h)).trans h
theorem tally_any (g : Nat → Nat) (AQ : Option Addr) (n cq N : Nat) (w : World) (hA : Row w w.heap.size AQ (mV g n)) (hg : ∀ j, j < n → g j < 64) (hn : n ≤ 20) (hN : N ≤ 6) :
    Calls Try.prog 43 #[.slice AQ n cq, .int .u64 (fst_ N : Nat)] w fun e w' =>
      e = .returned (.tuple #[.agg (sv (fun c => byTo (fun m => anyTo g m n) c (2 ^ N))).toArray, .agg (sv (fun c => byTo (fun m => !(anyTo g m n)) c (2 ^ N))).toArray]) ∧ Below w.heap.size w w' := by
  have HA := Lib.hid hA
  have HG := Lib.hid hg
  clear hA hg
  refine (callsIn_wide (n := 3)).1 ?_
  refine callsIn_of_wp_marks Try.func43 rfl trivial ?_ rfl
  simp only [Try.ntmps43, List.size_toArray, List.length_cons, List.length_nil, Nat.reduceAdd, Nat.reduceSub, Array.replicate_succ, Array.replicate_zero, List.push_toArray, List.append_toArray, List.nil_append, List.cons_append]
  gi_wp2_with (refine ⟨trivial, ?_⟩; gi_at_call 52; refine (callsIn_wide.2 (subsets_any _ _)).mono ?_; rintro e w' ⟨rfl, rfl⟩)
  obtain ⟨W0, hW0⟩ : ∃ W0, W0 = ((((((w.alloc (.cells #[.slice AQ n cq] 40)).alloc (.cells #[.int .i64 0, .int .i64 0, .int .i64 0, .int .i64 0, .int .i64 0, .int .i64 0, .int .i64 0] 54)).alloc (.cells #[.int .i64 0, .int .i64 0, .int .i64 0, .int .i64 0, .int .i64 0, .int .i64 0, .int .i64 0] 54)).alloc (.cells #[.int .i64 0, .int .i64 0, .int .i64 0, .int .i64 0, .int .i64 0, .int .i64 0, .int .i64 0] 54)).alloc (.cells #[.int .i64 0, .int .i64 0, .int .i64 0, .int .i64 0, .int .i64 0, .int .i64 0, .int .i64 0] 54)).alloc (.cells #[.int .u64 (fst_ N : Nat)] 44)) := ⟨_, rfl⟩
  have hs0 : W0.heap.size = w.heap.size + 6 := by rw [hW0]; simp
  have hT : TB w W0 AQ n cq w.heap.size (w.heap.size + 1) (w.heap.size + 1 + 1) (w.heap.size + 1 + 1 + 1) (w.heap.size + 1 + 1 + 1 + 1) (fun c => tl (fun m => anyTo g m n) c []) (fun c => tl (fun m => !(anyTo g m n)) c []) := by
    rw [hW0]
    exact ⟨(al_old (al_old (al_old (al_old (al_old (al_new (by first | (simp; done) | (simp; omega)))))))), (al_old (al_old (al_old (al_old (al_new (by first | (simp; done) | (simp; omega))))))), (al_old (al_old (al_old (al_new (by first | (simp; done) | (simp; omega)))))), (al_old (al_old (al_new (by first | (simp; done) | (simp; omega))))), (al_old (al_new (by first | (simp; done) | (simp; omega)))), (((((((Below.refl _ w).alloc (Nat.le_refl _) _).alloc (by first | (simp; done) | (simp; omega)) _).alloc (by first | (simp; done) | (simp; omega)) _).alloc (by first | (simp; done) | (simp; omega)) _).alloc (by first | (simp; done) | (simp; omega)) _).alloc (by first | (simp; done) | (simp; omega)) _)⟩
  have hbx : W0.cell? ⟨w.heap.size + 1 + 1 + 1 + 1 + 1, 0, none⟩ = some (.int .u64 ((2 ^ N - 1 : Nat) : Int)) := by
    rw [hW0]
    exact blk0 (t := 44) (al_new (by first | (simp; done) | (simp; omega)))
  have hb5 : w.heap.size + 1 + 1 + 1 + 1 + 1 < W0.heap.size := by omega
  rw [← hW0]
  clear hW0
  have hst : fst_ N = 2 ^ N - 1 := rfl
  have hpw := Nat.two_pow_pos N
  have hp64 := pow_le N hN
  generalize hx0 : w.heap.size = b0 at hs0 hT hbx hb5 ⊢
  generalize hx1 : b0 + 1 = b1 at hT hbx hb5 ⊢
  generalize hx2 : b1 + 1 = b2 at hT hbx hb5 ⊢
  generalize hx3 : b2 + 1 = b3 at hT hbx hb5 ⊢
  generalize hx4 : b3 + 1 = b4 at hT hbx hb5 ⊢
  generalize hx5 : b4 + 1 = b5 at hbx hb5 ⊢
  refine wpIn_rangeFunc_ownF rfl (by omega) (gf := 61) (lb := #[.pointer (some ⟨b5, 0, none⟩)]) rfl trivial (enters_of Try.func61 (by kernel_rfl) rfl)
    (subsets_stops _ (by omega) (2 ^ N) (by omega) hp64 (fun s hs => by have := in_fst N hN s (by omega); rw [← hst, this]; simpa using hs) b5 W0 hb5 hbx)
    (fun h k => k.trans h) (fun W l o o' hl ho hc _ => World.cell?_of_block (World.putObj_heap_other (by show b5 ≠ l; omega))) (Below.refl _ _) (fun _ => rfl)
    (fun pre W => TB w W AQ n cq b0 b1 b2 b3 b4 (fun c => tl (fun m => anyTo g m n) c pre) (fun c => tl (fun m => !(anyTo g m n)) c pre))
    (fun _ _ _ => False)
    (fun s X Y row hs hg' hr => TB.own hs hg' hr (by omega))
    (fun _ _ _ _ _ hs _ _ => hs)
    hT
    (fun x => { tmps := #[.slice AQ n cq, .int .u64 (fst_ N : Nat), .pointer (some ⟨b0, 0, none⟩), undef, .pointer (some ⟨b1, 0, none⟩), .pointer (some ⟨b2, 0, none⟩), .pointer (some ⟨b3, 0, none⟩), .pointer (some ⟨b4, 0, none⟩), .int .u64 (x.val : Int), .int .u64 (fst_ N : Nat), .func (.func 61) #[] #[.pointer (some ⟨b5, 0, none⟩)], .int .u64 (x.val : Int), undef, undef, undef, undef, undef, undef, undef, undef, undef, undef, undef, undef, undef, undef, undef, undef, undef], defers := [] }) ?assign ?body ?done ?stop
  case assign =>
    intro l x W K hK
    gi_wp2
    exact hK
  case body =>
    rintro l pre x W hTW hpl
    have hpl' : pre.length < 64 := by omega
    have hc7 : cnt x.val < 7 := by have := cnt_le x.val; omega
    have hR := reached_any g AQ n cq x.val W w.heap.size (HA.out.below hTW.bl) HG.out x.isLt hn
    have HM := Lib.hid (many_any x.val x.isLt W)
    have c0 := blk0 hTW.q
    obtain ⟨p, hp⟩ : ∃ p, anyTo g x.val n = p := ⟨_, rfl⟩
    rw [hp] at hR
    have HR := Lib.hid hR
    clear hR hpl
    have hd : 1 ≤ 3 - 1 - 1 := by omega
    cases p
    · have hcc := (blk_cell hTW.z (cnt x.val)).trans (sv_at (fun c => tl (fun m => !(anyTo g m n)) c pre) hc7)
      have hff := blk_free hTW.z (cnt x.val)
      have hle := tl_le (fun m => !(anyTo g m n)) (cnt x.val) pre
      have hput := hTW.putZ (c := cnt x.val) (g' := fun c => tl (fun m => !(anyTo g m n)) c (pre ++ [x])) ⟨hx0, by omega, by omega, by omega, by omega⟩ hc7 (fun d hd => by rw [tl_snoc]; simp [hp])
      have HPut := Lib.hid (hput.same (fun d hd => by show tl (fun m => anyTo g m n) d (pre ++ [x]) = _; rw [tl_snoc]; simp [hp]) (fun d hd => by rfl))
      have HT := Lib.hid hTW
      have hci : (cnt x.val : Int) < 7 := by omega
      have hcz : (0 : Int) ≤ (cnt x.val : Int) := by omega
      clear hput hTW hp
      generalize tl (fun m => !(anyTo g m n)) (cnt x.val) pre = t at hcc hle HPut
      generalize cnt x.val = c at hcc hff hc7 HM hci hcz HPut
      have hwr : wrap64 ((t : Int) + 1) = (t : Int) + 1 := IntWalk.wrap64_in _ (by omega)
      gi_wp2_with (first | (refine ⟨trivial, ?_⟩; gi_at_call 35; refine (CallsIn.inRound l (callsIn_wide.2 HR.out)).mono ?_; rintro e w' ⟨rfl, rfl⟩) | (refine ⟨trivial, ?_⟩; gi_at_call 39; refine (CallsIn.inRound l (callsIn_wide.2 HM.out)).mono ?_; rintro e w' ⟨rfl, rfl⟩))
      exact ⟨KeepsOthers.setCell _ _ _, World.cell?_setCell_other _ _ _ _ (fun e => by cases e; omega), HPut.out⟩

    · have hcc := (blk_cell hTW.y (cnt x.val)).trans (sv_at (fun c => tl (fun m => anyTo g m n) c pre) hc7)
      have hff := blk_free hTW.y (cnt x.val)
      have hle := tl_le (fun m => anyTo g m n) (cnt x.val) pre
      have hput := hTW.putY (c := cnt x.val) (g' := fun c => tl (fun m => anyTo g m n) c (pre ++ [x])) ⟨hx0, by omega, by omega, by omega, by omega⟩ hc7 (fun d hd => by rw [tl_snoc]; simp [hp])
      have HPut := Lib.hid (hput.same (fun d hd => by rfl) (fun d hd => by show tl (fun m => !(anyTo g m n)) d (pre ++ [x]) = _; rw [tl_snoc]; simp [hp]))
      have HT := Lib.hid hTW
      have hci : (cnt x.val : Int) < 7 := by omega
      have hcz : (0 : Int) ≤ (cnt x.val : Int) := by omega
      clear hput hTW hp
      generalize tl (fun m => anyTo g m n) (cnt x.val) pre = t at hcc hle HPut
      generalize cnt x.val = c at hcc hff hc7 HM hci hcz HPut
      have hwr : wrap64 ((t : Int) + 1) = (t : Int) + 1 := IntWalk.wrap64_in _ (by omega)
      gi_wp2_with (first | (refine ⟨trivial, ?_⟩; gi_at_call 35; refine (CallsIn.inRound l (callsIn_wide.2 HR.out)).mono ?_; rintro e w' ⟨rfl, rfl⟩) | (refine ⟨trivial, ?_⟩; gi_at_call 39; refine (CallsIn.inRound l (callsIn_wide.2 HM.out)).mono ?_; rintro e w' ⟨rfl, rfl⟩))
      exact ⟨KeepsOthers.setCell _ _ _, World.cell?_setCell_other _ _ _ _ (fun e => by cases e; omega), HPut.out⟩

  case done =>
    rintro D xs W hD rfl hTW hK
    have hu : ∀ (P : Nat → Bool) (c : Nat), tl P c (upto (2 ^ N)) = byTo P c (2 ^ N) := fun P c => tl_upto P c _ hp64
    simp only [hu] at hTW
    obtain ⟨f1, hf1⟩ : ∃ f1, f1 = (fun c => byTo (fun m => anyTo g m n) c (2 ^ N)) := ⟨_, rfl⟩
    obtain ⟨f2, hf2⟩ : ∃ f2, f2 = (fun c => byTo (fun m => !(anyTo g m n)) c (2 ^ N)) := ⟨_, rfl⟩
    rw [← hf1, ← hf2] at hTW
    have HF1 := Lib.hid hf1
    have HF2 := Lib.hid hf2
    clear hf1 hf2
    have s1 := sv_store hTW.r1 f1
    have s2 := sv_other (b := b2) s1 (by omega) f2
    have s3 := sv_store (sv_other (b := b1) hTW.r2 (by omega) f1) f2
    have s4 := sv_other (b := b2) (sv_other (b := b1) hK (by have := hTW.bl.size; omega) f1) (by omega) f2
    have s5 := sv_below (b := b2) (sv_below (b := b1) hTW.bl (by omega) f1) (by omega) f2
    have S2 := Lib.hid s2
    have S3 := Lib.hid s3
    have S4 := Lib.hid s4
    have S5 := Lib.hid s5
    clear s1 s2 s3 s4 s5
    have y0 := (blk_cell hTW.y 0).trans (sv_at f1 (by omega : 0 < 7))
    have y1 := (blk_cell hTW.y 1).trans (sv_at f1 (by omega : 1 < 7))
    have y2 := (blk_cell hTW.y 2).trans (sv_at f1 (by omega : 2 < 7))
    have y3 := (blk_cell hTW.y 3).trans (sv_at f1 (by omega : 3 < 7))
    have y4 := (blk_cell hTW.y 4).trans (sv_at f1 (by omega : 4 < 7))
    have y5 := (blk_cell hTW.y 5).trans (sv_at f1 (by omega : 5 < 7))
    have y6 := (blk_cell hTW.y 6).trans (sv_at f1 (by omega : 6 < 7))
    have z0 := (blk_cell hTW.z 0).trans (sv_at f2 (by omega : 0 < 7))
    have z1 := (blk_cell hTW.z 1).trans (sv_at f2 (by omega : 1 < 7))
    have z2 := (blk_cell hTW.z 2).trans (sv_at f2 (by omega : 2 < 7))
    have z3 := (blk_cell hTW.z 3).trans (sv_at f2 (by omega : 3 < 7))
    have z4 := (blk_cell hTW.z 4).trans (sv_at f2 (by omega : 4 < 7))
    have z5 := (blk_cell hTW.z 5).trans (sv_at f2 (by omega : 5 < 7))
    have z6 := (blk_cell hTW.z 6).trans (sv_at f2 (by omega : 6 < 7))
    have p0 := blk_cell hTW.r1 0
    have p1 := blk_cell hTW.r1 1
    have p2 := blk_cell hTW.r1 2
    have p3 := blk_cell hTW.r1 3
    have p4 := blk_cell hTW.r1 4
    have p5 := blk_cell hTW.r1 5
    have p6 := blk_cell hTW.r1 6
    have q0 := blk_cell hTW.r2 0
    have q1 := blk_cell hTW.r2 1
    have q2 := blk_cell hTW.r2 2
    have q3 := blk_cell hTW.r2 3
    have q4 := blk_cell hTW.r2 4
    have q5 := blk_cell hTW.r2 5
    have q6 := blk_cell hTW.r2 6
    have pf := blk_free hTW.r1
    have qf := blk_free hTW.r2
    simp only [sv, List.getElem?_cons_zero, List.getElem?_cons_succ] at p0 p1 p2 p3 p4 p5 p6 q0 q1 q2 q3 q4 q5 q6
    have ne1 : b1 ≠ b2 := by omega
    have ne2 : b1 ≠ b3 := by omega
    have ne3 : b1 ≠ b4 := by omega
    have ne4 : b2 ≠ b3 := by omega
    have ne5 : b2 ≠ b4 := by omega
    gi_wp2
    refine wpIn_wide.2 ?_
    go_region
    gi_wp2
    obtain ⟨Wf, hWf⟩ : ∃ Wf, Wf = (((((((((((((((W.setCell ⟨b1, 0, none⟩ (.int .i64 (f1 0 : Nat))).setCell ⟨b1, 1, none⟩ (.int .i64 (f1 1 : Nat))).setCell ⟨b1, 2, none⟩ (.int .i64 (f1 2 : Nat))).setCell ⟨b1, 3, none⟩ (.int .i64 (f1 3 : Nat))).setCell ⟨b1, 4, none⟩ (.int .i64 (f1 4 : Nat))).setCell ⟨b1, 5, none⟩ (.int .i64 (f1 5 : Nat))).setCell ⟨b1, 6, none⟩ (.int .i64 (f1 6 : Nat))).setCell ⟨b2, 0, none⟩ (.int .i64 (f2 0 : Nat))).setCell ⟨b2, 1, none⟩ (.int .i64 (f2 1 : Nat))).setCell ⟨b2, 2, none⟩ (.int .i64 (f2 2 : Nat))).setCell ⟨b2, 3, none⟩ (.int .i64 (f2 3 : Nat))).setCell ⟨b2, 4, none⟩ (.int .i64 (f2 4 : Nat))).setCell ⟨b2, 5, none⟩ (.int .i64 (f2 5 : Nat))).setCell ⟨b2, 6, none⟩ (.int .i64 (f2 6 : Nat))).drew) := ⟨_, rfl⟩
    rw [← hWf]
    have t2 : Wf.heap[b1]? = some (.cells (sv f1).toArray 54 (0, 0)) := by rw [hWf]; exact blk_drew S2.out
    have t3 : Wf.heap[b2]? = some (.cells (sv f2).toArray 54 (0, 0)) := by rw [hWf]; exact blk_drew S3.out
    have t4 : Wf.heap[D]? = some (.deferred (some [])) := by rw [hWf]; exact blk_drew S4.out
    have t5 : Below w.heap.size w Wf := by rw [hWf]; exact S5.out.drew
    clear hWf y0 y1 y2 y3 y4 y5 y6 z0 z1 z2 z3 z4 z5 z6 p0 p1 p2 p3 p4 p5 p6 q0 q1 q2 q3 q4 q5 q6 pf qf S2 S3 S4 S5
    have hbD : b1 ≠ D ∧ b2 ≠ D := by omega
    have u2 : (Wf.putObj D (.deferred none)).heap[b1]? = some (.cells (sv f1).toArray 54 (0, 0)) := (World.putObj_heap_other hbD.1).trans t2
    have u3 : (Wf.putObj D (.deferred none)).heap[b2]? = some (.cells (sv f2).toArray 54 (0, 0)) := (World.putObj_heap_other hbD.2).trans t3
    refine ⟨by simp, .inl ⟨_, _, rfl, run_takeDeferred t4, ?_⟩⟩
    have c0 := blk_cell u2 0
    have c1 := blk_cell u2 1
    have c2 := blk_cell u2 2
    have c3 := blk_cell u2 3
    have c4 := blk_cell u2 4
    have c5 := blk_cell u2 5
    have c6 := blk_cell u2 6
    have d0 := blk_cell u3 0
    have d1 := blk_cell u3 1
    have d2 := blk_cell u3 2
    have d3 := blk_cell u3 3
    have d4 := blk_cell u3 4
    have d5 := blk_cell u3 5
    have d6 := blk_cell u3 6
    simp only [sv, List.getElem?_cons_zero, List.getElem?_cons_succ] at c0 c1 c2 c3 c4 c5 c6 d0 d1 d2 d3 d4 d5 d6
    refine ⟨.tuple #[.agg (sv f1).toArray, .agg (sv f2).toArray], ?_, ?_⟩
    · simp [results, Try.results43, go_sem, sv, c0, c1, c2, c3, c4, c5, c6, d0, d1, d2, d3, d4, d5, d6]
    · exact ⟨by rw [HF1.out, HF2.out], t5.trans (belowK_b (w := w) (Nat.le_refl _) Wf D _ _ (by omega) t4 rfl rfl)⟩
  case stop =>
    rintro D c pre W _ _ h _
    exact h.elim
end Go.Proofs.Ytiepoadnncnbkaa
