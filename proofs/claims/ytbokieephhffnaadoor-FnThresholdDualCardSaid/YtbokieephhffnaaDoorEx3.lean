/- The program's parser: expr builds the tree that the plain parser reads. -/
import Derived.Test.YtbokieephhffnaaDoorEx2
import Derived.Test.YtbokieephhffnaaDoorOwn
namespace Go.Proofs.YtbokieephhffnaaDoor
open Go.RowKit
set_option maxHeartbeats 4000000

/-- Value v is the tree t; its blocks are of S. -/
inductive IsT (w : World) (S : Nat → Prop) : Value → Tr → Prop where
  | leaf {b n : Nat} : S b → w.heap[b]? = some (.cells #[.int .i64 (n : Int)] 43 (0, 0)) → IsT w S (.iface 41 (.pointer (some ⟨b, 0, none⟩))) (.leaf n)
  | gate {b rb n cap : Nat} {vs : List Value} {ts : List Tr} : S b → w.heap[b]? = some (.cells #[.int .i64 (n : Int), .slice (some ⟨rb, 0, none⟩) ts.length cap] 40 (0, 0)) → S rb → ts.length ≤ cap → cap ≤ maxLen → vs.length = ts.length →
      (∀ (i : Nat) (x : Value), vs[i]? = some x → w.cell? ⟨rb, i, none⟩ = some x) → (∀ (i : Nat) (x : Value) (t : Tr), vs[i]? = some x → ts[i]? = some t → IsT w S x t) → 0 < ts.length →
      IsT w S (.iface 37 (.pointer (some ⟨b, 0, none⟩))) (.gate n ts)
theorem heap_lt {w : World} {b : Nat} {o : Obj} (h : w.heap[b]? = some o) : b < w.heap.size := by
  rcases Nat.lt_or_ge b w.heap.size with hlt | hge
  · exact hlt
  · rw [Array.getElem?_eq_none hge] at h; cases h
theorem IsT.keep {w w' : World} {S S' : Nat → Prop} {v : Value} {t : Tr} (h : IsT w S v t) (hk : ∀ b, S b → b < w.heap.size → w'.heap[b]? = w.heap[b]? ∧ S' b) : IsT w' S' v t := by
  induction h with
  | leaf h1 h2 => exact .leaf (hk _ h1 (heap_lt h2)).2 ((hk _ h1 (heap_lt h2)).1.trans h2)
  | @gate b rb n cap vs ts h1 h2 h3 h4 h5 h6 h7 h8 h9 ih =>
    have hr : rb < w.heap.size := by
      have h0 : 0 < vs.length := by omega
      exact World.block_lt_of_cell? _ _ (h7 0 _ (List.getElem?_eq_getElem h0))
    refine .gate (hk _ h1 (heap_lt h2)).2 ((hk _ h1 (heap_lt h2)).1.trans h2) (hk _ h3 hr).2 h4 h5 h6 (fun i x hx => ?_) (fun i x t hx ht => ih i x t hx ht) h9
    exact (World.cell?_of_block (hk _ h3 hr).1).trans (h7 i x hx)
theorem IsT.iface {w : World} {S : Nat → Prop} {v : Value} {t : Tr} (h : IsT w S v t) : ∃ T b, v = .iface T (.pointer (some ⟨b, 0, none⟩)) := by
  cases h with
  | leaf => exact ⟨_, _, rfl⟩
  | gate => exact ⟨_, _, rfl⟩

/-- How expr ends. -/
def ExRes (s : ByteArray) (P : Nat) (W : World) (o : Option (Tr × Nat)) (e : Ending) (W' : World) : Prop :=
  W.grownBy W' (some P) ∧ match o with
    | none => e = .returned .nilIface ∧ ∃ r, Psr W' P r
    | some (t, j) => ∃ v, e = .returned v ∧ Psr W' P (s.extract j s.size) ∧ IsT W' (fun b => W.heap.size ≤ b) v t
theorem ExRes.nil {s : ByteArray} {P : Nat} {W W' : World} {o : Option (Tr × Nat)} {r : ByteArray} (ho : o = none) (hg : W.grownBy W' (some P)) (hr : Psr W' P r) : ExRes s P W o (.returned .nilIface) W' := by
  subst ho
  exact ⟨hg, rfl, r, hr⟩
theorem ExRes.tree {s : ByteArray} {P : Nat} {W W' : World} {o : Option (Tr × Nat)} {v : Value} {t : Tr} {j : Nat} (ho : o = some (t, j)) (hg : W.grownBy W' (some P)) (hr : Psr W' P (s.extract j s.size)) (ht : IsT W' (fun b => W.heap.size ≤ b) v t) : ExRes s P W o (.returned v) W' := by
  subst ho
  exact ⟨hg, v, rfl, hr, ht⟩
/-- A threshold N whose first operands are acc. -/
def finT (N : Nat) (acc : List Tr) : Option (List Tr × Nat) → Option (Tr × Nat)
  | none => none
  | some (ts, e) => if (acc ++ ts).length ≤ 6 ∧ N ≤ (acc ++ ts).length then some (.gate N (acc ++ ts), e) else none
theorem pe_gate {s : ByteArray} {f i : Nat} (hd : isD (bt s i) = true) (h : bt s (i + 1) = 40) : pe s (f + 1) i = finT (bt s i - 48) [] (pl s (pe s f) f (i + 2)) := by
  conv => lhs; unfold pe
  rw [if_pos hd, if_pos h]
  cases hp : pl s (pe s f) f (i + 2) with
  | none => rfl
  | some y => rfl
theorem pe_leaf {s : ByteArray} {f i : Nat} (hd : isD (bt s i) = true) (h : ¬ bt s (i + 1) = 40) : pe s (f + 1) i = some (.leaf (bt s i - 48), i + 1) := by
  unfold pe
  rw [if_pos hd, if_neg h]
theorem pe_no {s : ByteArray} {f i : Nat} (hd : isD (bt s i) = false) : pe s (f + 1) i = none := by
  unfold pe
  rw [if_neg (by rw [hd]; simp)]
theorem finT_none {s : ByteArray} {g : Nat → Option (Tr × Nat)} {N f j : Nat} {acc : List Tr} (h : g j = none) : finT N acc (pl s g f j) = none := by
  cases f with
  | zero => rfl
  | succ f => simp [pl, h, finT]
theorem finT_close {s : ByteArray} {g : Nat → Option (Tr × Nat)} {N f j e : Nat} {acc : List Tr} {t : Tr} (h : g j = some (t, e)) (h41 : bt s e = 41) : finT N acc (pl s g (f + 1) j) = if (acc ++ [t]).length ≤ 6 ∧ N ≤ (acc ++ [t]).length then some (.gate N (acc ++ [t]), e + 1) else none := by
  simp [pl, h, h41, finT]
theorem finT_more {s : ByteArray} {g : Nat → Option (Tr × Nat)} {N f j e : Nat} {acc : List Tr} {t : Tr} (h : g j = some (t, e)) (h41 : ¬ bt s e = 41) (h44 : bt s e = 44) : finT N acc (pl s g (f + 1) j) = finT N (acc ++ [t]) (pl s g f (e + 1)) := by
  have h1 : pl s g (f + 1) j = match pl s g f (e + 1) with | none => none | some (ts, e') => some (t :: ts, e') := by
    conv => lhs; unfold pl
    simp only [h]
    rw [if_neg h41, if_pos h44]
    cases pl s g f (e + 1) <;> rfl
  rw [h1]
  cases hp : pl s g f (e + 1) with
  | none => rfl
  | some y =>
    obtain ⟨ts, e'⟩ := y
    simp [finT]
theorem finT_bad {s : ByteArray} {g : Nat → Option (Tr × Nat)} {N f j e : Nat} {acc : List Tr} {t : Tr} (h : g j = some (t, e)) (h41 : ¬ bt s e = 41) (h44 : ¬ bt s e = 44) : finT N acc (pl s g (f + 1) j) = none := by
  simp [pl, h, h41, h44, finT]

theorem grown_below' {a w w' : World} {row : Option Nat} {K : Nat} (h : a.grownBy w row) (hb : Below K w w') (hK : a.heap.size ≤ K) : a.grownBy w' row :=
  ⟨hb.os.trans h.os, hb.tape.trans h.tape, hb.output.trans h.output, Nat.le_trans h.size hb.size, fun i hi hne => (hb.block i (by omega)).trans (h.block i hi hne)⟩
/-- How much is left. -/
def restLen (w : World) (P : Nat) : Nat := match w.cell? ⟨P, 0, none⟩ with | some (.string r) => r.size | _ => 0
theorem rest_len {w : World} {P : Nat} {r : ByteArray} (h : Psr w P r) : restLen w P = r.size := by
  unfold restLen
  rw [h.cell.1]
theorem ext_size (s : ByteArray) (j : Nat) : (s.extract j s.size).size = s.size - j := by simp [ByteArray.size_extract]
theorem tree_info : (Tryd.prog.info? 50).map (fun i => (i.zero, i.size, i.bytes)) = some (some .nilIface, 1, 16) := by kernel_rfl

/-- The state of the loop over operands: block G is the gate, the first operands are ts, place j is next. -/
structure Opd (s : ByteArray) (P G N : Nat) (w0 wr : World) (j : Nat) (ts : List Tr) (v : Value) (vs : List Value) : Prop where
  psr : Psr wr P (s.extract j s.size)
  blk : wr.heap[G]? = some (.cells #[.int .i64 (N : Int), v] 40 (0, 0))
  own : wr.ownsRow (G + 1) 50 1 v ts.length vs
  len : vs.length = ts.length
  its : ∀ (i : Nat) (x : Value) (t : Tr), vs[i]? = some x → ts[i]? = some t → IsT wr (fun b => G < b ∧ v.ownBlock ≠ some b) x t
  grw : w0.grownBy wr (some P)
  low : w0.heap.size ≤ G
  lt : P < w0.heap.size
  few : ts.length ≤ s.size
end Go.Proofs.YtbokieephhffnaaDoor
