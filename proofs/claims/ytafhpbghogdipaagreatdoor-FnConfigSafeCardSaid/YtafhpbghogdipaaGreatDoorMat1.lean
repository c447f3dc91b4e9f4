/- Lists of lists: laws.szIntSS weighs one, laws.toIntSS copies one, laws.eqIntSS compares two. -/
import Derived.Test.YtafhpbghogdipaaGreatDoorMat
import Derived.Test.YtafhpbghogdipaaGreatDoorInts2
namespace Go.Proofs.YtafhpbghogdipaaGreatDoor
open Go.RowKit
set_option maxHeartbeats 2000000

theorem blk_set {w : World} {g k : Nat} {l : List Value} {t : TypeId} (h : w.heap[g]? = some (.cells l.toArray t (0, 0))) (u : Value) : (w.setCell ⟨g, k, none⟩ u).heap[g]? = some (.cells (l.set k u).toArray t (0, 0)) := by
  simp [World.setCell, Array.getElem?_modify, h]
theorem blk_cell {w : World} {g : Nat} {l : List Value} {t : TypeId} (h : w.heap[g]? = some (.cells l.toArray t (0, 0))) (k : Nat) : w.cell? ⟨g, k, none⟩ = l[k]? := by
  have := cell_of_row w g k l.toArray t (0, 0) h
  simpa using this
theorem blk_free {w : World} {g : Nat} {l : List Value} {t : TypeId} (h : w.heap[g]? = some (.cells l.toArray t (0, 0))) (k : Nat) : w.frozen? ⟨g, k, none⟩ = false := by simp [World.frozen?, h]
theorem blk_lt {w : World} {g : Nat} {o : Obj} (h : w.heap[g]? = some o) : g < w.heap.size := by
  rcases Nat.lt_or_ge g w.heap.size with hlt | hge
  · exact hlt
  · rw [Array.getElem?_eq_none hge] at h; cases h

/-- Row k of a list of lists, and how long it is. -/
def rw_ (zss : List (List Int)) (k : Nat) : List Int := zss.getD k []
def ln (zss : List (List Int)) (k : Nat) : Nat := (rw_ zss k).length
/-- What came in is small enough. -/
def SzOk (zss : List (List Int)) (n : Nat) : Prop := n ≤ 1048576 ∧ ∀ k, k < n → ln zss k ≤ 1048576

structure MatAt (w : World) (B : Nat) (A : Option Addr) (zss : List (List Int)) (k : Nat) (b off : Nat) (C : Option Addr) (c : Nat) : Prop where
  adr : A = some ⟨b, off, none⟩
  lt : b < B
  cell : w.cell? ⟨b, off + k, none⟩ = some (.slice C (ln zss k) c)
  cap : ln zss k ≤ c
  max : c ≤ maxLen
  row : Row w B C ((rw_ zss k).map (Value.int .i64))
theorem Mat.get {w : World} {B n : Nat} {A : Option Addr} {zss : List (List Int)} (h : Mat w B A n zss) {k : Nat} (hk : k < n) : ∃ b off C c, MatAt w B A zss k b off C c := by
  obtain ⟨b, off, C, c, e, h1, h2, h3, h4, h5, _⟩ := h.at_ k hk
  exact ⟨b, off, C, c, e, h1, h2, h3, h4, h5⟩
theorem Mat.ints {w : World} {B n : Nat} {A : Option Addr} {zss : List (List Int)} (h : Mat w B A n zss) {k : Nat} (hk : k < n) {b off : Nat} {C : Option Addr} {c : Nat} (g : MatAt w B A zss k b off C c) (hB : B ≤ w.heap.size) : Ints .i64 w C (ln zss k) c (rw_ zss k) :=
  ⟨g.row.more hB, rfl, g.cap, g.max, h.fit k hk⟩

/-- How the weighing ends. -/
def SzRes (zss : List (List Int)) (n : Nat) (l : Int) (w : World) (e : Ending) (w' : World) : Prop := ∃ r : Int, e = .returned (.int .i64 r) ∧ w' = w ∧ r ≤ l ∧ (0 ≤ r → SzOk zss n)
/-- Block h holds the headers of the first k rows, each in a block of its own behind it. -/
def MatP (w : World) (h : Nat) (zss : List (List Int)) (n k : Nat) : Prop := ∃ xs : List Value, w.heap[h]? = some (.cells xs.toArray 62 (0, 0)) ∧ xs.length = n ∧
  (∀ j, j < k → ∃ b, h < b ∧ xs[j]? = some (.slice (some ⟨b, 0, none⟩) (ln zss j) (ln zss j)) ∧ w.heap[b]? = some (.cells ((rw_ zss j).map (Value.int .i64)).toArray 3 (0, 0))) ∧
  (∀ j, k ≤ j → j < n → xs[j]? = some (.slice none 0 0))
theorem MatP.below {w w' : World} {h n k K : Nat} {zss : List (List Int)} (m : MatP w h zss n k) (hb : Below K w w') (hK : w.heap.size ≤ K) : MatP w' h zss n k := by
  obtain ⟨xs, h1, h2, h3, h4⟩ := m
  refine ⟨xs, (hb.block h (by have := blk_lt h1; omega)).trans h1, h2, fun j hj => ?_, h4⟩
  obtain ⟨b, e1, e2, e3⟩ := h3 j hj
  exact ⟨b, e1, e2, (hb.block b (by have := blk_lt e3; omega)).trans e3⟩
theorem MatP.drewN {w : World} {h n k : Nat} {zss : List (List Int)} (m : MatP w h zss n k) (q : Nat) : MatP (w.drewN q) h zss n k := m
theorem MatP.lt {w : World} {h n k : Nat} {zss : List (List Int)} (m : MatP w h zss n k) : h < w.heap.size := by
  obtain ⟨xs, h1, _⟩ := m
  exact blk_lt h1
theorem MatP.slot {w : World} {h n k : Nat} {zss : List (List Int)} (m : MatP w h zss n k) (hk : k < n) : w.cell? ⟨h, k, none⟩ = some (.slice none 0 0) ∧ w.frozen? ⟨h, k, none⟩ = false := by
  obtain ⟨xs, h1, h2, h3, h4⟩ := m
  exact ⟨(blk_cell h1 k).trans (h4 k (Nat.le_refl _) hk), blk_free h1 k⟩
theorem MatP.put {w : World} {h n k b : Nat} {zss : List (List Int)} (m : MatP w h zss n k) (hk : k < n) (hb : h < b) (hrow : w.heap[b]? = some (.cells ((rw_ zss k).map (Value.int .i64)).toArray 3 (0, 0))) :
    MatP (w.setCell ⟨h, k, none⟩ (.slice (some ⟨b, 0, none⟩) (ln zss k) (ln zss k))) h zss n (k + 1) := by
  obtain ⟨xs, h1, h2, h3, h4⟩ := m
  have hkeep : ∀ g o, h < g → w.heap[g]? = some o → (w.setCell ⟨h, k, none⟩ (.slice (some ⟨b, 0, none⟩) (ln zss k) (ln zss k))).heap[g]? = some o := fun g o hg ho => (Below.heap_setCell w _ _ g (by show g ≠ h; omega)).trans ho
  refine ⟨_, blk_set h1 _, by simp [h2], fun j hj => ?_, fun j hj hn => ?_⟩
  · by_cases e : j = k
    · subst e
      exact ⟨b, hb, by simp [h2, hk], hkeep _ _ hb hrow⟩
    · obtain ⟨b', e1, e2, e3⟩ := h3 j (by omega)
      exact ⟨b', e1, by rw [List.getElem?_set_ne (by omega)]; exact e2, hkeep _ _ e1 e3⟩
  · rw [List.getElem?_set_ne (by omega)]
    exact h4 j (by omega) hn
theorem MatP.mat {w : World} {h n : Nat} {zss : List (List Int)} (m : MatP w h zss n n) (hl : zss.length = n) (hz : SzOk zss n) (hf : ∀ k, k < n → ∀ z ∈ zss.getD k [], (Lit.int .i64 z).wf = true) {B : Nat} (hB : w.heap.size ≤ B) : Mat w B (some ⟨h, 0, none⟩) n zss := by
  obtain ⟨xs, h1, h2, h3, h4⟩ := m
  refine ⟨hl, fun e => (by cases e), fun k hk => ?_, hf⟩
  obtain ⟨b, e1, e2, e3⟩ := h3 k hk
  refine ⟨h, 0, some ⟨b, 0, none⟩, ln zss k, rfl, by have := blk_lt h1; omega, by rw [Nat.zero_add]; exact (blk_cell h1 k).trans e2, Nat.le_refl _, ?_, row_new e3 (by have := blk_lt e3; omega), fun e => (by cases e)⟩
  have := hz.2 k hk
  unfold maxLen
  omega
theorem slices_info : (Tryz.prog.info? 62).map (fun i => (i.zero, i.size, i.bytes)) = some (some (.slice none 0 0), 1, 24) := by kernel_rfl
theorem make_rows {P : Program} (t e : TypeId) (i : TypeInfo) (ht : P.underlying t = some (.slice e)) (hi : P.info? e = some i) (hz : i.zero = some (.slice none 0 0)) (hsz : i.size = 1) (hby : i.bytes = 24)
    (n : Nat) (hn : n ≤ 1048576) (w : World) :
    (Instr.makeSlice t (.int .i64 (n : Int)) (.int .i64 (n : Int))).run P w = .ok (.slice (some ⟨w.heap.size, 0, none⟩) n n) (w.alloc (.cells (List.replicate n (Value.slice none 0 0)).toArray e)) := by
  have hr := run_make (P := P) w t e i (.slice none 0 0) ht hi hz .i64 .i64 n n (by omega) (by omega) (by rw [hby]; omega) (by omega)
  simp only [Int.toNat_natCast, hsz, Nat.mul_one] at hr
  rw [hr]
  congr 2
  have : madeCells (Value.slice none 0 0).cells n = (List.replicate n (Value.slice none 0 0)).toArray := by
    apply Array.ext_getElem?
    intro i
    by_cases h : i < n <;> simp [madeCells, Value.cells, h, Nat.mod_one]
  rw [this]
theorem MatP.made (w : World) (zss : List (List Int)) (n : Nat) : MatP (w.alloc (.cells (List.replicate n (Value.slice none 0 0)).toArray 62)) w.heap.size zss n 0 :=
  ⟨_, heap_alloc_new w _, by simp, fun j hj => absurd hj (by omega), fun j _ hj => by simp [hj]⟩

end Go.Proofs.YtafhpbghogdipaaGreatDoor
