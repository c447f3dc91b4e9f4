/- Slices of slices of integers that came in: a list of lists. -/
import Derived.Test.YtafhpbghogdipaaGreatDoorFlat
namespace Go.Proofs.YtafhpbghogdipaaGreatDoor
open Go.ChangeShapes Go.WideShapes Go.ChangeAt Go.RowKit Go.Deep

theorem ints_trod {H : Type} {enc : TypeId × Value → H} {P : Program} {w : World} {base : Nat} {held : Bool} {fuel : Nat} {k : IntKind} {t e : TypeId} {cs : List Value} {x : DataW H × List MemPlace}
    (ht : P.underlying t = some (.slice e)) (he : P.underlying e = some (.int k)) (hc : P.cellsOf e = 1) (hf : DataW.trod enc P w base (fun _ => true) held fuel t cs = some x) :
    ∃ (A : Option Addr) (n c : Nat) (zs : List Int), cs = [.slice A n c] ∧ Ints k w A n c zs := by
  rcases open_ints ht he hc hf with ⟨hcs, _⟩ | ⟨x, l, cc, zs, hcs, _, hl, hm, hz, _, hcell, hwz⟩
  · exact ⟨_, _, _, [], hcs, ⟨Row.empty, rfl, Nat.le_refl _, Nat.zero_le _, by simp⟩⟩
  · simp only [if_true] at hz
    refine ⟨_, _, _, zs.take l, hcs, ⟨?_, by simp; omega, hl, hm, fun z hz' => hwz z (List.mem_of_mem_take hz')⟩⟩
    intro hn
    have h0 : 0 < (zs.take l).length := by
      rcases Nat.eq_zero_or_pos (zs.take l).length with h | h
      · exact absurd (by simp [List.eq_nil_of_length_eq_zero h]) hn
      · exact h
    simp only [List.length_take] at h0
    obtain ⟨b, off, spot⟩ := x
    have hc0 := hcell 0 (by omega)
    have hspot : spot = none := by simpa [Addr.add] using World.cell?_spot hc0
    subst hspot
    refine ⟨b, off, rfl, ?_, fun j u hu => ?_⟩
    · have := World.block_lt_of_cell? _ _ hc0
      simpa [Addr.add] using this
    · rw [List.getElem?_map, List.getElem?_take] at hu
      split at hu
      · rename_i hjn
        have hj : j < zs.length := by omega
        have hcj := hcell j hj
        rw [List.getElem?_eq_getElem hj] at hu
        simp only [Option.map_some, Option.some.injEq] at hu
        subst hu
        have hg : zs.getD j 0 = zs[j] := by simp [List.getD, hj]
        rw [hg] at hcj
        rw [← hcj]
        unfold Addr.add
        split
        · subst_vars; simp
        · rfl
      · simp at hu

/-- The rows of a matrix, in world w, read through its headers; everything below block B. -/
structure Mat (w : World) (B : Nat) (A : Option Addr) (n : Nat) (zss : List (List Int)) : Prop where
  len : zss.length = n
  nil : A = none → n = 0
  at_ : ∀ k, k < n → ∃ b off C c, A = some ⟨b, off, none⟩ ∧ b < B ∧ w.cell? ⟨b, off + k, none⟩ = some (.slice C (zss.getD k []).length c) ∧ (zss.getD k []).length ≤ c ∧ c ≤ maxLen ∧ Row w B C ((zss.getD k []).map (Value.int .i64)) ∧ (C = none → zss.getD k [] = [])
  fit : ∀ k, k < n → ∀ z ∈ zss.getD k [], (Lit.int .i64 z).wf = true
theorem Mat.below {w w' : World} {B n : Nat} {A : Option Addr} {zss : List (List Int)} (h : Mat w B A n zss) (hb : Below B w w') : Mat w' B A n zss :=
  ⟨h.len, h.nil, fun k hk => by
    obtain ⟨b, off, C, c, e, h1, h2, h3, h4, h5, h6⟩ := h.at_ k hk
    exact ⟨b, off, C, c, e, h1, by rw [hb.cell (by exact h1)]; exact h2, h3, h4, h5.below hb, h6⟩, h.fit⟩
theorem Mat.drew {w : World} {B n : Nat} {A : Option Addr} {zss : List (List Int)} (h : Mat w B A n zss) : Mat w.drew B A n zss := ⟨h.len, h.nil, h.at_, h.fit⟩
theorem Mat.drewN {w : World} {B n : Nat} {A : Option Addr} {zss : List (List Int)} (h : Mat w B A n zss) (k : Nat) : Mat (w.drewN k) B A n zss := ⟨h.len, h.nil, h.at_, h.fit⟩

theorem mat_of {H : Type} {enc : TypeId × Value → H} {P : Program} {w : World} {base b0 : Nat} {r : Reach} {held : Bool} {t e q : TypeId} {v : Value} {d : DataW H} {ps : List MemPlace}
    (ht : P.underlying t = some (.slice e)) (he : P.underlying e = some (.slice q)) (hq : P.underlying q = some (.int .i64)) (hce : P.cellsOf e = 1) (hcq : P.cellsOf q = 1) (hv : Value.okWide P w r b0 t v) (h : DataW.Trod enc P w base (fun _ => true) held t v d ps) :
    ∃ (A : Option Addr) (n c : Nat) (zss : List (List Int)), v = .slice A n c ∧ Mat w w.heap.size A n zss ∧ n ≤ c ∧ c ≤ maxLen := by
  obtain ⟨A, n, c, rfl⟩ := okWide_slice ht hv
  obtain ⟨fuel, hf⟩ := h
  rcases open_slice ht hf with ⟨hcs, _⟩ | ⟨a, len, cap, m, f2, D, Pl, hcs, _, hl, hm, hmm, _, hi⟩
  · simp [Value.cells] at hcs
    obtain ⟨rfl, rfl, rfl⟩ := hcs
    exact ⟨_, _, _, [], rfl, ⟨rfl, fun _ => rfl, fun k hk => absurd hk (by omega), fun k hk => absurd hk (by omega)⟩, Nat.le_refl _, Nat.zero_le _⟩
  · simp [Value.cells] at hcs
    obtain ⟨rfl, rfl, rfl⟩ := hcs
    have hz : ∀ i, i < n → ∃ zs : List Int, ∃ (C : Option Addr) (c1 : Nat), w.cell? (a.add i) = some (.slice C zs.length c1) ∧ Ints .i64 w C zs.length c1 zs := by
      intro i hin
      obtain ⟨cs', hc', ht'⟩ := hi i (by rw [hmm]; split <;> omega)
      obtain ⟨C, n1, c1, zs, rfl, hI⟩ := ints_trod he hq hcq ht'
      obtain ⟨_, _, hat⟩ := World.cells?_some hc'
      have h0 := hat 0 (by rw [hce]; omega)
      rw [hce, Nat.mul_one] at h0
      have e0 : (a.add i).add 0 = a.add i := by simp [Addr.add]
      rw [e0] at h0
      have hl := hI.len
      subst hl
      exact ⟨zs, C, c1, by simpa using h0, hI⟩
    obtain ⟨zss, hzl, hP⟩ := list_of n hz
    have hat : ∀ k, k < n → zss[k]? = some (zss.getD k []) := by
      intro k hk
      rw [List.getD_eq_getElem?_getD, List.getElem?_eq_getElem (by omega)]
      rfl
    refine ⟨_, _, _, zss, rfl, ⟨hzl, ?_, ?_, ?_⟩, hl, hm⟩
    · intro e; cases e
    · intro k hk
      obtain ⟨C, c1, hc1, hI⟩ := hP k _ (hat k hk)
      obtain ⟨b, off, spot⟩ := a
      have hspot : spot = none := by
        obtain ⟨C0, c0, hc0, _⟩ := hP 0 _ (hat 0 (by omega))
        simpa [Addr.add] using World.cell?_spot hc0
      subst hspot
      have hb := World.block_lt_of_cell? _ _ hc1
      rw [addr_add'] at hb hc1
      refine ⟨b, off, C, c1, rfl, hb, hc1, hI.cap, hI.max, hI.row, ?_⟩
      rintro rfl
      rcases Nat.eq_zero_or_pos (zss.getD k []).length with h0 | h0
      · exact List.eq_nil_of_length_eq_zero h0
      · obtain ⟨b2, o2, e2, _⟩ := hI.row (by intro e; rw [List.map_eq_nil_iff] at e; rw [e] at h0; simp at h0)
        cases e2
    · intro k hk
      obtain ⟨C, c1, _, hI⟩ := hP k _ (hat k hk)
      exact hI.fit
end Go.Proofs.YtafhpbghogdipaaGreatDoor
