/- The program's chain of records. -/
import Derived.Test.YtijilikkdnpbmaaLog1
namespace Go.Proofs.Ytijilikkdnpbmaa
open Go.RowKit
set_option maxHeartbeats 2000000

/-- The pointer to record k of the blocks bs; none behind the last. -/
def ptr (bs : List Nat) (k : Nat) : Option Addr := bs[k]?.map fun b => ⟨b, 0, none⟩
/-- Where the next record's pointer goes. -/
def endA (F : Nat) (bs : List Nat) : Addr := match bs.getLast? with
  | none => ⟨F, 0, none⟩
  | some b => ⟨b, 3, none⟩
def recO (fl : List Int) (k : Nat) (p : Option Addr) : Obj := .cells #[.int .i64 (fV fl k), .int .i64 (fC fl k), .int .i64 (k : Int), .pointer p] 61 (0, 0)
/-- Block F holds the pointer to the first record; the records lie in the blocks bs. -/
structure Chn (w : World) (F : Nat) (bs : List Nat) (fl : List Int) : Prop where
  fst : w.heap[F]? = some (.cells #[.pointer (ptr bs 0)] 51 (0, 0))
  rec_ : ∀ k b, bs[k]? = some b → w.heap[b]? = some (recO fl k (ptr bs (k + 1)))
  lo : ∀ b ∈ bs, F < b
  inc : bs.Pairwise (· < ·)

theorem set_heap {w : World} {g i : Nat} {cs : Array Value} {t : TypeId} (h : w.heap[g]? = some (.cells cs t (0, 0))) (u : Value) : (w.setCell ⟨g, i, none⟩ u).heap[g]? = some (.cells (cs.setIfInBounds i u) t (0, 0)) := by
  simp [World.setCell, Array.getElem?_modify, h]
theorem lt_heap {w : World} {g : Nat} {o : Obj} (h : w.heap[g]? = some o) : g < w.heap.size := by
  rcases Nat.lt_or_ge g w.heap.size with hlt | hge
  · exact hlt
  · rw [Array.getElem?_eq_none hge] at h; cases h
theorem ptr_snoc_lt {bs : List Nat} {N k : Nat} (h : k < bs.length) : ptr (bs ++ [N]) k = ptr bs k := by
  unfold ptr; rw [List.getElem?_append_left h]
theorem ptr_snoc_at {bs : List Nat} {N : Nat} : ptr (bs ++ [N]) bs.length = some ⟨N, 0, none⟩ := by
  unfold ptr; simp
theorem ptr_none {bs : List Nat} {k : Nat} (h : bs.length ≤ k) : ptr bs k = none := by
  unfold ptr; simp [h]
theorem ptr_some {bs : List Nat} {k : Nat} (h : k < bs.length) : ptr bs k = some ⟨bs[k], 0, none⟩ := by
  unfold ptr; simp [h]

theorem Chn.endc {w : World} {F : Nat} {bs : List Nat} {fl : List Int} (h : Chn w F bs fl) : ∃ EB EO u, endA F bs = ⟨EB, EO, none⟩ ∧ w.cell? ⟨EB, EO, none⟩ = some u ∧ w.frozen? ⟨EB, EO, none⟩ = false ∧ EB < w.heap.size ∧ F ≤ EB := by
  unfold endA
  rcases List.eq_nil_or_concat bs with rfl | ⟨L, b, hLb⟩
  · exact ⟨F, 0, _, rfl, by simp [World.cell?, h.fst]; rfl, by simp [World.frozen?, h.fst], lt_heap h.fst, Nat.le_refl _⟩
  · obtain rfl : bs = L ++ [b] := by simpa using hLb
    have hb := h.rec_ L.length b (by simp)
    exact ⟨b, 3, _, by simp, by simp [World.cell?, hb, recO]; rfl, by simp [World.frozen?, hb, recO], lt_heap hb, Nat.le_of_lt (h.lo b (by simp))⟩

theorem Chn.snoc {w wa : World} {F N : Nat} {bs : List Nat} {fl : List Int} {q : Addr} (h : Chn w F bs fl) (hq : endA F bs = q) (hb : Below w.heap.size w wa) (hN : w.heap.size ≤ N) (hr : wa.heap[N]? = some (recO fl bs.length none)) :
    Chn (wa.setCell q (.pointer (some ⟨N, 0, none⟩))) F (bs ++ [N]) fl := by
  subst hq
  have hF := lt_heap h.fst
  have hall : ∀ b ∈ bs, b < w.heap.size := fun b hb' => by
    obtain ⟨k, hk, e⟩ := List.getElem_of_mem hb'
    exact lt_heap (h.rec_ k b (by simp [hk, e]))
  have hlo : ∀ b ∈ bs ++ [N], F < b := fun b hb' => by
    rw [List.mem_append] at hb'
    rcases hb' with hb' | hb'
    · exact h.lo b hb'
    · simp at hb'; omega
  have hinc : (bs ++ [N]).Pairwise (· < ·) := by
    rw [List.pairwise_append]
    refine ⟨h.inc, by simp, fun a ha b hb' => ?_⟩
    simp at hb'
    have := hall a ha
    omega
  have hfst := (hb.block F hF).trans h.fst
  have hrec : ∀ k b, bs[k]? = some b → wa.heap[b]? = some (recO fl k (ptr bs (k + 1))) := fun k b hk => (hb.block b (hall b (List.mem_of_getElem? hk))).trans (h.rec_ k b hk)
  rcases List.eq_nil_or_concat bs with rfl | ⟨L, b, hLb⟩
  · refine ⟨?_, fun k x hk => ?_, hlo, hinc⟩
    · have := set_heap (i := 0) hfst (.pointer (some ⟨N, 0, none⟩))
      simpa [endA, ptr] using this
    · have hk0 : k = 0 ∧ x = N := by
        rcases k with _ | k
        · simp at hk; exact ⟨rfl, hk.symm⟩
        · simp at hk
      obtain ⟨rfl, rfl⟩ := hk0
      rw [ptr_none (by simp)]
      have hne : x ≠ F := by omega
      simp only [endA, List.getLast?_nil]
      rw [Below.heap_setCell wa ⟨F, 0, none⟩ _ x hne]
      exact hr
  · obtain rfl : bs = L ++ [b] := by simpa using hLb
    have hbm : b ∈ L ++ [b] := by simp
    have hbl := hall b hbm
    have hFb := h.lo b hbm
    have he : endA F (L ++ [b]) = ⟨b, 3, none⟩ := by simp [endA]
    rw [he]
    refine ⟨?_, fun k x hk => ?_, hlo, hinc⟩
    · rw [Below.heap_setCell wa ⟨b, 3, none⟩ _ F (by show F ≠ b; omega), ptr_snoc_lt (by simp)]
      exact hfst
    · rcases Nat.lt_trichotomy k L.length with hlt | heq | hgt
      · have hk' : (L ++ [b])[k]? = some x := by rw [List.getElem?_append_left (by simp; omega)] at hk; exact hk
        have hx : x ≠ b := by
          intro e
          subst e
          have hp := h.inc
          rw [List.pairwise_append] at hp
          rw [List.getElem?_append_left hlt] at hk'
          have := hp.2.2 x (List.mem_of_getElem? hk') x (by simp)
          omega
        rw [Below.heap_setCell wa ⟨b, 3, none⟩ _ x hx, ptr_snoc_lt (by simp; omega)]
        exact hrec k x hk'
      · subst heq
        have hxb : x = b := by
          rw [List.getElem?_append_left (by simp)] at hk
          simp at hk
          exact hk.symm
        subst hxb
        have h0 := hrec L.length x (by simp)
        unfold recO at h0
        have := set_heap (i := 3) h0 (.pointer (some ⟨N, 0, none⟩))
        have hp : ptr (L ++ [x] ++ [N]) (L.length + 1) = some ⟨N, 0, none⟩ := by
          have := ptr_snoc_at (bs := L ++ [x]) (N := N)
          simpa using this
        rw [hp]
        simpa [recO] using this
      · have hk1 : k = L.length + 1 ∧ x = N := by
          rw [List.getElem?_append_right (by simp; omega)] at hk
          by_cases e : k = L.length + 1
          · subst e
            simp at hk
            exact ⟨rfl, hk.symm⟩
          · rw [List.getElem?_eq_none (by simp; omega)] at hk
            cases hk
        obtain ⟨rfl, rfl⟩ := hk1
        rw [ptr_none (by simp)]
        have hne : x ≠ b := by omega
        rw [Below.heap_setCell wa ⟨b, 3, none⟩ _ x hne]
        simpa using hr
theorem Chn.below {w w' : World} {F B : Nat} {bs : List Nat} {fl : List Int} (h : Chn w F bs fl) (hb : Below B w w') (hB : w.heap.size ≤ B) : Chn w' F bs fl :=
  ⟨(hb.block F (Nat.lt_of_lt_of_le (lt_heap h.fst) hB)).trans h.fst, fun k b hk => (hb.block b (Nat.lt_of_lt_of_le (lt_heap (h.rec_ k b hk)) hB)).trans (h.rec_ k b hk), h.lo, h.inc⟩

/-- What chain hands back. -/
def ChnRes (fl : List Int) (k : Int) (n : Nat) (w : World) (e : Ending) (w' : World) : Prop :=
  ∃ (bs : List Nat) (b : Bool), logB fl k n = b ∧ e = .returned (.tuple #[.pointer (ptr bs 0), .bool b]) ∧ (b = true → bs.length = n ∧ Chn w' w.heap.size bs fl) ∧ Below w.heap.size w w'
theorem ChnRes.no {fl : List Int} {k : Int} {n : Nat} {w w' : World} (h : logB fl k n = false) (hb : Below w.heap.size w w') : ChnRes fl k n w (.returned (.tuple #[.pointer none, .bool false])) w' :=
  ⟨[], false, h, rfl, by simp, hb⟩
theorem ChnRes.yes {fl : List Int} {k : Int} {n : Nat} {w w' : World} {bs : List Nat} {p : Option Addr} (hp : ptr bs 0 = p) (h : logB fl k n = true) (hl : bs.length = n) (hc : Chn w' w.heap.size bs fl) (hb : Below w.heap.size w w') : ChnRes fl k n w (.returned (.tuple #[.pointer p, .bool true])) w' :=
  ⟨bs, true, h, by rw [hp], fun _ => ⟨hl, hc⟩, hb⟩

theorem chain_any (A : Option Addr) (n c : Nat) (fl : List Int) (k : Int) (w : World) (hA : Row w w.heap.size A (fl.map (Value.int .i64))) (hl : fl.length = n * 2) (hn : n ≤ 1048576) : Calls Try.prog 31 #[.slice A n c, .int .i64 k] w (ChnRes fl k n w) := by
  have HA := Lib.hid (row_src hA hl)
  clear hA hl
  by_cases h1 : k < 1
  · have HR := Lib.hid (show logB fl k n = false by simp [logB, inB_false (.inl h1)])
    go_enter Try.func31, Try.ntmps31
    go_wp2
    go_ret2
    exact ChnRes.no HR.out (Below.refl _ _)
  by_cases h2 : 5 < k
  · have HR := Lib.hid (show logB fl k n = false by simp [logB, inB_false (.inr h2)])
    go_enter Try.func31, Try.ntmps31
    go_wp2
    go_ret2
    exact ChnRes.no HR.out (Below.refl _ _)
  by_cases h3 : 12 < n
  · have HR := Lib.hid (show logB fl k n = false by simp [logB]; intros; omega)
    go_enter Try.func31, Try.ntmps31
    go_wp2
    go_ret2
    exact ChnRes.no HR.out (Below.refl _ _)
  have HL := Lib.hid (show logB fl k n = entTo fl k n by simp [logB, inB_true (show (1 : Int) ≤ k by omega) (show k ≤ 5 by omega)]; intros; omega)
  go_enter Try.func31, Try.ntmps31
  go_wp2
  go_loopw [7, 23] (fun ev i wr => ∃ (j EB EO : Nat) (bs : List Nat), j ≤ n ∧ i = .int .i64 j ∧ ev = .pointer (some ⟨EB, EO, none⟩) ∧ endA w.heap.size bs = ⟨EB, EO, none⟩ ∧ bs.length = j ∧ entTo fl k j = true ∧ Chn wr w.heap.size bs fl ∧ Below w.heap.size w wr) (fun _ i _ => n - (intOf i).toNat)
  case atStart => exact ⟨0, w.heap.size, 0, [], Nat.zero_le _, rfl, rfl, rfl, rfl, rfl, ⟨heap_alloc_new w _, by simp, by simp, by simp⟩, (Below.refl _ _).alloc (Nat.le_refl _) _⟩
  case round =>
    obtain ⟨j, EB, EO, bs, hj, rfl, rfl, he, hbs, hto, hch, hB⟩ := hrel
    have hsz := hB.size
    have HT := Lib.hid hto
    have HE := Lib.hid he
    have HS := Lib.hid hbs
    obtain ⟨EB', EO', u, he', hec, hef, hlt, hlo⟩ := hch.endc
    have hee : (⟨EB, EO, none⟩ : Addr) = ⟨EB', EO', none⟩ := he.symm.trans he'
    injection hee with hee1 hee2
    subst hee1 hee2
    clear he he' hto hbs
    by_cases hjn : j < n
    · obtain ⟨b, off, rfl, hb, hc0, hc1⟩ := HA.out j hjn
      have c0 := (hB.cell (p := ⟨b, off + j * 2, none⟩) hb).trans hc0
      have c1 := (hB.cell (p := ⟨b, off + j * 2 + 1, none⟩) hb).trans hc1
      clear hc0 hc1
      have HN := Lib.hid (show entTo fl k (j + 1) = (entTo fl k j && entB (fV fl j) (fC fl j) k) from rfl)
      have HF := Lib.hid (ent_bad (fl := fl) (n := k) hjn)
      have i1 : (j : Int) < n := by omega
      obtain ⟨_, _, _, _, _, _, _⟩ := ups hlt
      have hec3 : ∀ o1 o2 o3 : Obj, (((wr.alloc o1).alloc o2).alloc o3).cell? ⟨EB, EO, none⟩ = some u := fun o1 o2 o3 => by
        rw [World.cell?_alloc_lt _ _ _ (by simp; omega), World.cell?_alloc_lt _ _ _ (by simp; omega), World.cell?_alloc_lt _ _ _ hlt]
        exact hec
      have hef3 : ∀ o1 o2 o3 : Obj, (((wr.alloc o1).alloc o2).alloc o3).frozen? ⟨EB, EO, none⟩ = false := fun o1 o2 o3 => by
        rw [World.frozen?_alloc_old _ _ _ (by simp; omega), World.frozen?_alloc_old _ _ _ (by simp; omega), World.frozen?_alloc_old _ _ _ (by show EB ≠ _; omega)]
        exact hef
      cases hb' : entB (fV fl j) (fC fl j) k
      · have HR := Lib.hid (HL.out.trans (HF.out hb'))
        go_wp2_with (go_at_call 38; refine (ok_any _ _ _ _).mono ?_; rintro e w' ⟨rfl, rfl⟩)
        go_ret2
        exact ChnRes.no HR.out (by (repeat (first | (with_reducible exact Below.refl _ _) | (with_reducible assumption) | (with_reducible refine below_drewN ?_ _) | (with_reducible refine Below.drew ?_) | (with_reducible refine Below.alloc ?_ (by (first | omega | (show _ < _; omega) | (simp; omega) | (simp; done))) _) | (with_reducible refine Below.setCell ?_ (by (first | omega | (show _ < _; omega) | (simp; omega) | (simp; done))) _) | (with_reducible refine Below.trans ?_ (Below.mono (by with_reducible assumption) (by (first | omega | (show _ < _; omega) | (simp; omega) | (simp; done))))) | (with_reducible refine below_grown ?_ (by with_reducible assumption) (by (first | omega | (show _ < _; omega) | (simp; omega) | (simp; done))) (by (first | omega | (show _ < _; omega) | (simp; omega) | (simp; done)))))))
      · go_wp2_with (go_at_call 38; refine (ok_any _ _ _ _).mono ?_; rintro e w' ⟨rfl, rfl⟩)
        go_roundw
        case rel =>
          refine ⟨j + 1, wr.heap.size + 1 + 1, 3, bs ++ [wr.heap.size + 1 + 1], by omega, by go_num, rfl, by simp [endA], by simp [HS.out], by rw [HN.out, HT.out, hb']; rfl, ?_, ?_⟩
          · refine Chn.snoc hch HE.out (by (repeat (first | (with_reducible exact Below.refl _ _) | (with_reducible assumption) | (with_reducible refine below_drewN ?_ _) | (with_reducible refine Below.drew ?_) | (with_reducible refine Below.alloc ?_ (by (first | omega | (show _ < _; omega) | (simp; omega) | (simp; done))) _) | (with_reducible refine Below.setCell ?_ (by (first | omega | (show _ < _; omega) | (simp; omega) | (simp; done))) _) | (with_reducible refine Below.trans ?_ (Below.mono (by with_reducible assumption) (by (first | omega | (show _ < _; omega) | (simp; omega) | (simp; done))))) | (with_reducible refine below_grown ?_ (by with_reducible assumption) (by (first | omega | (show _ < _; omega) | (simp; omega) | (simp; done))) (by (first | omega | (show _ < _; omega) | (simp; omega) | (simp; done))))))) (by omega) ?_
            rw [HS.out]
            have := heap_alloc_new ((wr.alloc (.cells #[.int .i64 (fV fl j), .int .i64 (fC fl j)] 33)).alloc (.cells #[.int .i64 (fV fl j), .int .i64 (fC fl j)] 33)) (recO fl j none)
            simpa [recO] using this
          · (repeat (first | (with_reducible exact Below.refl _ _) | (with_reducible assumption) | (with_reducible refine below_drewN ?_ _) | (with_reducible refine Below.drew ?_) | (with_reducible refine Below.alloc ?_ (by (first | omega | (show _ < _; omega) | (simp; omega) | (simp; done))) _) | (with_reducible refine Below.setCell ?_ (by (first | omega | (show _ < _; omega) | (simp; omega) | (simp; done))) _) | (with_reducible refine Below.trans ?_ (Below.mono (by with_reducible assumption) (by (first | omega | (show _ < _; omega) | (simp; omega) | (simp; done))))) | (with_reducible refine below_grown ?_ (by with_reducible assumption) (by (first | omega | (show _ < _; omega) | (simp; omega) | (simp; done))) (by (first | omega | (show _ < _; omega) | (simp; omega) | (simp; done))))))
        case measure => simp [intOf]; omega
    · obtain rfl : j = n := by omega
      have HC := Lib.hid hch
      have hp : wr.cell? ⟨w.heap.size, 0, none⟩ = some (.pointer (ptr bs 0)) := by simp [World.cell?, hch.fst]
      clear hch
      go_wp2
      go_ret2
      exact ChnRes.yes rfl (HL.out.trans HT.out) HS.out HC.out hB
end Go.Proofs.Ytijilikkdnpbmaa
