/- LogAppend, the program's and the reference's. -/
import Derived.Test.YtijilikkdnpbmaaLog8
namespace Go.Proofs.Ytijilikkdnpbmaa
open Go.RowKit
set_option maxHeartbeats 4000000
set_option linter.unusedVariables false

/-- What LogAppend hands back: whether, how many entries, which. -/
def apOk (fl : List Int) (k : Int) (n : Nat) (x y : Int) : Bool := logB fl k n && entB x y k && decide (n < 12)
def apN (fl : List Int) (k : Int) (n : Nat) (x y : Int) : Nat := if logB fl k n && entB x y k then (if n < 12 then n + 1 else n) else 0
def apF (fl : List Int) (k : Int) (n : Nat) (x y : Int) : List Int := if logB fl k n && entB x y k then (if n < 12 then fl ++ [x, y] else fl) else []
def AppRes (fl : List Int) (k : Int) (n : Nat) (x y : Int) (w : World) (e : Ending) (w' : World) : Prop :=
  ∃ v b m l, apOk fl k n x y = b ∧ apN fl k n x y = m ∧ apF fl k n x y = l ∧ e = .returned (.tuple #[v, .bool b]) ∧ OwnR w' w.heap.size v m l ∧ Below w.heap.size w w'
theorem AppRes.mk {fl : List Int} {k : Int} {n : Nat} {x y : Int} {w w' : World} {v : Value} {b : Bool} {m : Nat} {l : List Int} (h1 : apOk fl k n x y = b) (h2 : apN fl k n x y = m) (h3 : apF fl k n x y = l) (h4 : OwnR w' w.heap.size v m l) (h5 : Below w.heap.size w w') :
    AppRes fl k n x y w (.returned (.tuple #[v, .bool b])) w' := ⟨v, b, m, l, h1, h2, h3, rfl, h4, h5⟩
theorem ownr_nil (w : World) (B : Nat) : OwnR w B (.slice none 0 0) 0 [] := ⟨rfl, World.ownsRow_nil w B 33 2⟩
theorem ownr_emptyb {B : Nat} (w : World) (hB : B ≤ w.heap.size) : OwnR (w.alloc (.cells #[] 33)) B (.slice (some ⟨w.heap.size, 0, none⟩) 0 0) 0 [] := ownr_empty w hB
theorem ok_is {v c n : Int} {b : Bool} (h : entB v c n = b) (w : World) : Calls Try.prog 38 #[.agg #[.int .i64 v, .int .i64 c], .int .i64 n] w fun e w' => e = .returned (.bool b) ∧ w' = w.alloc (.cells #[.int .i64 v, .int .i64 c] 33) := by
  rw [← h]; exact ok_any v c n w
theorem l31Entry_is {v c n : Int} {b : Bool} (h : entB v c n = b) (w : World) : Calls Try.prog 28 #[.agg #[.int .i64 v, .int .i64 c], .int .i64 n] w fun e w' => e = .returned (.bool b) ∧ w' = w.alloc (.cells #[.int .i64 v, .int .i64 c] 33) := by
  rw [← h]; exact l31Entry_any v c n w

theorem implAppend_any (A : Option Addr) (n c : Nat) (fl : List Int) (k x y : Int) (w : World) (B : Nat) (hA : Row w B A (fl.map (Value.int .i64))) (hB : B ≤ w.heap.size) (hl : fl.length = n * 2) (hn : n ≤ 1048576) (hAn : A = none → n = 0) : Calls Try.prog 26 #[.slice A n c, .int .i64 k, .agg #[.int .i64 x, .int .i64 y]] w (AppRes fl k n x y w) := by
  have HR := Lib.hid hA
  have HL := Lib.hid hl
  have HAn := Lib.hid hAn
  have hBw := hB
  clear hA hl hB hAn
  obtain ⟨q, hq⟩ : ∃ q, logB fl k n = q := ⟨_, rfl⟩
  have HQ := Lib.hid hq
  obtain ⟨p, hp⟩ : ∃ p, entB x y k = p := ⟨_, rfl⟩
  have HP := Lib.hid hp
  clear hq hp
  go_enter Try.func26, Try.ntmps26
  go_wp2_with fail
  refine (implLogValid_is A n c fl k _ B (HR.out.alloc hBw _) (by simp; omega) HL.out hn HQ.out).mono ?_
  rintro e w1 ⟨rfl, hb1⟩
  have hbw1 : Below w.heap.size w w1 := ((Below.refl _ _).alloc (Nat.le_refl _) _).trans (hb1.mono (by simp))
  have hz1 := hb1.size
  simp at hz1
  have hres := (hb1.block w.heap.size (by simp)).trans (heap_alloc_new w _)
  have r0 : w1.cell? ⟨w.heap.size, 0, none⟩ = some (.int .i64 x) := by simp [World.cell?, hres]
  have r1 : w1.cell? ⟨w.heap.size, 1, none⟩ = some (.int .i64 y) := by simp [World.cell?, hres]
  have RW := Lib.hid (HR.out.keep (w' := w1) fun p hp => hbw1.cell (Nat.lt_of_lt_of_le hp hBw))
  clear hb1 hres
  cases q
  · have H := Lib.hid (show apOk fl k n x y = false ∧ apN fl k n x y = 0 ∧ apF fl k n x y = [] by simp [apOk, apN, apF, HQ.out])
    go_wp2
    go_ret2
    exact AppRes.mk H.out.1 H.out.2.1 H.out.2.2 (ownr_nil _ _) (hbw1)
  have e0 : entB x y k = p := HP.out
  have HE := Lib.hid e0
  clear e0
  cases p
  · have H := Lib.hid (show apOk fl k n x y = false ∧ apN fl k n x y = 0 ∧ apF fl k n x y = [] by simp [apOk, apN, apF, HP.out])
    go_wp2_with (go_at_call 38; refine (ok_is HE.out _).mono ?_; rintro e w2 ⟨rfl, rfl⟩)
    go_ret2
    exact AppRes.mk H.out.1 H.out.2.1 H.out.2.2 (ownr_nil _ _) (by (repeat (first | (with_reducible exact Below.refl _ _) | (with_reducible assumption) | (with_reducible refine below_drewN ?_ _) | (with_reducible refine Below.drew ?_) | (with_reducible refine Below.alloc ?_ (by (first | omega | (show _ < _; omega) | (simp; omega) | (simp; done))) _) | (with_reducible refine Below.setCell ?_ (by (first | omega | (show _ < _; omega) | (simp; omega) | (simp; done))) _) | (with_reducible refine Below.trans ?_ (Below.mono (by with_reducible assumption) (by (first | omega | (show _ < _; omega) | (simp; omega) | (simp; done))))) | (with_reducible refine below_grown ?_ (by with_reducible assumption) (by (first | omega | (show _ < _; omega) | (simp; omega) | (simp; done))) (by (first | omega | (show _ < _; omega) | (simp; omega) | (simp; done)))))))
  obtain ⟨l1, l2, l3, _⟩ := log_iff HQ.out
  have r0' : ∀ o : Obj, (w1.alloc o).cell? ⟨w.heap.size, 0, none⟩ = some (.int .i64 x) := fun o => (World.cell?_alloc_lt w1 o ⟨w.heap.size, 0, none⟩ (by show w.heap.size < _; omega)).trans r0
  have r1' : ∀ o : Obj, (w1.alloc o).cell? ⟨w.heap.size, 1, none⟩ = some (.int .i64 y) := fun o => (World.cell?_alloc_lt w1 o ⟨w.heap.size, 1, none⟩ (by show w.heap.size < _; omega)).trans r1
  by_cases h12 : n = 12
  · subst h12
    have H := Lib.hid (show apOk fl k 12 x y = false ∧ apN fl k 12 x y = 12 ∧ apF fl k 12 x y = fl by simp [apOk, apN, apF, HQ.out, HP.out])
    go_wp2_with (first
      | (go_at_call 38; refine (ok_is HE.out _).mono ?_; rintro e w2 ⟨rfl, rfl⟩)
      | (at_builtin; refine wpl_append_recs rfl (.const (.slice none 0 0)) (.tmp 19) (by rfl) w1.heap.size _ 0 [] (by rfl) (ownr_nil _ _) B A _ c fl (by rfl) (RW.out.alloc (by omega) _) HL.out HAn.out (by omega) (by omega) (by simp <;> omega) ?_; intro v3 w3 hown3 hb3 _ _; simp only [List.nil_append, Nat.zero_add] at hown3; have hs3 := hb3.size; simp at hs3; have hbw3 := ((hbw1.alloc (by omega) (.cells #[.int .i64 x, .int .i64 y] 33)).trans (hb3.mono (by omega))); have r0q : ∀ o1 o2 : Obj, (w1.alloc o1).cell? ⟨w.heap.size, 0, none⟩ = some (.int .i64 x) := fun o1 o2 => r0' o1; have r1q : ∀ o1 o2 : Obj, (w1.alloc o1).cell? ⟨w.heap.size, 1, none⟩ = some (.int .i64 y) := fun o1 o2 => r1' o1; obtain ⟨A5, c5, rfl, _, _, _⟩ := ownr_form hown3; have t0 := (hb3.cell (p := ⟨w.heap.size, 0, none⟩) (by show w.heap.size < _; omega)).trans (r0q _ (.cells #[] 33)); have t1 := (hb3.cell (p := ⟨w.heap.size, 1, none⟩) (by show w.heap.size < _; omega)).trans (r1q _ (.cells #[] 33))))
    have HO := Lib.hid hown3
    clear hown3
    go_wp2
    go_ret2
    exact AppRes.mk H.out.1 H.out.2.1 H.out.2.2 (ownr_less HO.out (by omega)) (hbw3)
  · have hn12 : n < 12 := by omega
    have H := Lib.hid (show apOk fl k n x y = true ∧ apN fl k n x y = n + 1 ∧ apF fl k n x y = fl ++ [x, y] by simp [apOk, apN, apF, HQ.out, HP.out, hn12])
    have i1 : (n : Int) < 12 := by omega
    have i2 : ((n : Int) == 12) = false := by simp; omega
    go_wp2_with (first
      | (go_at_call 38; refine (ok_is HE.out _).mono ?_; rintro e w2 ⟨rfl, rfl⟩)
      | (at_builtin; refine wpl_append_recs rfl (.const (.slice none 0 0)) (.tmp 19) (by rfl) w1.heap.size _ 0 [] (by rfl) (ownr_nil _ _) B A _ c fl (by rfl) (RW.out.alloc (by omega) _) HL.out HAn.out (by omega) (by omega) (by simp <;> omega) ?_; intro v3 w3 hown3 hb3 _ _; simp only [List.nil_append, Nat.zero_add] at hown3; have hs3 := hb3.size; simp at hs3; have hbw3 := ((hbw1.alloc (by omega) (.cells #[.int .i64 x, .int .i64 y] 33)).trans (hb3.mono (by omega))); have r0q : ∀ o1 o2 : Obj, (w1.alloc o1).cell? ⟨w.heap.size, 0, none⟩ = some (.int .i64 x) := fun o1 o2 => r0' o1; have r1q : ∀ o1 o2 : Obj, (w1.alloc o1).cell? ⟨w.heap.size, 1, none⟩ = some (.int .i64 y) := fun o1 o2 => r1' o1; obtain ⟨A5, c5, rfl, _, _, _⟩ := ownr_form hown3; have t0 := (hb3.cell (p := ⟨w.heap.size, 0, none⟩) (by show w.heap.size < _; omega)).trans (r0q _ (.cells #[] 33)); have t1 := (hb3.cell (p := ⟨w.heap.size, 1, none⟩) (by show w.heap.size < _; omega)).trans (r1q _ (.cells #[] 33)))
      | (at_builtin; refine wpl_append_rec rfl (.tmp 25) (.tmp 27) (by rfl) w1.heap.size _ n _ _ _ (by rfl) hown3 (by rfl) (by omega) (by omega) ?_; intro v' w4 hown4 hb4 _ _))
    go_ret2
    exact AppRes.mk H.out.1 H.out.2.1 H.out.2.2 (ownr_less hown4 (by omega)) (hbw3.trans (hb4.mono (by omega)))

theorem specAppend_any (A : Option Addr) (n c : Nat) (fl : List Int) (k x y : Int) (w : World) (B : Nat) (hA : Row w B A (fl.map (Value.int .i64))) (hB : B ≤ w.heap.size) (hl : fl.length = n * 2) (hn : n ≤ 1048576) (hAn : A = none → n = 0) : Calls Try.prog 25 #[.slice A n c, .int .i64 k, .agg #[.int .i64 x, .int .i64 y]] w (AppRes fl k n x y w) := by
  have HR := Lib.hid hA
  have HL := Lib.hid hl
  have HAn := Lib.hid hAn
  have hBw := hB
  clear hA hl hB hAn
  obtain ⟨q, hq⟩ : ∃ q, logB fl k n = q := ⟨_, rfl⟩
  have HQ := Lib.hid hq
  obtain ⟨p, hp⟩ : ∃ p, entB x y k = p := ⟨_, rfl⟩
  have HP := Lib.hid hp
  clear hq hp
  go_enter Try.func25, Try.ntmps25
  go_wp2_with fail
  refine (specLogValid_is A n c fl k _ B (HR.out.alloc hBw _) (by simp; omega) HL.out hn HQ.out).mono ?_
  rintro e w1 ⟨rfl, hb1⟩
  have hbw1 : Below w.heap.size w w1 := ((Below.refl _ _).alloc (Nat.le_refl _) _).trans (hb1.mono (by simp))
  have hz1 := hb1.size
  simp at hz1
  have hres := (hb1.block w.heap.size (by simp)).trans (heap_alloc_new w _)
  have r0 : w1.cell? ⟨w.heap.size, 0, none⟩ = some (.int .i64 x) := by simp [World.cell?, hres]
  have r1 : w1.cell? ⟨w.heap.size, 1, none⟩ = some (.int .i64 y) := by simp [World.cell?, hres]
  have RW := Lib.hid (HR.out.keep (w' := w1) fun p hp => hbw1.cell (Nat.lt_of_lt_of_le hp hBw))
  clear hb1 hres
  cases q
  · have H := Lib.hid (show apOk fl k n x y = false ∧ apN fl k n x y = 0 ∧ apF fl k n x y = [] by simp [apOk, apN, apF, HQ.out])
    go_wp2
    go_ret2
    exact AppRes.mk H.out.1 H.out.2.1 H.out.2.2 (ownr_emptyb w1 (by omega)) (hbw1.alloc (by omega) _)
  have e0 : entB x y k = p := HP.out
  have HE := Lib.hid e0
  clear e0
  cases p
  · have H := Lib.hid (show apOk fl k n x y = false ∧ apN fl k n x y = 0 ∧ apF fl k n x y = [] by simp [apOk, apN, apF, HP.out])
    go_wp2_with (go_at_call 28; refine (l31Entry_is HE.out _).mono ?_; rintro e w2 ⟨rfl, rfl⟩)
    go_ret2
    exact AppRes.mk H.out.1 H.out.2.1 H.out.2.2 (ownr_empty' (H := w1.heap.size + 1) (by simp) (by omega)) (by (repeat (first | (with_reducible exact Below.refl _ _) | (with_reducible assumption) | (with_reducible refine below_drewN ?_ _) | (with_reducible refine Below.drew ?_) | (with_reducible refine Below.alloc ?_ (by (first | omega | (show _ < _; omega) | (simp; omega) | (simp; done))) _) | (with_reducible refine Below.setCell ?_ (by (first | omega | (show _ < _; omega) | (simp; omega) | (simp; done))) _) | (with_reducible refine Below.trans ?_ (Below.mono (by with_reducible assumption) (by (first | omega | (show _ < _; omega) | (simp; omega) | (simp; done))))) | (with_reducible refine below_grown ?_ (by with_reducible assumption) (by (first | omega | (show _ < _; omega) | (simp; omega) | (simp; done))) (by (first | omega | (show _ < _; omega) | (simp; omega) | (simp; done)))))))
  obtain ⟨l1, l2, l3, _⟩ := log_iff HQ.out
  have r0' : ∀ o : Obj, (w1.alloc o).cell? ⟨w.heap.size, 0, none⟩ = some (.int .i64 x) := fun o => (World.cell?_alloc_lt w1 o ⟨w.heap.size, 0, none⟩ (by show w.heap.size < _; omega)).trans r0
  have r1' : ∀ o : Obj, (w1.alloc o).cell? ⟨w.heap.size, 1, none⟩ = some (.int .i64 y) := fun o => (World.cell?_alloc_lt w1 o ⟨w.heap.size, 1, none⟩ (by show w.heap.size < _; omega)).trans r1
  by_cases h12 : n = 12
  · subst h12
    have H := Lib.hid (show apOk fl k 12 x y = false ∧ apN fl k 12 x y = 12 ∧ apF fl k 12 x y = fl by simp [apOk, apN, apF, HQ.out, HP.out])
    go_wp2_with (first
      | (go_at_call 28; refine (l31Entry_is HE.out _).mono ?_; rintro e w2 ⟨rfl, rfl⟩)
      | (at_builtin; refine wpl_append_recs rfl (.tmp 20) (.tmp 21) (by rfl) w1.heap.size _ 0 [] (by rfl) (ownr_empty' (w := (w1.alloc (.cells #[.int .i64 x, .int .i64 y] 33))) (H := w1.heap.size + 1) (by simp) (by omega)) B A _ c fl (by rfl) ((RW.out.alloc (by omega) _).alloc (by simp; omega) _) HL.out HAn.out (by omega) (by omega) (by simp <;> omega) ?_; intro v3 w3 hown3 hb3 _ _; simp only [List.nil_append, Nat.zero_add] at hown3; have hs3 := hb3.size; simp at hs3; have hbw3 := (((hbw1.alloc (by omega) (.cells #[.int .i64 x, .int .i64 y] 33)).alloc (by simp; omega) (.cells #[] 33)).trans (hb3.mono (by omega))); have r0q : ∀ o1 o2 : Obj, ((w1.alloc o1).alloc o2).cell? ⟨w.heap.size, 0, none⟩ = some (.int .i64 x) := fun o1 o2 => (World.cell?_alloc_lt _ _ ⟨w.heap.size, 0, none⟩ (by show w.heap.size < _; simp; omega)).trans (r0' o1); have r1q : ∀ o1 o2 : Obj, ((w1.alloc o1).alloc o2).cell? ⟨w.heap.size, 1, none⟩ = some (.int .i64 y) := fun o1 o2 => (World.cell?_alloc_lt _ _ ⟨w.heap.size, 1, none⟩ (by show w.heap.size < _; simp; omega)).trans (r1' o1); obtain ⟨A5, c5, rfl, _, _, _⟩ := ownr_form hown3; have t0 := (hb3.cell (p := ⟨w.heap.size, 0, none⟩) (by show w.heap.size < _; omega)).trans (r0q _ (.cells #[] 33)); have t1 := (hb3.cell (p := ⟨w.heap.size, 1, none⟩) (by show w.heap.size < _; omega)).trans (r1q _ (.cells #[] 33))))
    have HO := Lib.hid hown3
    clear hown3
    go_wp2
    go_ret2
    exact AppRes.mk H.out.1 H.out.2.1 H.out.2.2 (ownr_less HO.out (by omega)) (hbw3)
  · have hn12 : n < 12 := by omega
    have H := Lib.hid (show apOk fl k n x y = true ∧ apN fl k n x y = n + 1 ∧ apF fl k n x y = fl ++ [x, y] by simp [apOk, apN, apF, HQ.out, HP.out, hn12])
    have i1 : (n : Int) < 12 := by omega
    have i2 : ((n : Int) == 12) = false := by simp; omega
    go_wp2_with (first
      | (go_at_call 28; refine (l31Entry_is HE.out _).mono ?_; rintro e w2 ⟨rfl, rfl⟩)
      | (at_builtin; refine wpl_append_recs rfl (.tmp 20) (.tmp 21) (by rfl) w1.heap.size _ 0 [] (by rfl) (ownr_empty' (w := (w1.alloc (.cells #[.int .i64 x, .int .i64 y] 33))) (H := w1.heap.size + 1) (by simp) (by omega)) B A _ c fl (by rfl) ((RW.out.alloc (by omega) _).alloc (by simp; omega) _) HL.out HAn.out (by omega) (by omega) (by simp <;> omega) ?_; intro v3 w3 hown3 hb3 _ _; simp only [List.nil_append, Nat.zero_add] at hown3; have hs3 := hb3.size; simp at hs3; have hbw3 := (((hbw1.alloc (by omega) (.cells #[.int .i64 x, .int .i64 y] 33)).alloc (by simp; omega) (.cells #[] 33)).trans (hb3.mono (by omega))); have r0q : ∀ o1 o2 : Obj, ((w1.alloc o1).alloc o2).cell? ⟨w.heap.size, 0, none⟩ = some (.int .i64 x) := fun o1 o2 => (World.cell?_alloc_lt _ _ ⟨w.heap.size, 0, none⟩ (by show w.heap.size < _; simp; omega)).trans (r0' o1); have r1q : ∀ o1 o2 : Obj, ((w1.alloc o1).alloc o2).cell? ⟨w.heap.size, 1, none⟩ = some (.int .i64 y) := fun o1 o2 => (World.cell?_alloc_lt _ _ ⟨w.heap.size, 1, none⟩ (by show w.heap.size < _; simp; omega)).trans (r1' o1); obtain ⟨A5, c5, rfl, _, _, _⟩ := ownr_form hown3; have t0 := (hb3.cell (p := ⟨w.heap.size, 0, none⟩) (by show w.heap.size < _; omega)).trans (r0q _ (.cells #[] 33)); have t1 := (hb3.cell (p := ⟨w.heap.size, 1, none⟩) (by show w.heap.size < _; omega)).trans (r1q _ (.cells #[] 33)))
      | (at_builtin; refine wpl_append_rec rfl (.tmp 27) (.tmp 29) (by rfl) w1.heap.size _ n _ _ _ (by rfl) hown3 (by rfl) (by omega) (by omega) ?_; intro v' w4 hown4 hb4 _ _))
    go_ret2
    exact AppRes.mk H.out.1 H.out.2.1 H.out.2.2 (ownr_less hown4 (by omega)) (hbw3.trans (hb4.mono (by omega)))
end Go.Proofs.Ytijilikkdnpbmaa
