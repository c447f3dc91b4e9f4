/- The locked contract: its methods active, expired, renews. -/
import Derived.Test.YtanapkapojljkaaLse1
import Derived.Conc.RwLib
import Derived.Conc.MuData
import Derived.Conc.MuLone
import Derived.KernelRfl
import Derived.Deep.RegionHeld3
namespace Go.Proofs
abbrev Try.muLink : Go.Conc.Locks.MuLink := { lock := 40, unlock := 41, ilock := 43, iunlock := 44, lockSlow := 49, unlockSlow := 52, disable := 45, enable := 47, acquire := 48, relMerge := 50, cas32 := 46, add32 := 51, tMutex := 55, tIMutex := 53, tPMutex := 63, tPIMutex := 64, tPI32 := 66, tUP := 68, tNoCopy := 50, tU32 := 51 }
theorem Try.muLib : Go.Conc.Locks.MuLib Try.prog Try.muLink :=
  ⟨Try.func40, Try.func41, Try.func43, Try.func44, Try.func45, Try.func47, Try.func48, Try.func50, Try.func46, Try.func51,
    Try.underlying53, Try.runUnderlying53, Try.sizeOf53, Try.isAgg53, Try.zeroValue53, Try.underlying55, Try.runUnderlying55, Try.sizeOf55, Try.isAgg55, Try.zeroValue55, Try.underlying63, Try.runUnderlying63, Try.sizeOf63, Try.isAgg63, Try.zeroValue63, Try.underlying64, Try.runUnderlying64, Try.sizeOf64, Try.isAgg64, Try.zeroValue64, Try.underlying66, Try.runUnderlying66, Try.sizeOf66, Try.isAgg66, Try.zeroValue66, Try.underlying68, Try.runUnderlying68, Try.sizeOf68, Try.isAgg68, Try.zeroValue68, Try.underlying50, Try.runUnderlying50, Try.sizeOf50, Try.isAgg50, Try.zeroValue50, Try.underlying21, Try.runUnderlying21, Try.sizeOf21, Try.isAgg21, Try.zeroValue21, (by kernel_rfl)⟩
end Go.Proofs
namespace Go.Proofs.Ytanapkapojljkaa
open Go.RowKit Go.MuLone

/-- Block b is a contract over the lease (h, s, n); its lock's word is x. -/
def Ctr (w : World) (b : Nat) (x h s n : Int) : Prop := w.heap[b]? = some (.cells #[.int .i32 x, .int .u32 0, .int .i64 h, .int .i64 s, .int .i64 n] 57 (0, 0))
section
variable {w w' : World} {b : Nat} {x y h s n : Int}
theorem Ctr.lt (hC : Ctr w b x h s n) : b < w.heap.size := by
  unfold Ctr at hC
  rcases Nat.lt_or_ge b w.heap.size with hlt | hge
  · exact hlt
  · rw [Array.getElem?_eq_none hge] at hC; cases hC
theorem Ctr.drewN (hC : Ctr w b x h s n) (k : Nat) : Ctr (w.drewN k) b x h s n := hC
theorem Ctr.drew (hC : Ctr w b x h s n) : Ctr w.drew b x h s n := hC
theorem Ctr.alloc (hC : Ctr w b x h s n) (o : Obj) : Ctr (w.alloc o) b x h s n := (Below.heap_alloc w o b hC.lt).trans hC
theorem Ctr.set_ (hC : Ctr w b x h s n) : Ctr (w.setCell ⟨b, 0, none⟩ (.int .i32 y)) b y h s n := by
  unfold Ctr at hC ⊢
  simp [World.setCell, Array.getElem?_modify, hC]
theorem Ctr.word (hC : Ctr w b x h s n) : w.cell? ⟨b, 0, none⟩ = some (.int .i32 x) := by
  unfold Ctr at hC
  simp [World.cell?, hC]
theorem Ctr.free (hC : Ctr w b x h s n) : w.frozen? ⟨b, 0, none⟩ = false := by
  unfold Ctr at hC
  simp [World.frozen?, hC]
theorem Ctr.cs (hC : Ctr w b x h s n) : w.cell? ⟨b, 2, none⟩ = some (.int .i64 h) ∧ w.cell? ⟨b, 3, none⟩ = some (.int .i64 s) ∧ w.cell? ⟨b, 4, none⟩ = some (.int .i64 n) := by
  unfold Ctr at hC
  simp [World.cell?, hC]
theorem Ctr.new (w : World) (h s n : Int) : Ctr (w.alloc (.cells #[.int .i32 0, .int .u32 0, .int .i64 h, .int .i64 s, .int .i64 n] 57)) w.heap.size 0 h s n := heap_alloc_new w _
theorem Ctr.below (hC : Ctr w b x h s n) (hb : Below w.heap.size w w') : Ctr w' b x h s n := (hb.block b hC.lt).trans hC
end

theorem end_any (h s n : Int) (w : World) (h3 : 0 ≤ s) (h4 : s ≤ 999) (h5 : 0 ≤ n) (h6 : n ≤ 999) : Calls Try.prog 42 #[.agg #[.int .i64 h, .int .i64 s, .int .i64 n]] w fun e w' => e = .returned (.int .i64 (s + n)) ∧ w' = w.alloc (.cells #[.int .i64 h, .int .i64 s, .int .i64 n] 25) := by
  go_enter Try.func42, Try.ntmps42
  go_wp2
  go_ret
  exact ⟨rfl, rfl⟩

set_option maxHeartbeats 1000000
/-- A valid lease is active: told of its numbers. -/
def actR (h s n t d : Int) : Bool := decide (0 < h) && decide (s ≤ t) && decide (t < s + n - d)
def expR (h s n t d : Int) : Bool := h == 0 || decide (s + n + d ≤ t)
def renR (h s n h' t m : Int) : Bool := h == h' && decide (s ≤ t) && decide (s + n ≤ t + m)

theorem active_any (b : Nat) (h s n t d : Int) (w : World) (hC : Ctr w b 0 h s n) (hv : lseB h s n = true) (h7 : 0 ≤ t) (h8 : t ≤ 999) (h9 : 0 ≤ d) (h10 : d ≤ 99) :
    Calls Try.prog 36 #[.pointer (some ⟨b, 0, none⟩), .int .i64 t, .int .i64 d] w fun e w' => e = .returned (.bool (actR h s n t d)) ∧ Ctr w' b 0 h s n ∧ w.grownBy w' (some b) := by
  have hC' := hC
  unfold Ctr at hC'
  have c0 : w.cell? ⟨b, 0, none⟩ = some (.int .i32 0) := by simp [World.cell?, hC']
  have c2 : w.cell? ⟨b, 2, none⟩ = some (.int .i64 h) := by simp [World.cell?, hC']
  have c3 : w.cell? ⟨b, 3, none⟩ = some (.int .i64 s) := by simp [World.cell?, hC']
  have c4 : w.cell? ⟨b, 4, none⟩ = some (.int .i64 n) := by simp [World.cell?, hC']
  have f0 : w.frozen? ⟨b, 0, none⟩ = false := by simp [World.frozen?, hC']
  have hlt := hC.lt
  have cw := Lib.hid (fun (W : World) (x : Int) (k : Ctr W b x h s n) => k.word)
  have cf := Lib.hid (fun (W : World) (x : Int) (k : Ctr W b x h s n) => k.free)
  clear hC'
  have hq : (h = 0 ∧ s = 0 ∧ n = 0 ∧ actR h s n t d = false) ∨ (1 ≤ h ∧ 0 ≤ s ∧ s ≤ 999 ∧ 1 ≤ n ∧ n ≤ 999 ∧ t < s ∧ actR h s n t d = false) ∨ (1 ≤ h ∧ 0 ≤ s ∧ s ≤ 999 ∧ 1 ≤ n ∧ n ≤ 999 ∧ s ≤ t ∧ t < s + n - d ∧ actR h s n t d = true) ∨ (1 ≤ h ∧ 0 ≤ s ∧ s ≤ 999 ∧ 1 ≤ n ∧ n ≤ 999 ∧ s ≤ t ∧ s + n - d ≤ t ∧ actR h s n t d = false) := by
    rw [lse_iff] at hv
    unfold actR
    simp
    omega
  rcases hq with ⟨rfl, rfl, rfl, hr⟩ | ⟨g0, g1, g2, g3, g4, g5, hr⟩ | ⟨g0, g1, g2, g3, g4, g5, g6, hr⟩ | ⟨g0, g1, g2, g3, g4, g5, g6, hr⟩
  all_goals rw [hr]
  all_goals clear hr
  rotate_left
  all_goals try have n1 : (h == 0) = false := by simp; omega
  rotate_right
  all_goals go_enter_defers Try.func36, Try.ntmps36
  all_goals go_wp2_with (first
    | (go_at_call 40; refine (lock_free Try.muLib ⟨b, 0, none⟩ _ (cw.out _ _ (by (repeat (first | (with_reducible assumption) | (with_reducible apply Ctr.drewN) | (with_reducible apply Ctr.drew) | (with_reducible apply Ctr.alloc) | (with_reducible apply Ctr.set_))))) (cf.out _ 0 (by (repeat (first | (with_reducible assumption) | (with_reducible apply Ctr.drewN) | (with_reducible apply Ctr.drew) | (with_reducible apply Ctr.alloc) | (with_reducible apply Ctr.set_)))))).mono ?_; rintro e w' ⟨rfl, rfl⟩)
    | (go_at_call 42; refine (end_any _ _ _ _ (by omega) (by omega) (by omega) (by omega)).mono ?_; rintro e w' ⟨rfl, rfl⟩))
  all_goals refine leaves_cons (f := 41) (args := #[.pointer (some ⟨b, 0, none⟩)]) (by simp) (by simp [go_sem]) ?_
  all_goals refine (unlock_deferred Try.muLib ⟨b, 0, none⟩ .returning _ (cw.out _ 1 (by (repeat (first | (with_reducible assumption) | (with_reducible apply Ctr.drewN) | (with_reducible apply Ctr.drew) | (with_reducible apply Ctr.alloc) | (with_reducible apply Ctr.set_))))) (cf.out _ 1 (by (repeat (first | (with_reducible assumption) | (with_reducible apply Ctr.drewN) | (with_reducible apply Ctr.drew) | (with_reducible apply Ctr.alloc) | (with_reducible apply Ctr.set_)))))).mono ?_
  all_goals (rintro e u' w'' ⟨rfl, rfl, rfl⟩)
  all_goals refine ⟨_, results_tmp rfl _ _ _, by simp [*] <;> omega, ?_, ?_⟩
  all_goals first | ((repeat (first | (with_reducible exact World.grownBy.refl _ _) | (with_reducible assumption) | (with_reducible apply grown_drewN) | (with_reducible apply grown_drew) | (with_reducible apply grown_alloc) | (with_reducible refine grown_setCell ?_ (by first | (left; rfl) | (right; (first | omega | (show _ < _; omega) | (simp; omega) | (simp; done)))) _) | (with_reducible refine grown_trans ?_ (by with_reducible assumption)))); done) | ((repeat (first | (with_reducible assumption) | (with_reducible apply Ctr.drewN) | (with_reducible apply Ctr.drew) | (with_reducible apply Ctr.alloc) | (with_reducible apply Ctr.set_))); done)

theorem expired_any (b : Nat) (h s n t d : Int) (w : World) (hC : Ctr w b 0 h s n) (hv : lseB h s n = true) (h7 : 0 ≤ t) (h8 : t ≤ 999) (h9 : 0 ≤ d) (h10 : d ≤ 99) :
    Calls Try.prog 37 #[.pointer (some ⟨b, 0, none⟩), .int .i64 t, .int .i64 d] w fun e w' => e = .returned (.bool (expR h s n t d)) ∧ Ctr w' b 0 h s n ∧ w.grownBy w' (some b) := by
  have hC' := hC
  unfold Ctr at hC'
  have c0 : w.cell? ⟨b, 0, none⟩ = some (.int .i32 0) := by simp [World.cell?, hC']
  have c2 : w.cell? ⟨b, 2, none⟩ = some (.int .i64 h) := by simp [World.cell?, hC']
  have c3 : w.cell? ⟨b, 3, none⟩ = some (.int .i64 s) := by simp [World.cell?, hC']
  have c4 : w.cell? ⟨b, 4, none⟩ = some (.int .i64 n) := by simp [World.cell?, hC']
  have f0 : w.frozen? ⟨b, 0, none⟩ = false := by simp [World.frozen?, hC']
  have hlt := hC.lt
  have cw := Lib.hid (fun (W : World) (x : Int) (k : Ctr W b x h s n) => k.word)
  have cf := Lib.hid (fun (W : World) (x : Int) (k : Ctr W b x h s n) => k.free)
  clear hC'
  have hq : (h = 0 ∧ s = 0 ∧ n = 0 ∧ expR h s n t d = true) ∨ (1 ≤ h ∧ 0 ≤ s ∧ s ≤ 999 ∧ 1 ≤ n ∧ n ≤ 999 ∧ s + n + d ≤ t ∧ expR h s n t d = true) ∨ (1 ≤ h ∧ 0 ≤ s ∧ s ≤ 999 ∧ 1 ≤ n ∧ n ≤ 999 ∧ t < s + n + d ∧ expR h s n t d = false) := by
    rw [lse_iff] at hv
    unfold expR
    simp
    omega
  rcases hq with ⟨rfl, rfl, rfl, hr⟩ | ⟨g0, g1, g2, g3, g4, g5, hr⟩ | ⟨g0, g1, g2, g3, g4, g5, hr⟩
  all_goals rw [hr]
  all_goals clear hr
  rotate_left
  all_goals try have n1 : (h == 0) = false := by simp; omega
  rotate_right
  all_goals go_enter_defers Try.func37, Try.ntmps37
  all_goals go_wp2_with (first
    | (go_at_call 40; refine (lock_free Try.muLib ⟨b, 0, none⟩ _ (cw.out _ _ (by (repeat (first | (with_reducible assumption) | (with_reducible apply Ctr.drewN) | (with_reducible apply Ctr.drew) | (with_reducible apply Ctr.alloc) | (with_reducible apply Ctr.set_))))) (cf.out _ 0 (by (repeat (first | (with_reducible assumption) | (with_reducible apply Ctr.drewN) | (with_reducible apply Ctr.drew) | (with_reducible apply Ctr.alloc) | (with_reducible apply Ctr.set_)))))).mono ?_; rintro e w' ⟨rfl, rfl⟩)
    | (go_at_call 42; refine (end_any _ _ _ _ (by omega) (by omega) (by omega) (by omega)).mono ?_; rintro e w' ⟨rfl, rfl⟩))
  all_goals refine leaves_cons (f := 41) (args := #[.pointer (some ⟨b, 0, none⟩)]) (by simp) (by simp [go_sem]) ?_
  all_goals refine (unlock_deferred Try.muLib ⟨b, 0, none⟩ .returning _ (cw.out _ 1 (by (repeat (first | (with_reducible assumption) | (with_reducible apply Ctr.drewN) | (with_reducible apply Ctr.drew) | (with_reducible apply Ctr.alloc) | (with_reducible apply Ctr.set_))))) (cf.out _ 1 (by (repeat (first | (with_reducible assumption) | (with_reducible apply Ctr.drewN) | (with_reducible apply Ctr.drew) | (with_reducible apply Ctr.alloc) | (with_reducible apply Ctr.set_)))))).mono ?_
  all_goals (rintro e u' w'' ⟨rfl, rfl, rfl⟩)
  all_goals refine ⟨_, results_tmp rfl _ _ _, by simp [*] <;> omega, ?_, ?_⟩
  all_goals first | ((repeat (first | (with_reducible exact World.grownBy.refl _ _) | (with_reducible assumption) | (with_reducible apply grown_drewN) | (with_reducible apply grown_drew) | (with_reducible apply grown_alloc) | (with_reducible refine grown_setCell ?_ (by first | (left; rfl) | (right; (first | omega | (show _ < _; omega) | (simp; omega) | (simp; done)))) _) | (with_reducible refine grown_trans ?_ (by with_reducible assumption)))); done) | ((repeat (first | (with_reducible assumption) | (with_reducible apply Ctr.drewN) | (with_reducible apply Ctr.drew) | (with_reducible apply Ctr.alloc) | (with_reducible apply Ctr.set_))); done)

theorem renews_any (b : Nat) (h s n h' t m : Int) (w : World) (hC : Ctr w b 0 h s n) (hv : lseB h s n = true) (h7 : 0 ≤ t) (h8 : t ≤ 999) (h9 : 1 ≤ m) (h10 : m ≤ 999) :
    Calls Try.prog 39 #[.pointer (some ⟨b, 0, none⟩), .agg #[.int .i64 h', .int .i64 t, .int .i64 m]] w fun e w' => e = .returned (.bool (renR h s n h' t m)) ∧ Ctr w' b 0 h s n ∧ w.grownBy w' (some b) := by
  have hC' := hC
  unfold Ctr at hC'
  have c0 : w.cell? ⟨b, 0, none⟩ = some (.int .i32 0) := by simp [World.cell?, hC']
  have c2 : w.cell? ⟨b, 2, none⟩ = some (.int .i64 h) := by simp [World.cell?, hC']
  have c3 : w.cell? ⟨b, 3, none⟩ = some (.int .i64 s) := by simp [World.cell?, hC']
  have c4 : w.cell? ⟨b, 4, none⟩ = some (.int .i64 n) := by simp [World.cell?, hC']
  have f0 : w.frozen? ⟨b, 0, none⟩ = false := by simp [World.frozen?, hC']
  have hlt := hC.lt
  have cw := Lib.hid (fun (W : World) (x : Int) (k : Ctr W b x h s n) => k.word)
  have cf := Lib.hid (fun (W : World) (x : Int) (k : Ctr W b x h s n) => k.free)
  have cq := Lib.hid (fun (W : World) (k : Ctr W b 1 h s n) => k.cs)
  clear hC'
  have hb : 0 ≤ s ∧ s ≤ 999 ∧ 0 ≤ n ∧ n ≤ 999 := by
    rw [lse_iff] at hv
    omega
  obtain ⟨b1, b2, b3, b4⟩ := hb
  have hq : (¬ h = h' ∧ renR h s n h' t m = false) ∨ (h = h' ∧ t < s ∧ renR h s n h' t m = false) ∨ (h = h' ∧ s ≤ t ∧ t + m < s + n ∧ renR h s n h' t m = false) ∨ (h = h' ∧ s ≤ t ∧ s + n ≤ t + m ∧ renR h s n h' t m = true) := by
    unfold renR
    simp
    omega
  have hq' : (((h == h') = false) ∧ renR h s n h' t m = false) ∨ (h = h' ∧ t < s ∧ decide (s ≤ t) = false ∧ renR h s n h' t m = false) ∨ (h = h' ∧ s ≤ t ∧ decide (s ≤ t) = true ∧ t + m < s + n ∧ renR h s n h' t m = false) ∨ (h = h' ∧ s ≤ t ∧ decide (s ≤ t) = true ∧ s + n ≤ t + m ∧ renR h s n h' t m = true) := by
    simp
    omega
  clear hq
  rcases hq' with ⟨g0, hr⟩ | ⟨rfl, g1, n1, hr⟩ | ⟨rfl, g1, n1, g2, hr⟩ | ⟨rfl, g1, n1, g2, hr⟩
  all_goals rw [hr]
  all_goals clear hr
  all_goals go_enter_defers Try.func39, Try.ntmps39
  all_goals go_wp2_with (go_at_call 40; refine (lock_free Try.muLib ⟨b, 0, none⟩ _ (cw.out _ _ (by (repeat (first | (with_reducible assumption) | (with_reducible apply Ctr.drewN) | (with_reducible apply Ctr.drew) | (with_reducible apply Ctr.alloc) | (with_reducible apply Ctr.set_))))) (cf.out _ 0 (by (repeat (first | (with_reducible assumption) | (with_reducible apply Ctr.drewN) | (with_reducible apply Ctr.drew) | (with_reducible apply Ctr.alloc) | (with_reducible apply Ctr.set_)))))).mono ?_; rintro e w' ⟨rfl, rfl⟩)
  all_goals obtain ⟨_, _, _, _, _, _, _⟩ := ups hlt
  iterate 2
    focus
      go_quiet (fail)
      go_wp2
    rotate_left
  iterate 2
    focus
      go_region_held3 (fun w' => w'.cell? ⟨b, 2, none⟩ = some (.int .i64 h) ∧ w'.cell? ⟨b, 3, none⟩ = some (.int .i64 s) ∧ w'.cell? ⟨b, 4, none⟩ = some (.int .i64 n) ∧ w'.cell? ⟨w.heap.size, 0, none⟩ = some (.int .i64 h) ∧ w'.cell? ⟨w.heap.size, 1, none⟩ = some (.int .i64 t) ∧ w'.cell? ⟨w.heap.size, 2, none⟩ = some (.int .i64 m)) ((refine ⟨(cq.out _ (by (repeat (first | (with_reducible assumption) | (with_reducible apply Ctr.drewN) | (with_reducible apply Ctr.drew) | (with_reducible apply Ctr.alloc) | (with_reducible apply Ctr.set_))))).1, (cq.out _ (by (repeat (first | (with_reducible assumption) | (with_reducible apply Ctr.drewN) | (with_reducible apply Ctr.drew) | (with_reducible apply Ctr.alloc) | (with_reducible apply Ctr.set_))))).2.1, (cq.out _ (by (repeat (first | (with_reducible assumption) | (with_reducible apply Ctr.drewN) | (with_reducible apply Ctr.drew) | (with_reducible apply Ctr.alloc) | (with_reducible apply Ctr.set_))))).2.2, ?_, ?_, ?_⟩ <;> simp [go_sem, World.cell?_alloc_past]))
        ((go_at_call 42; refine (end_any _ _ _ _ (by omega) (by omega) (by omega) (by omega)).mono ?_; rintro e w' ⟨rfl, rfl⟩))
      try go_wp2
    rotate_left
  all_goals refine leaves_cons (f := 41) (args := #[.pointer (some ⟨b, 0, none⟩)]) (by simp) (by simp [go_sem]) ?_
  all_goals refine (unlock_deferred Try.muLib ⟨b, 0, none⟩ .returning _ (cw.out _ 1 (by (repeat (first | (with_reducible assumption) | (with_reducible apply Ctr.drewN) | (with_reducible apply Ctr.drew) | (with_reducible apply Ctr.alloc) | (with_reducible apply Ctr.set_))))) (cf.out _ 1 (by (repeat (first | (with_reducible assumption) | (with_reducible apply Ctr.drewN) | (with_reducible apply Ctr.drew) | (with_reducible apply Ctr.alloc) | (with_reducible apply Ctr.set_)))))).mono ?_
  all_goals (rintro e u' w'' ⟨rfl, rfl, rfl⟩)
  all_goals refine ⟨_, results_tmp rfl _ _ _, by simp [*] <;> omega, ?_, ?_⟩
  all_goals first | ((repeat (first | (with_reducible exact World.grownBy.refl _ _) | (with_reducible assumption) | (with_reducible apply grown_drewN) | (with_reducible apply grown_drew) | (with_reducible apply grown_alloc) | (with_reducible refine grown_setCell ?_ (by first | (left; rfl) | (right; (first | omega | (show _ < _; omega) | (simp; omega) | (simp; done)))) _) | (with_reducible refine grown_trans ?_ (by with_reducible assumption)))); done) | ((repeat (first | (with_reducible assumption) | (with_reducible apply Ctr.drewN) | (with_reducible apply Ctr.drew) | (with_reducible apply Ctr.alloc) | (with_reducible apply Ctr.set_))); done)
end Go.Proofs.Ytanapkapojljkaa
