/- The laws FnExactAvailability and FnExactResilience: their walks. -/
import Derived.Test.YtiepoadnncnbkaaMet8
namespace Go.Proofs.Ytiepoadnncnbkaa
open Go.RowKit
set_option maxHeartbeats 4000000

theorem exactAvail_walk (A : Option Addr) (n c : Nat) (zss : List (List Int)) (x : Int) (w : World) (h : Mat w w.heap.size A n zss ∧ n ≤ c ∧ c ≤ maxLen) (_hx : (Lit.int .i64 x).wf = true) : Calls Try.prog 7 #[.slice A n c, .int .i64 x] w fun e w' => e = .returned (.bool true) ∧ Below w.heap.size w w' := by
  have hA : ArgM w A n c zss := h
  clear h
  go_enter Try.func7, Try.ntmps7
  go_wp2_with fail
  refine (szSS hA (by omega) (by omega)).mono ?_
  rintro e wz ⟨r, rfl, hwz, -, hz⟩
  subst hwz
  by_cases hr : r < 0
  · go_wp2_with fail
    go_ret
    exact ⟨rfl, Below.refl _ _⟩
  replace hz := hz (by omega)
  go_wp2_with fail
  refine (copySS hA hz (Below.refl _ _)).mono ?_
  rintro e w1 ⟨rfl, C1, -, hb1⟩
  go_wp2_with fail
  refine (specAvail_any _ n n zss x w1 C1.mat hz).mono ?_
  rintro e w2 ⟨rfl, hb2⟩
  replace hb1 : Below wz.heap.size wz w2 := hb1.trans (hb2.mono hb1.size)
  clear hb2 C1
  go_wp2_with fail
  refine (copySS hA hz hb1).mono ?_
  rintro e w3 ⟨rfl, C3, -, hb3⟩
  go_wp2_with fail
  refine (implAvail_any _ n n zss x w3 C3.mat hz).mono ?_
  rintro e w4 ⟨rfl, hb4⟩
  have C4 := C3.below hb4
  replace hb4 : Below wz.heap.size wz w4 := hb3.trans (hb4.mono hb3.size)
  clear C3
  go_wp2_with fail
  refine (copySS hA hz hb4).mono ?_
  rintro e w5 ⟨rfl, C5, hb54, hb5⟩
  replace C4 := C4.below hb54
  go_wp2_with fail
  refine (eqSS C4 C5 hb5).mono ?_
  rintro e w6 ⟨rfl, -, hb6⟩
  go_wp2
  go_ret
  exact ⟨rfl, hb6⟩

theorem exactResil_walk (A : Option Addr) (n c : Nat) (zss : List (List Int)) (x : Int) (w : World) (h : Mat w w.heap.size A n zss ∧ n ≤ c ∧ c ≤ maxLen) (_hx : (Lit.int .i64 x).wf = true) : Calls Try.prog 8 #[.slice A n c, .int .i64 x] w fun e w' => e = .returned (.bool true) ∧ Below w.heap.size w w' := by
  have hA : ArgM w A n c zss := h
  clear h
  go_enter Try.func8, Try.ntmps8
  go_wp2_with fail
  refine (szSS hA (by omega) (by omega)).mono ?_
  rintro e wz ⟨r, rfl, hwz, -, hz⟩
  subst hwz
  by_cases hr : r < 0
  · go_wp2_with fail
    go_ret
    exact ⟨rfl, Below.refl _ _⟩
  replace hz := hz (by omega)
  go_wp2_with fail
  refine (copySS hA hz (Below.refl _ _)).mono ?_
  rintro e w1 ⟨rfl, C1, -, hb1⟩
  go_wp2_with fail
  refine (specResil_any _ n n zss x w1 C1.mat hz).mono ?_
  rintro e w2 ⟨rfl, hb2⟩
  replace hb1 : Below wz.heap.size wz w2 := hb1.trans (hb2.mono hb1.size)
  clear hb2 C1
  go_wp2_with fail
  refine (copySS hA hz hb1).mono ?_
  rintro e w3 ⟨rfl, C3, -, hb3⟩
  go_wp2_with fail
  refine (implResil_any _ n n zss x w3 C3.mat hz).mono ?_
  rintro e w4 ⟨rfl, hb4⟩
  have C4 := C3.below hb4
  replace hb4 : Below wz.heap.size wz w4 := hb3.trans (hb4.mono hb3.size)
  clear C3
  go_wp2_with fail
  refine (copySS hA hz hb4).mono ?_
  rintro e w5 ⟨rfl, C5, hb54, hb5⟩
  replace C4 := C4.below hb54
  go_wp2_with fail
  refine (eqSS C4 C5 hb5).mono ?_
  rintro e w6 ⟨rfl, -, hb6⟩
  go_wp2
  go_ret
  exact ⟨rfl, hb6⟩
end Go.Proofs.Ytiepoadnncnbkaa
