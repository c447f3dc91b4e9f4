/- The law FnExactFamilyValid: its walk; copies of arguments with their frames. -/
import Derived.Test.YtiepoadnncnbkaaFam2
namespace Go.Proofs.Ytiepoadnncnbkaa
open Go.RowKit
set_option maxHeartbeats 4000000

theorem implFamily_any (A : Option Addr) (n c : Nat) (zss : List (List Int)) (w : World) (h : Mat w w.heap.size A n zss) (hz : SzOk zss n) : Calls Try.prog 13 #[.slice A n c] w fun e w' => e = .returned (.bool (famB zss)) ∧ Below w.heap.size w w' := by
  have HK := Lib.hid (readFamily_any A n c zss w h hz)
  clear h hz
  go_enter Try.func13, Try.ntmps13
  go_wp2_with (go_at_call 32; refine HK.out.mono ?_; rintro e w' ⟨v, rfl, -, hb⟩; have HB := Lib.hid hb; clear hb)
  go_ret
  exact ⟨rfl, HB.out⟩

theorem Mat.more {w : World} {B B' n : Nat} {A : Option Addr} {zss : List (List Int)} (h : Mat w B A n zss) (hB : B ≤ B') : Mat w B' A n zss :=
  ⟨h.len, h.nil, fun k hk => by
    obtain ⟨b, off, C, c, e, h1, h2, h3, h4, h5, h6⟩ := h.at_ k hk
    exact ⟨b, off, C, c, e, by omega, h2, h3, h4, h5.more hB, h6⟩, h.fit⟩
/-- What came in: a list of lists. -/
def ArgM (w : World) (A : Option Addr) (n c : Nat) (zss : List (List Int)) : Prop := Mat w w.heap.size A n zss ∧ n ≤ c ∧ c ≤ maxLen
/-- The copy in block g. -/
structure CpM (w : World) (g n : Nat) (zss : List (List Int)) : Prop where
  mp : MatP w g zss n n
  len : zss.length = n
  fit : ∀ k, k < n → ∀ z ∈ zss.getD k [], (Lit.int .i64 z).wf = true
  ok : SzOk zss n
theorem CpM.mat {w : World} {g n : Nat} {zss : List (List Int)} (h : CpM w g n zss) : Mat w w.heap.size (some ⟨g, 0, none⟩) n zss := h.mp.mat h.len h.ok h.fit (Nat.le_refl _)
theorem CpM.below {w w' : World} {g n : Nat} {zss : List (List Int)} (h : CpM w g n zss) (hb : Below w.heap.size w w') : CpM w' g n zss := ⟨h.mp.below hb (Nat.le_refl _), h.len, h.fit, h.ok⟩
theorem copySS {A : Option Addr} {n c : Nat} {zss : List (List Int)} {w0 w : World} (hM : ArgM w0 A n c zss) (hz : SzOk zss n) (hb : Below w0.heap.size w0 w) : Calls Try.prog 12 #[.slice A n c] w fun e w' =>
    e = .returned (.slice (some ⟨w.heap.size, 0, none⟩) n n) ∧ CpM w' w.heap.size n zss ∧ Below w.heap.size w w' ∧ Below w0.heap.size w0 w' :=
  (toIntSS_any A n c zss w ((hM.1.below hb).more hb.size) hz).mono fun _ _ ⟨a, b, d⟩ => ⟨a, ⟨b, hM.1.len, hM.1.fit, hz⟩, d, hb.trans (d.mono hb.size)⟩
theorem eqSS {g g2 n c c2 : Nat} {zss : List (List Int)} {w0 w : World} (h1 : CpM w g n zss) (h2 : CpM w g2 n zss) (hb : Below w0.heap.size w0 w) :
    Calls Try.prog 14 #[.slice (some ⟨g, 0, none⟩) n c, .slice (some ⟨g2, 0, none⟩) n c2] w fun e w' => e = .returned (.bool true) ∧ Below w.heap.size w w' ∧ Below w0.heap.size w0 w' :=
  (eqIntSS_same _ _ n c c2 zss w h1.mat h2.mat h1.ok).mono fun _ _ ⟨a, m, hm⟩ => ⟨a, by rw [hm]; exact below_drewN (Below.refl _ _) m, by rw [hm]; exact below_drewN hb m⟩
theorem szSS {A : Option Addr} {n c : Nat} {zss : List (List Int)} {w : World} {l : Int} (hM : ArgM w A n c zss) (h0 : 0 ≤ l) (h1 : l ≤ 1048576) : Calls Try.prog 10 #[.slice A n c, .int .i64 l] w (SzRes zss n l w) :=
  szIntSS_any A n c zss l w hM.1 h0 h1 hM.2.1 hM.2.2

theorem exactFamilyValid_walk (A : Option Addr) (n c : Nat) (zss : List (List Int)) (w : World) (h : Mat w w.heap.size A n zss ∧ n ≤ c ∧ c ≤ maxLen) : Calls Try.prog 3 #[.slice A n c] w fun e w' => e = .returned (.bool true) ∧ Below w.heap.size w w' := by
  have hA : ArgM w A n c zss := h
  clear h
  go_enter Try.func3, Try.ntmps3
  go_wp2_with fail
  refine (szSS hA (by omega) (by omega)).mono ?_
  rintro e wz ⟨r, rfl, hwz, -, hz⟩
  subst hwz
  by_cases hr : r < 0
  · go_wp2_with fail
    go_ret
    exact ⟨rfl, Below.refl _ _⟩
  replace hz := hz (by omega)
  go_wp2_with fail
  refine (copySS hA hz (Below.refl _ _)).mono ?_
  rintro e w1 ⟨rfl, C1, -, hb1⟩
  go_wp2_with fail
  refine (specFamily_any _ n n zss w1 C1.mat hz).mono ?_
  rintro e w2 ⟨rfl, m, hm⟩
  replace hb1 : Below wz.heap.size wz w2 := by rw [hm]; exact below_drewN hb1 m
  clear hm C1
  go_wp2_with fail
  refine (copySS hA hz hb1).mono ?_
  rintro e w3 ⟨rfl, C3, -, hb3⟩
  go_wp2_with fail
  refine (implFamily_any _ n n zss w3 C3.mat hz).mono ?_
  rintro e w4 ⟨rfl, hb4⟩
  have C4 := C3.below hb4
  replace hb4 : Below wz.heap.size wz w4 := hb3.trans (hb4.mono hb3.size)
  clear C3
  go_wp2_with fail
  refine (copySS hA hz hb4).mono ?_
  rintro e w5 ⟨rfl, C5, hb54, hb5⟩
  replace C4 := C4.below hb54
  go_wp2_with fail
  refine (eqSS C4 C5 hb5).mono ?_
  rintro e w6 ⟨rfl, -, hb6⟩
  go_wp2
  go_ret
  exact ⟨rfl, hb6⟩
end Go.Proofs.Ytiepoadnncnbkaa
