/- The law FnExactFamilyValid: its walk; copies of arguments with their frames. -/
import Derived.Test.YtafhpbghogdipaaGreatDoorFam2
namespace Go.Proofs.YtafhpbghogdipaaGreatDoor
open Go.RowKit
set_option maxHeartbeats 4000000

theorem Mat.more {w : World} {B B' n : Nat} {A : Option Addr} {zss : List (List Int)} (h : Mat w B A n zss) (hB : B ≤ B') : Mat w B' A n zss :=
  ⟨h.len, h.nil, fun k hk => by
    obtain ⟨b, off, C, c, e, h1, h2, h3, h4, h5, h6⟩ := h.at_ k hk
    exact ⟨b, off, C, c, e, by omega, h2, h3, h4, h5.more hB, h6⟩, h.fit⟩
/-- What came in: a list of lists. -/
def ArgM (w : World) (A : Option Addr) (n c : Nat) (zss : List (List Int)) : Prop := Mat w w.heap.size A n zss ∧ n ≤ c ∧ c ≤ maxLen
/-- The copy in block g. -/
structure CpM (w : World) (g n : Nat) (zss : List (List Int)) : Prop where
  mp : MatP w g zss n n
  len : zss.length = n
  fit : ∀ k, k < n → ∀ z ∈ zss.getD k [], (Lit.int .i64 z).wf = true
  ok : SzOk zss n
theorem CpM.mat {w : World} {g n : Nat} {zss : List (List Int)} (h : CpM w g n zss) : Mat w w.heap.size (some ⟨g, 0, none⟩) n zss := h.mp.mat h.len h.ok h.fit (Nat.le_refl _)
theorem CpM.below {w w' : World} {g n : Nat} {zss : List (List Int)} (h : CpM w g n zss) (hb : Below w.heap.size w w') : CpM w' g n zss := ⟨h.mp.below hb (Nat.le_refl _), h.len, h.fit, h.ok⟩
end Go.Proofs.YtafhpbghogdipaaGreatDoor
