/- The law FnExactFamilyValid: its walk; copies of arguments with their frames. -/
import Derived.Test.YtafhpbghogdipaaDoorFam2
namespace Go.Proofs.YtafhpbghogdipaaDoor
open Go.RowKit
set_option maxHeartbeats 4000000

theorem Mat.more {w : World} {B B' n : Nat} {A : Option Addr} {zss : List (List Int)} (h : Mat w B A n zss) (hB : B ≤ B') : Mat w B' A n zss :=
  ⟨h.len, h.nil, fun k hk => by
    obtain ⟨b, off, C, c, e, h1, h2, h3, h4, h5, h6⟩ := h.at_ k hk
    exact ⟨b, off, C, c, e, by omega, h2, h3, h4, h5.more hB, h6⟩, h.fit⟩
/-- What came in: a list of lists. -/
def ArgM (w : World) (A : Option Addr) (n c : Nat) (zss : List (List Int)) : Prop := Mat w w.heap.size A n zss ∧ n ≤ c ∧ c ≤ maxLen
/-- The copy in block g. -/
structure CpM (w : World) (g n : Nat) (zss : List (List Int)) : Prop where
  mp : MatP w g zss n n
  len : zss.length = n
  fit : ∀ k, k < n → ∀ z ∈ zss.getD k [], (Lit.int .i64 z).wf = true
  ok : SzOk zss n
theorem CpM.mat {w : World} {g n : Nat} {zss : List (List Int)} (h : CpM w g n zss) : Mat w w.heap.size (some ⟨g, 0, none⟩) n zss := h.mp.mat h.len h.ok h.fit (Nat.le_refl _)
theorem CpM.below {w w' : World} {g n : Nat} {zss : List (List Int)} (h : CpM w g n zss) (hb : Below w.heap.size w w') : CpM w' g n zss := ⟨h.mp.below hb (Nat.le_refl _), h.len, h.fit, h.ok⟩
theorem copySS {A : Option Addr} {n c : Nat} {zss : List (List Int)} {w0 w : World} (hM : ArgM w0 A n c zss) (hz : SzOk zss n) (hb : Below w0.heap.size w0 w) : Calls Tryd.prog 7 #[.slice A n c] w fun e w' =>
    e = .returned (.slice (some ⟨w.heap.size, 0, none⟩) n n) ∧ CpM w' w.heap.size n zss ∧ Below w.heap.size w w' ∧ Below w0.heap.size w0 w' :=
  (toIntSS_any A n c zss w ((hM.1.below hb).more hb.size) hz).mono fun _ _ ⟨a, b, d⟩ => ⟨a, ⟨b, hM.1.len, hM.1.fit, hz⟩, d, hb.trans (d.mono hb.size)⟩
theorem eqSS {g g2 n c c2 : Nat} {zss : List (List Int)} {w0 w : World} (h1 : CpM w g n zss) (h2 : CpM w g2 n zss) (hb : Below w0.heap.size w0 w) :
    Calls Tryd.prog 10 #[.slice (some ⟨g, 0, none⟩) n c, .slice (some ⟨g2, 0, none⟩) n c2] w fun e w' => e = .returned (.bool true) ∧ Below w.heap.size w w' ∧ Below w0.heap.size w0 w' :=
  (eqIntSS_same _ _ n c c2 zss w h1.mat h2.mat h1.ok).mono fun _ _ ⟨a, m, hm⟩ => ⟨a, by rw [hm]; exact below_drewN (Below.refl _ _) m, by rw [hm]; exact below_drewN hb m⟩
theorem szSS {A : Option Addr} {n c : Nat} {zss : List (List Int)} {w : World} {l : Int} (hM : ArgM w A n c zss) (h0 : 0 ≤ l) (h1 : l ≤ 1048576) : Calls Tryd.prog 5 #[.slice A n c, .int .i64 l] w (SzRes zss n l w) :=
  szIntSS_any A n c zss l w hM.1 h0 h1 hM.2.1 hM.2.2

end Go.Proofs.YtafhpbghogdipaaDoor
