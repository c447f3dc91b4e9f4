/- The draws of expressions: some text of few bytes; l91Expr. -/
import Derived.Test.YtbokieephhffnaaDoorExD
import Derived.Deep.RegionHeld3
namespace Go.Proofs.YtbokieephhffnaaDoor
open Go.RowKit
set_option maxHeartbeats 8000000
set_option linter.unusedVariables false

/-- A text of at most 60 bytes was drawn. -/
def DrE (R B : Nat) (q : Int) (hi : Nat) (w : World) (e : Ending) (w' : World) : Prop := ∃ str : ByteArray, e = .returned (.string str) ∧ (0 ≤ str.size ∧ str.size ≤ hi) ∧ (∃ q', q' ≤ q + 20 ∧ Rdr w' R B q') ∧ w.grownBy w' (some R)
theorem strArr2 {a b : ByteArray} {lo hi : Nat} (ha : lo ≤ a.size ∧ a.size ≤ hi) (hb : lo ≤ b.size ∧ b.size ≤ hi) : StrArr #[.string a, .string b] 2 lo hi :=
  ⟨rfl, fun k hk => match k, hk with | 0, _ => ⟨a, rfl, ha⟩ | 1, _ => ⟨b, rfl, hb⟩ | (k + 2), hk => absurd hk (by omega)⟩
theorem strArr3 {a b c : ByteArray} {lo hi : Nat} (ha : lo ≤ a.size ∧ a.size ≤ hi) (hb : lo ≤ b.size ∧ b.size ≤ hi) (hc : lo ≤ c.size ∧ c.size ≤ hi) : StrArr #[.string a, .string b, .string c] 3 lo hi :=
  ⟨rfl, fun k hk => match k, hk with | 0, _ => ⟨a, rfl, ha⟩ | 1, _ => ⟨b, rfl, hb⟩ | 2, _ => ⟨c, rfl, hc⟩ | (k + 3), hk => absurd hk (by omega)⟩

end Go.Proofs.YtbokieephhffnaaDoor
