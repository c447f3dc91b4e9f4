/-
  No cell of these rows narrows 'for every input' (looked for: loops, veiled, ifaces, maps, wideKeys, modest, calm, conditions, laid).
  DERIVED. THE GIVEN ROWS OF THIS SEAT. 6 by the template 'for every input the law returns true; each argument reads behind the call as it read before'; 0 by the template 'total and deterministic' (their statements: YtbokieephhffnaaTotals.lean).
  GIVEN WITH THE SEED: the statements are not yours to turn. If you find one false, say at which input.
  Laid BY PROGRAM, IN A SANDBOX (cutbox-rows.mjs): the forced cells as the released guide's own fill.sh prints them over the translation 1449bf83c2c3a1f3… (all of the seat's roots in one cut). By AI agents, Wed Nov 11 2026. No macro, syntax, notation, axiom, sorry.
-/
import Derived.Test.YtbokieephhffnaaChecked
import GoSem.Claim
import GoSem.ClaimJoined
import GoSem.ClaimMapViews
import Derived.JoinedTies
import Derived.KernelRfl
namespace Go.Proofs.Ytbokieephhffnaa
/- THE CELL 'sum', in the pinned program and in every row, IS THE sha256 OF THE DUMP (.gsa) THAT YtbokieephhffnaaProg.lean LOADS. Nothing in Lean hashes anything: it is a label: what it is worth is what the hold of that sum in a sandbox is worth. -/
noncomputable def Try.pinned : Pinned := { name := "ytbokieephhffnaa", sum := "1449bf83c2c3a1f30073329e6c00296f144c76f4a1e15a146ca519fc28cd0160", checked := Try.checked }
namespace Rows
def none {H : Type} : Left H := { results := [], args := [] }

/-- 'laws.FnExactExprValid': WHATEVER THE INPUT: true; the input reads as it did. -/
def fnExactExprValidSpec : ChangeSpec := { name := "fnExactExprValid", fn := fun _ => fun
  | [d] => { results := [.lit (.bool true)], args := [d] }
  | _ => none }
def fnExactExprValidRow : OpenClaim := { program := "ytbokieephhffnaa", sum := "1449bf83c2c3a1f30073329e6c00296f144c76f4a1e15a146ca519fc28cd0160", func := "loop.example/flexquorum/laws.FnExactExprValid", spec := "fnExactExprValid", recurses := true, apart := false }
def FnExactExprValidSaid : Prop := fnExactExprValidRow.holds Try.pinned (OpenSpec.ofChange fnExactExprValidSpec)

/-- ITS FALSE NEIGHBOUR: 'it returns false'. Refute it at one input. -/
def fnExactExprValidWrong : ChangeSpec := { name := "fnExactExprValid", fn := fun _ => fun
  | [d] => { results := [.lit (.bool false)], args := [d] }
  | _ => none }
def FnExactExprValidWrongFalsely : Prop := fnExactExprValidRow.holds Try.pinned (OpenSpec.ofChange fnExactExprValidWrong)

/-- 'laws.FnExactExprDepth': WHATEVER THE INPUT: true; the input reads as it did. -/
def fnExactExprDepthSpec : ChangeSpec := { name := "fnExactExprDepth", fn := fun _ => fun
  | [d] => { results := [.lit (.bool true)], args := [d] }
  | _ => none }
def fnExactExprDepthRow : OpenClaim := { program := "ytbokieephhffnaa", sum := "1449bf83c2c3a1f30073329e6c00296f144c76f4a1e15a146ca519fc28cd0160", func := "loop.example/flexquorum/laws.FnExactExprDepth", spec := "fnExactExprDepth", recurses := true, apart := false }
def FnExactExprDepthSaid : Prop := fnExactExprDepthRow.holds Try.pinned (OpenSpec.ofChange fnExactExprDepthSpec)

/-- ITS FALSE NEIGHBOUR: 'it returns false'. Refute it at one input. -/
def fnExactExprDepthWrong : ChangeSpec := { name := "fnExactExprDepth", fn := fun _ => fun
  | [d] => { results := [.lit (.bool false)], args := [d] }
  | _ => none }
def FnExactExprDepthWrongFalsely : Prop := fnExactExprDepthRow.holds Try.pinned (OpenSpec.ofChange fnExactExprDepthWrong)

/-- 'laws.FnExprValid': WHATEVER THE INPUT: true; the input reads as it did. -/
def fnExprValidSpec : ChangeSpec := { name := "fnExprValid", fn := fun _ => fun
  | [d] => { results := [.lit (.bool true)], args := [d] }
  | _ => none }
def fnExprValidRow : OpenClaim := { program := "ytbokieephhffnaa", sum := "1449bf83c2c3a1f30073329e6c00296f144c76f4a1e15a146ca519fc28cd0160", func := "loop.example/flexquorum/laws.FnExprValid", spec := "fnExprValid", recurses := true, apart := false }
def FnExprValidSaid : Prop := fnExprValidRow.holds Try.pinned (OpenSpec.ofChange fnExprValidSpec)

/-- ITS FALSE NEIGHBOUR: 'it returns false'. Refute it at one input. -/
def fnExprValidWrong : ChangeSpec := { name := "fnExprValid", fn := fun _ => fun
  | [d] => { results := [.lit (.bool false)], args := [d] }
  | _ => none }
def FnExprValidWrongFalsely : Prop := fnExprValidRow.holds Try.pinned (OpenSpec.ofChange fnExprValidWrong)

/-- 'laws.FnDepth': WHATEVER THE INPUT: true; the input reads as it did. -/
def fnDepthSpec : ChangeSpec := { name := "fnDepth", fn := fun _ => fun
  | [d] => { results := [.lit (.bool true)], args := [d] }
  | _ => none }
def fnDepthRow : OpenClaim := { program := "ytbokieephhffnaa", sum := "1449bf83c2c3a1f30073329e6c00296f144c76f4a1e15a146ca519fc28cd0160", func := "loop.example/flexquorum/laws.FnDepth", spec := "fnDepth", recurses := true, apart := false }
def FnDepthSaid : Prop := fnDepthRow.holds Try.pinned (OpenSpec.ofChange fnDepthSpec)

/-- ITS FALSE NEIGHBOUR: 'it returns false'. Refute it at one input. -/
def fnDepthWrong : ChangeSpec := { name := "fnDepth", fn := fun _ => fun
  | [d] => { results := [.lit (.bool false)], args := [d] }
  | _ => none }
def FnDepthWrongFalsely : Prop := fnDepthRow.holds Try.pinned (OpenSpec.ofChange fnDepthWrong)

/-- 'laws.FnExactExprDual': WHATEVER THE INPUT: true; the input reads as it did. -/
def fnExactExprDualSpec : ChangeSpec := { name := "fnExactExprDual", fn := fun _ => fun
  | [d] => { results := [.lit (.bool true)], args := [d] }
  | _ => none }
def fnExactExprDualRow : OpenClaim := { program := "ytbokieephhffnaa", sum := "1449bf83c2c3a1f30073329e6c00296f144c76f4a1e15a146ca519fc28cd0160", func := "loop.example/flexquorum/laws.FnExactExprDual", spec := "fnExactExprDual", unfollowed := true, recurses := true, apart := false }
def FnExactExprDualSaid : Prop := fnExactExprDualRow.holds Try.pinned (OpenSpec.ofChange fnExactExprDualSpec)

/-- ITS FALSE NEIGHBOUR: 'it returns false'. Refute it at one input. -/
def fnExactExprDualWrong : ChangeSpec := { name := "fnExactExprDual", fn := fun _ => fun
  | [d] => { results := [.lit (.bool false)], args := [d] }
  | _ => none }
def FnExactExprDualWrongFalsely : Prop := fnExactExprDualRow.holds Try.pinned (OpenSpec.ofChange fnExactExprDualWrong)

/-- 'laws.FnDualThresholds': WHATEVER THE INPUT: true; the input reads as it did. -/
def fnDualThresholdsSpec : ChangeSpec := { name := "fnDualThresholds", fn := fun _ => fun
  | [d1, d2] => { results := [.lit (.bool true)], args := [d1, d2] }
  | _ => none }
def fnDualThresholdsRow : OpenClaim := { program := "ytbokieephhffnaa", sum := "1449bf83c2c3a1f30073329e6c00296f144c76f4a1e15a146ca519fc28cd0160", func := "loop.example/flexquorum/laws.FnDualThresholds", spec := "fnDualThresholds", unfollowed := true, recurses := true, apart := false }
def FnDualThresholdsSaid : Prop := fnDualThresholdsRow.holds Try.pinned (OpenSpec.ofChange fnDualThresholdsSpec)

/-- ITS FALSE NEIGHBOUR: 'it returns false'. Refute it at one input. -/
def fnDualThresholdsWrong : ChangeSpec := { name := "fnDualThresholds", fn := fun _ => fun
  | [d1, d2] => { results := [.lit (.bool false)], args := [d1, d2] }
  | _ => none }
def FnDualThresholdsWrongFalsely : Prop := fnDualThresholdsRow.holds Try.pinned (OpenSpec.ofChange fnDualThresholdsWrong)

/- THE SECOND FORM. 'bulk': how many values and letters a reading holds, each counted each time it is reached (what is shared counts as often as it is met; a slice's spare places count too). A statement '..UptoSaid' is the law's where the arguments, and the package variables that the reading takes, are together of bulk at most 1048576: NARROWER than '..Said'. Prove '..Said' where nothing that the law and all that it calls make is longer than what came in: it says more and counts as full. Else prove '..UptoSaid'. A law counts once. -/
mutual
def uptoBulk {H : Type} : DataW H → Nat
  | .lit (.string bytes) => bytes.length + 1
  | .lit _ => 1
  | .nil => 1
  | .ptr d => uptoBulk d + 1
  | .slice elems spare => uptoBulkAll elems + uptoBulkAll spare + 1
  | .agg parts => uptoBulkAll parts + 1
  | .iface _ d => uptoBulk d + 1
  | .map entries => uptoBulkEntries entries + 1
  | .held _ => 1
def uptoBulkAll {H : Type} : List (DataW H) → Nat
  | [] => 0
  | d :: r => uptoBulk d + uptoBulkAll r
def uptoBulkEntries {H : Type} : List (Lit × DataW H) → Nat
  | [] => 0
  | x :: r => uptoBulkEntry x + uptoBulkEntries r
def uptoBulkEntry {H : Type} : Lit × DataW H → Nat
  | (.string bytes, d) => bytes.length + uptoBulk d + 1
  | (_, d) => uptoBulk d + 1
 end
def uptoSmall : (H : Type) → List (DataW H) → Bool := fun _ ds => decide (uptoBulkAll ds ≤ 1048576)
def OpenSpec.upto (s : _root_.Go.ChangeSpec) : _root_.Go.OpenSpec := { _root_.Go.OpenSpec.ofChange s with cond := some uptoSmall }

/-- 'laws.FnExactExprValid', WHERE WHAT IT READS IS OF BULK AT MOST 1048576: true; the input reads as it did. -/
def fnExactExprValidUptoRow : OpenClaim := { program := "ytbokieephhffnaa", sum := "1449bf83c2c3a1f30073329e6c00296f144c76f4a1e15a146ca519fc28cd0160", func := "loop.example/flexquorum/laws.FnExactExprValid", spec := "fnExactExprValid", recurses := true, apart := false, narrowed := true }
def FnExactExprValidUptoSaid : Prop := fnExactExprValidUptoRow.holds Try.pinned (OpenSpec.upto fnExactExprValidSpec)

/-- 'laws.FnExactExprDepth', WHERE WHAT IT READS IS OF BULK AT MOST 1048576: true; the input reads as it did. -/
def fnExactExprDepthUptoRow : OpenClaim := { program := "ytbokieephhffnaa", sum := "1449bf83c2c3a1f30073329e6c00296f144c76f4a1e15a146ca519fc28cd0160", func := "loop.example/flexquorum/laws.FnExactExprDepth", spec := "fnExactExprDepth", recurses := true, apart := false, narrowed := true }
def FnExactExprDepthUptoSaid : Prop := fnExactExprDepthUptoRow.holds Try.pinned (OpenSpec.upto fnExactExprDepthSpec)

/-- 'laws.FnExprValid', WHERE WHAT IT READS IS OF BULK AT MOST 1048576: true; the input reads as it did. -/
def fnExprValidUptoRow : OpenClaim := { program := "ytbokieephhffnaa", sum := "1449bf83c2c3a1f30073329e6c00296f144c76f4a1e15a146ca519fc28cd0160", func := "loop.example/flexquorum/laws.FnExprValid", spec := "fnExprValid", recurses := true, apart := false, narrowed := true }
def FnExprValidUptoSaid : Prop := fnExprValidUptoRow.holds Try.pinned (OpenSpec.upto fnExprValidSpec)

/-- 'laws.FnDepth', WHERE WHAT IT READS IS OF BULK AT MOST 1048576: true; the input reads as it did. -/
def fnDepthUptoRow : OpenClaim := { program := "ytbokieephhffnaa", sum := "1449bf83c2c3a1f30073329e6c00296f144c76f4a1e15a146ca519fc28cd0160", func := "loop.example/flexquorum/laws.FnDepth", spec := "fnDepth", recurses := true, apart := false, narrowed := true }
def FnDepthUptoSaid : Prop := fnDepthUptoRow.holds Try.pinned (OpenSpec.upto fnDepthSpec)

/-- 'laws.FnExactExprDual', WHERE WHAT IT READS IS OF BULK AT MOST 1048576: true; the input reads as it did. -/
def fnExactExprDualUptoRow : OpenClaim := { program := "ytbokieephhffnaa", sum := "1449bf83c2c3a1f30073329e6c00296f144c76f4a1e15a146ca519fc28cd0160", func := "loop.example/flexquorum/laws.FnExactExprDual", spec := "fnExactExprDual", unfollowed := true, recurses := true, apart := false, narrowed := true }
def FnExactExprDualUptoSaid : Prop := fnExactExprDualUptoRow.holds Try.pinned (OpenSpec.upto fnExactExprDualSpec)

/-- 'laws.FnDualThresholds', WHERE WHAT IT READS IS OF BULK AT MOST 1048576: true; the input reads as it did. -/
def fnDualThresholdsUptoRow : OpenClaim := { program := "ytbokieephhffnaa", sum := "1449bf83c2c3a1f30073329e6c00296f144c76f4a1e15a146ca519fc28cd0160", func := "loop.example/flexquorum/laws.FnDualThresholds", spec := "fnDualThresholds", unfollowed := true, recurses := true, apart := false, narrowed := true }
def FnDualThresholdsUptoSaid : Prop := fnDualThresholdsUptoRow.holds Try.pinned (OpenSpec.upto fnDualThresholdsSpec)

end Rows
end Go.Proofs.Ytbokieephhffnaa
