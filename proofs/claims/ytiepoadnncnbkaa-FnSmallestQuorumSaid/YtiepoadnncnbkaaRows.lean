/-
  No cell of these rows narrows 'for every input' (looked for: loops, veiled, ifaces, maps, wideKeys, modest, calm, conditions, laid).
  DERIVED. THE GIVEN ROWS OF THIS SEAT. 7 by the template 'for every input the law returns true; each argument reads behind the call as it read before'; 0 by the template 'total and deterministic' (their statements: YtiepoadnncnbkaaTotals.lean).
  GIVEN WITH THE SEED: the statements are not yours to turn. If you find one false, say at which input.
  Laid BY PROGRAM, IN A SANDBOX (cutbox-rows.mjs): the forced cells as the released guide's own fill.sh prints them over the translation 550e255d70565a74… (all of the seat's roots in one cut). By AI agents, Wed Nov 11 2026. No macro, syntax, notation, axiom, sorry.
-/
import Derived.Test.YtiepoadnncnbkaaChecked
import GoSem.Claim
import GoSem.ClaimJoined
import GoSem.ClaimMapViews
import Derived.JoinedTies
import Derived.KernelRfl
namespace Go.Proofs.Ytiepoadnncnbkaa
/- THE CELL 'sum', in the pinned program and in every row, IS THE sha256 OF THE DUMP (.gsa) THAT YtiepoadnncnbkaaProg.lean LOADS. Nothing in Lean hashes anything: it is a label: what it is worth is what the hold of that sum in a sandbox is worth. -/
noncomputable def Try.pinned : Pinned := { name := "ytiepoadnncnbkaa", sum := "550e255d70565a74e9dd60e926f429b10ffce1b8d6b2120481fc1530a54eccfc", checked := Try.checked }
namespace Rows
def none {H : Type} : Left H := { results := [], args := [] }

/-- 'laws.FnExactFamilyValid': WHATEVER THE INPUT: true; the input reads as it did. -/
def fnExactFamilyValidSpec : ChangeSpec := { name := "fnExactFamilyValid", fn := fun _ => fun
  | [d] => { results := [.lit (.bool true)], args := [d] }
  | _ => none }
def fnExactFamilyValidRow : OpenClaim := { program := "ytiepoadnncnbkaa", sum := "550e255d70565a74e9dd60e926f429b10ffce1b8d6b2120481fc1530a54eccfc", func := "loop.example/flexquorum/laws.FnExactFamilyValid", spec := "fnExactFamilyValid", apart := false }
def FnExactFamilyValidSaid : Prop := fnExactFamilyValidRow.holds Try.pinned (OpenSpec.ofChange fnExactFamilyValidSpec)

/-- ITS FALSE NEIGHBOUR: 'it returns false'. Refute it at one input. -/
def fnExactFamilyValidWrong : ChangeSpec := { name := "fnExactFamilyValid", fn := fun _ => fun
  | [d] => { results := [.lit (.bool false)], args := [d] }
  | _ => none }
def FnExactFamilyValidWrongFalsely : Prop := fnExactFamilyValidRow.holds Try.pinned (OpenSpec.ofChange fnExactFamilyValidWrong)

/-- 'laws.FnExactFamilyHasQuorum': WHATEVER THE INPUT: true; the input reads as it did. -/
def fnExactFamilyHasQuorumSpec : ChangeSpec := { name := "fnExactFamilyHasQuorum", fn := fun _ => fun
  | [d1, d2] => { results := [.lit (.bool true)], args := [d1, d2] }
  | _ => none }
def fnExactFamilyHasQuorumRow : OpenClaim := { program := "ytiepoadnncnbkaa", sum := "550e255d70565a74e9dd60e926f429b10ffce1b8d6b2120481fc1530a54eccfc", func := "loop.example/flexquorum/laws.FnExactFamilyHasQuorum", spec := "fnExactFamilyHasQuorum", apart := false }
def FnExactFamilyHasQuorumSaid : Prop := fnExactFamilyHasQuorumRow.holds Try.pinned (OpenSpec.ofChange fnExactFamilyHasQuorumSpec)

/-- ITS FALSE NEIGHBOUR: 'it returns false'. Refute it at one input. -/
def fnExactFamilyHasQuorumWrong : ChangeSpec := { name := "fnExactFamilyHasQuorum", fn := fun _ => fun
  | [d1, d2] => { results := [.lit (.bool false)], args := [d1, d2] }
  | _ => none }
def FnExactFamilyHasQuorumWrongFalsely : Prop := fnExactFamilyHasQuorumRow.holds Try.pinned (OpenSpec.ofChange fnExactFamilyHasQuorumWrong)

/-- 'laws.FnExactSurvives': WHATEVER THE INPUT: true; the input reads as it did. -/
def fnExactSurvivesSpec : ChangeSpec := { name := "fnExactSurvives", fn := fun _ => fun
  | [d1, d2] => { results := [.lit (.bool true)], args := [d1, d2] }
  | _ => none }
def fnExactSurvivesRow : OpenClaim := { program := "ytiepoadnncnbkaa", sum := "550e255d70565a74e9dd60e926f429b10ffce1b8d6b2120481fc1530a54eccfc", func := "loop.example/flexquorum/laws.FnExactSurvives", spec := "fnExactSurvives", apart := false }
def FnExactSurvivesSaid : Prop := fnExactSurvivesRow.holds Try.pinned (OpenSpec.ofChange fnExactSurvivesSpec)

/-- ITS FALSE NEIGHBOUR: 'it returns false'. Refute it at one input. -/
def fnExactSurvivesWrong : ChangeSpec := { name := "fnExactSurvives", fn := fun _ => fun
  | [d1, d2] => { results := [.lit (.bool false)], args := [d1, d2] }
  | _ => none }
def FnExactSurvivesWrongFalsely : Prop := fnExactSurvivesRow.holds Try.pinned (OpenSpec.ofChange fnExactSurvivesWrong)

/-- 'laws.FnExactSmallestQuorum': WHATEVER THE INPUT: true; the input reads as it did. -/
def fnExactSmallestQuorumSpec : ChangeSpec := { name := "fnExactSmallestQuorum", fn := fun _ => fun
  | [d] => { results := [.lit (.bool true)], args := [d] }
  | _ => none }
def fnExactSmallestQuorumRow : OpenClaim := { program := "ytiepoadnncnbkaa", sum := "550e255d70565a74e9dd60e926f429b10ffce1b8d6b2120481fc1530a54eccfc", func := "loop.example/flexquorum/laws.FnExactSmallestQuorum", spec := "fnExactSmallestQuorum", apart := false }
def FnExactSmallestQuorumSaid : Prop := fnExactSmallestQuorumRow.holds Try.pinned (OpenSpec.ofChange fnExactSmallestQuorumSpec)

/-- ITS FALSE NEIGHBOUR: 'it returns false'. Refute it at one input. -/
def fnExactSmallestQuorumWrong : ChangeSpec := { name := "fnExactSmallestQuorum", fn := fun _ => fun
  | [d] => { results := [.lit (.bool false)], args := [d] }
  | _ => none }
def FnExactSmallestQuorumWrongFalsely : Prop := fnExactSmallestQuorumRow.holds Try.pinned (OpenSpec.ofChange fnExactSmallestQuorumWrong)

/-- 'laws.FnExactAvailability': WHATEVER THE INPUT: true; the input reads as it did. -/
def fnExactAvailabilitySpec : ChangeSpec := { name := "fnExactAvailability", fn := fun _ => fun
  | [d1, d2] => { results := [.lit (.bool true)], args := [d1, d2] }
  | _ => none }
def fnExactAvailabilityRow : OpenClaim := { program := "ytiepoadnncnbkaa", sum := "550e255d70565a74e9dd60e926f429b10ffce1b8d6b2120481fc1530a54eccfc", func := "loop.example/flexquorum/laws.FnExactAvailability", spec := "fnExactAvailability", unfollowed := true, recurses := true, apart := false }
def FnExactAvailabilitySaid : Prop := fnExactAvailabilityRow.holds Try.pinned (OpenSpec.ofChange fnExactAvailabilitySpec)

/-- ITS FALSE NEIGHBOUR: 'it returns false'. Refute it at one input. -/
def fnExactAvailabilityWrong : ChangeSpec := { name := "fnExactAvailability", fn := fun _ => fun
  | [d1, d2] => { results := [.lit (.bool false)], args := [d1, d2] }
  | _ => none }
def FnExactAvailabilityWrongFalsely : Prop := fnExactAvailabilityRow.holds Try.pinned (OpenSpec.ofChange fnExactAvailabilityWrong)

/-- 'laws.FnExactResilience': WHATEVER THE INPUT: true; the input reads as it did. -/
def fnExactResilienceSpec : ChangeSpec := { name := "fnExactResilience", fn := fun _ => fun
  | [d1, d2] => { results := [.lit (.bool true)], args := [d1, d2] }
  | _ => none }
def fnExactResilienceRow : OpenClaim := { program := "ytiepoadnncnbkaa", sum := "550e255d70565a74e9dd60e926f429b10ffce1b8d6b2120481fc1530a54eccfc", func := "loop.example/flexquorum/laws.FnExactResilience", spec := "fnExactResilience", unfollowed := true, recurses := true, apart := false }
def FnExactResilienceSaid : Prop := fnExactResilienceRow.holds Try.pinned (OpenSpec.ofChange fnExactResilienceSpec)

/-- ITS FALSE NEIGHBOUR: 'it returns false'. Refute it at one input. -/
def fnExactResilienceWrong : ChangeSpec := { name := "fnExactResilience", fn := fun _ => fun
  | [d1, d2] => { results := [.lit (.bool false)], args := [d1, d2] }
  | _ => none }
def FnExactResilienceWrongFalsely : Prop := fnExactResilienceRow.holds Try.pinned (OpenSpec.ofChange fnExactResilienceWrong)

/-- 'laws.FnSmallestQuorum': WHATEVER THE INPUT: true; the input reads as it did. -/
def fnSmallestQuorumSpec : ChangeSpec := { name := "fnSmallestQuorum", fn := fun _ => fun
  | [d] => { results := [.lit (.bool true)], args := [d] }
  | _ => none }
def fnSmallestQuorumRow : OpenClaim := { program := "ytiepoadnncnbkaa", sum := "550e255d70565a74e9dd60e926f429b10ffce1b8d6b2120481fc1530a54eccfc", func := "loop.example/flexquorum/laws.FnSmallestQuorum", spec := "fnSmallestQuorum", recurses := true, apart := false }
def FnSmallestQuorumSaid : Prop := fnSmallestQuorumRow.holds Try.pinned (OpenSpec.ofChange fnSmallestQuorumSpec)

/-- ITS FALSE NEIGHBOUR: 'it returns false'. Refute it at one input. -/
def fnSmallestQuorumWrong : ChangeSpec := { name := "fnSmallestQuorum", fn := fun _ => fun
  | [d] => { results := [.lit (.bool false)], args := [d] }
  | _ => none }
def FnSmallestQuorumWrongFalsely : Prop := fnSmallestQuorumRow.holds Try.pinned (OpenSpec.ofChange fnSmallestQuorumWrong)

/- THE SECOND FORM. 'bulk': how many values and letters a reading holds, each counted each time it is reached (what is shared counts as often as it is met; a slice's spare places count too). A statement '..UptoSaid' is the law's where the arguments, and the package variables that the reading takes, are together of bulk at most 1048576: NARROWER than '..Said'. Prove '..Said' where nothing that the law and all that it calls make is longer than what came in: it says more and counts as full. Else prove '..UptoSaid'. A law counts once. -/
mutual
def uptoBulk {H : Type} : DataW H → Nat
  | .lit (.string bytes) => bytes.length + 1
  | .lit _ => 1
  | .nil => 1
  | .ptr d => uptoBulk d + 1
  | .slice elems spare => uptoBulkAll elems + uptoBulkAll spare + 1
  | .agg parts => uptoBulkAll parts + 1
  | .iface _ d => uptoBulk d + 1
  | .map entries => uptoBulkEntries entries + 1
  | .held _ => 1
def uptoBulkAll {H : Type} : List (DataW H) → Nat
  | [] => 0
  | d :: r => uptoBulk d + uptoBulkAll r
def uptoBulkEntries {H : Type} : List (Lit × DataW H) → Nat
  | [] => 0
  | x :: r => uptoBulkEntry x + uptoBulkEntries r
def uptoBulkEntry {H : Type} : Lit × DataW H → Nat
  | (.string bytes, d) => bytes.length + uptoBulk d + 1
  | (_, d) => uptoBulk d + 1
 end
def uptoSmall : (H : Type) → List (DataW H) → Bool := fun _ ds => decide (uptoBulkAll ds ≤ 1048576)
def OpenSpec.upto (s : _root_.Go.ChangeSpec) : _root_.Go.OpenSpec := { _root_.Go.OpenSpec.ofChange s with cond := some uptoSmall }

/-- 'laws.FnExactFamilyValid', WHERE WHAT IT READS IS OF BULK AT MOST 1048576: true; the input reads as it did. -/
def fnExactFamilyValidUptoRow : OpenClaim := { program := "ytiepoadnncnbkaa", sum := "550e255d70565a74e9dd60e926f429b10ffce1b8d6b2120481fc1530a54eccfc", func := "loop.example/flexquorum/laws.FnExactFamilyValid", spec := "fnExactFamilyValid", apart := false, narrowed := true }
def FnExactFamilyValidUptoSaid : Prop := fnExactFamilyValidUptoRow.holds Try.pinned (OpenSpec.upto fnExactFamilyValidSpec)

/-- 'laws.FnExactFamilyHasQuorum', WHERE WHAT IT READS IS OF BULK AT MOST 1048576: true; the input reads as it did. -/
def fnExactFamilyHasQuorumUptoRow : OpenClaim := { program := "ytiepoadnncnbkaa", sum := "550e255d70565a74e9dd60e926f429b10ffce1b8d6b2120481fc1530a54eccfc", func := "loop.example/flexquorum/laws.FnExactFamilyHasQuorum", spec := "fnExactFamilyHasQuorum", apart := false, narrowed := true }
def FnExactFamilyHasQuorumUptoSaid : Prop := fnExactFamilyHasQuorumUptoRow.holds Try.pinned (OpenSpec.upto fnExactFamilyHasQuorumSpec)

/-- 'laws.FnExactSurvives', WHERE WHAT IT READS IS OF BULK AT MOST 1048576: true; the input reads as it did. -/
def fnExactSurvivesUptoRow : OpenClaim := { program := "ytiepoadnncnbkaa", sum := "550e255d70565a74e9dd60e926f429b10ffce1b8d6b2120481fc1530a54eccfc", func := "loop.example/flexquorum/laws.FnExactSurvives", spec := "fnExactSurvives", apart := false, narrowed := true }
def FnExactSurvivesUptoSaid : Prop := fnExactSurvivesUptoRow.holds Try.pinned (OpenSpec.upto fnExactSurvivesSpec)

/-- 'laws.FnExactSmallestQuorum', WHERE WHAT IT READS IS OF BULK AT MOST 1048576: true; the input reads as it did. -/
def fnExactSmallestQuorumUptoRow : OpenClaim := { program := "ytiepoadnncnbkaa", sum := "550e255d70565a74e9dd60e926f429b10ffce1b8d6b2120481fc1530a54eccfc", func := "loop.example/flexquorum/laws.FnExactSmallestQuorum", spec := "fnExactSmallestQuorum", apart := false, narrowed := true }
def FnExactSmallestQuorumUptoSaid : Prop := fnExactSmallestQuorumUptoRow.holds Try.pinned (OpenSpec.upto fnExactSmallestQuorumSpec)

/-- 'laws.FnExactAvailability', WHERE WHAT IT READS IS OF BULK AT MOST 1048576: true; the input reads as it did. -/
def fnExactAvailabilityUptoRow : OpenClaim := { program := "ytiepoadnncnbkaa", sum := "550e255d70565a74e9dd60e926f429b10ffce1b8d6b2120481fc1530a54eccfc", func := "loop.example/flexquorum/laws.FnExactAvailability", spec := "fnExactAvailability", unfollowed := true, recurses := true, apart := false, narrowed := true }
def FnExactAvailabilityUptoSaid : Prop := fnExactAvailabilityUptoRow.holds Try.pinned (OpenSpec.upto fnExactAvailabilitySpec)

/-- 'laws.FnExactResilience', WHERE WHAT IT READS IS OF BULK AT MOST 1048576: true; the input reads as it did. -/
def fnExactResilienceUptoRow : OpenClaim := { program := "ytiepoadnncnbkaa", sum := "550e255d70565a74e9dd60e926f429b10ffce1b8d6b2120481fc1530a54eccfc", func := "loop.example/flexquorum/laws.FnExactResilience", spec := "fnExactResilience", unfollowed := true, recurses := true, apart := false, narrowed := true }
def FnExactResilienceUptoSaid : Prop := fnExactResilienceUptoRow.holds Try.pinned (OpenSpec.upto fnExactResilienceSpec)

/-- 'laws.FnSmallestQuorum', WHERE WHAT IT READS IS OF BULK AT MOST 1048576: true; the input reads as it did. -/
def fnSmallestQuorumUptoRow : OpenClaim := { program := "ytiepoadnncnbkaa", sum := "550e255d70565a74e9dd60e926f429b10ffce1b8d6b2120481fc1530a54eccfc", func := "loop.example/flexquorum/laws.FnSmallestQuorum", spec := "fnSmallestQuorum", recurses := true, apart := false, narrowed := true }
def FnSmallestQuorumUptoSaid : Prop := fnSmallestQuorumUptoRow.holds Try.pinned (OpenSpec.upto fnSmallestQuorumSpec)

end Rows
end Go.Proofs.Ytiepoadnncnbkaa
