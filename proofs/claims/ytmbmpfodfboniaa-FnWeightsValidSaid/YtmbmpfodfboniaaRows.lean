/-
  No cell of these rows narrows 'for every input' (looked for: loops, veiled, ifaces, maps, wideKeys, modest, calm, conditions, laid).
  DERIVED. THE GIVEN ROWS OF THIS SEAT. 7 by the template 'for every input the law returns true; each argument reads behind the call as it read before'; 0 by the template 'total and deterministic' (their statements: YtmbmpfodfboniaaTotals.lean).
  GIVEN WITH THE SEED: the statements are not yours to turn. If you find one false, say at which input.
  Laid BY PROGRAM, IN A SANDBOX (cutbox-rows.mjs): the forced cells as the released guide's own fill.sh prints them over the translation 1e4f3f9697fe5bac… (all of the seat's roots in one cut). By AI agents, Wed Nov 11 2026. No macro, syntax, notation, axiom, sorry.
-/
import Derived.Test.YtmbmpfodfboniaaChecked
import GoSem.Claim
import GoSem.ClaimJoined
import GoSem.ClaimMapViews
import Derived.JoinedTies
import Derived.KernelRfl
namespace Go.Proofs.Ytmbmpfodfboniaa
/- THE CELL 'sum', in the pinned program and in every row, IS THE sha256 OF THE DUMP (.gsa) THAT YtmbmpfodfboniaaProg.lean LOADS. Nothing in Lean hashes anything: it is a label: what it is worth is what the hold of that sum in a sandbox is worth. -/
noncomputable def Try.pinned : Pinned := { name := "ytmbmpfodfboniaa", sum := "1e4f3f9697fe5bac316f7a743e7c5b65327f085491bd48e8492d9eccedfa0c7b", checked := Try.checked }
namespace Rows
def none {H : Type} : Left H := { results := [], args := [] }

/-- 'laws.FnExactConstants': WHATEVER THE INPUT: true; the input reads as it did. -/
def fnExactConstantsSpec : ChangeSpec := { name := "fnExactConstants", fn := fun _ => fun
  | [] => { results := [.lit (.bool true)], args := [] }
  | _ => none }
def fnExactConstantsRow : OpenClaim := { program := "ytmbmpfodfboniaa", sum := "1e4f3f9697fe5bac316f7a743e7c5b65327f085491bd48e8492d9eccedfa0c7b", func := "loop.example/flexquorum/laws.FnExactConstants", spec := "fnExactConstants", apart := false }
def FnExactConstantsSaid : Prop := fnExactConstantsRow.holds Try.pinned (OpenSpec.ofChange fnExactConstantsSpec)

/-- ITS FALSE NEIGHBOUR: 'it returns false'. Refute it at one input. -/
def fnExactConstantsWrong : ChangeSpec := { name := "fnExactConstants", fn := fun _ => fun
  | [] => { results := [.lit (.bool false)], args := [] }
  | _ => none }
def FnExactConstantsWrongFalsely : Prop := fnExactConstantsRow.holds Try.pinned (OpenSpec.ofChange fnExactConstantsWrong)

/-- 'laws.FnExactWeightsValid': WHATEVER THE INPUT: true; the input reads as it did. -/
def fnExactWeightsValidSpec : ChangeSpec := { name := "fnExactWeightsValid", fn := fun _ => fun
  | [d] => { results := [.lit (.bool true)], args := [d] }
  | _ => none }
def fnExactWeightsValidRow : OpenClaim := { program := "ytmbmpfodfboniaa", sum := "1e4f3f9697fe5bac316f7a743e7c5b65327f085491bd48e8492d9eccedfa0c7b", func := "loop.example/flexquorum/laws.FnExactWeightsValid", spec := "fnExactWeightsValid", apart := false }
def FnExactWeightsValidSaid : Prop := fnExactWeightsValidRow.holds Try.pinned (OpenSpec.ofChange fnExactWeightsValidSpec)

/-- ITS FALSE NEIGHBOUR: 'it returns false'. Refute it at one input. -/
def fnExactWeightsValidWrong : ChangeSpec := { name := "fnExactWeightsValid", fn := fun _ => fun
  | [d] => { results := [.lit (.bool false)], args := [d] }
  | _ => none }
def FnExactWeightsValidWrongFalsely : Prop := fnExactWeightsValidRow.holds Try.pinned (OpenSpec.ofChange fnExactWeightsValidWrong)

/-- 'laws.FnWeightsValid': WHATEVER THE INPUT: true; the input reads as it did. -/
def fnWeightsValidSpec : ChangeSpec := { name := "fnWeightsValid", fn := fun _ => fun
  | [d1, d2] => { results := [.lit (.bool true)], args := [d1, d2] }
  | _ => none }
def fnWeightsValidRow : OpenClaim := { program := "ytmbmpfodfboniaa", sum := "1e4f3f9697fe5bac316f7a743e7c5b65327f085491bd48e8492d9eccedfa0c7b", func := "loop.example/flexquorum/laws.FnWeightsValid", spec := "fnWeightsValid", apart := false }
def FnWeightsValidSaid : Prop := fnWeightsValidRow.holds Try.pinned (OpenSpec.ofChange fnWeightsValidSpec)

/-- ITS FALSE NEIGHBOUR: 'it returns false'. Refute it at one input. -/
def fnWeightsValidWrong : ChangeSpec := { name := "fnWeightsValid", fn := fun _ => fun
  | [d1, d2] => { results := [.lit (.bool false)], args := [d1, d2] }
  | _ => none }
def FnWeightsValidWrongFalsely : Prop := fnWeightsValidRow.holds Try.pinned (OpenSpec.ofChange fnWeightsValidWrong)

/-- 'laws.FnExactSetValid': WHATEVER THE INPUT: true; the input reads as it did. -/
def fnExactSetValidSpec : ChangeSpec := { name := "fnExactSetValid", fn := fun _ => fun
  | [d] => { results := [.lit (.bool true)], args := [d] }
  | _ => none }
def fnExactSetValidRow : OpenClaim := { program := "ytmbmpfodfboniaa", sum := "1e4f3f9697fe5bac316f7a743e7c5b65327f085491bd48e8492d9eccedfa0c7b", func := "loop.example/flexquorum/laws.FnExactSetValid", spec := "fnExactSetValid", apart := false }
def FnExactSetValidSaid : Prop := fnExactSetValidRow.holds Try.pinned (OpenSpec.ofChange fnExactSetValidSpec)

/-- ITS FALSE NEIGHBOUR: 'it returns false'. Refute it at one input. -/
def fnExactSetValidWrong : ChangeSpec := { name := "fnExactSetValid", fn := fun _ => fun
  | [d] => { results := [.lit (.bool false)], args := [d] }
  | _ => none }
def FnExactSetValidWrongFalsely : Prop := fnExactSetValidRow.holds Try.pinned (OpenSpec.ofChange fnExactSetValidWrong)

/-- 'laws.FnSetValid': WHATEVER THE INPUT: true; the input reads as it did. -/
def fnSetValidSpec : ChangeSpec := { name := "fnSetValid", fn := fun _ => fun
  | [d1, d2] => { results := [.lit (.bool true)], args := [d1, d2] }
  | _ => none }
def fnSetValidRow : OpenClaim := { program := "ytmbmpfodfboniaa", sum := "1e4f3f9697fe5bac316f7a743e7c5b65327f085491bd48e8492d9eccedfa0c7b", func := "loop.example/flexquorum/laws.FnSetValid", spec := "fnSetValid", apart := false }
def FnSetValidSaid : Prop := fnSetValidRow.holds Try.pinned (OpenSpec.ofChange fnSetValidSpec)

/-- ITS FALSE NEIGHBOUR: 'it returns false'. Refute it at one input. -/
def fnSetValidWrong : ChangeSpec := { name := "fnSetValid", fn := fun _ => fun
  | [d1, d2] => { results := [.lit (.bool false)], args := [d1, d2] }
  | _ => none }
def FnSetValidWrongFalsely : Prop := fnSetValidRow.holds Try.pinned (OpenSpec.ofChange fnSetValidWrong)

/-- 'laws.FnExactSetMask': WHATEVER THE INPUT: true; the input reads as it did. -/
def fnExactSetMaskSpec : ChangeSpec := { name := "fnExactSetMask", fn := fun _ => fun
  | [d] => { results := [.lit (.bool true)], args := [d] }
  | _ => none }
def fnExactSetMaskRow : OpenClaim := { program := "ytmbmpfodfboniaa", sum := "1e4f3f9697fe5bac316f7a743e7c5b65327f085491bd48e8492d9eccedfa0c7b", func := "loop.example/flexquorum/laws.FnExactSetMask", spec := "fnExactSetMask", apart := false }
def FnExactSetMaskSaid : Prop := fnExactSetMaskRow.holds Try.pinned (OpenSpec.ofChange fnExactSetMaskSpec)

/-- ITS FALSE NEIGHBOUR: 'it returns false'. Refute it at one input. -/
def fnExactSetMaskWrong : ChangeSpec := { name := "fnExactSetMask", fn := fun _ => fun
  | [d] => { results := [.lit (.bool false)], args := [d] }
  | _ => none }
def FnExactSetMaskWrongFalsely : Prop := fnExactSetMaskRow.holds Try.pinned (OpenSpec.ofChange fnExactSetMaskWrong)

/-- 'laws.FnExactSetSubset': WHATEVER THE INPUT: true; the input reads as it did. -/
def fnExactSetSubsetSpec : ChangeSpec := { name := "fnExactSetSubset", fn := fun _ => fun
  | [d1, d2] => { results := [.lit (.bool true)], args := [d1, d2] }
  | _ => none }
def fnExactSetSubsetRow : OpenClaim := { program := "ytmbmpfodfboniaa", sum := "1e4f3f9697fe5bac316f7a743e7c5b65327f085491bd48e8492d9eccedfa0c7b", func := "loop.example/flexquorum/laws.FnExactSetSubset", spec := "fnExactSetSubset", apart := false }
def FnExactSetSubsetSaid : Prop := fnExactSetSubsetRow.holds Try.pinned (OpenSpec.ofChange fnExactSetSubsetSpec)

/-- ITS FALSE NEIGHBOUR: 'it returns false'. Refute it at one input. -/
def fnExactSetSubsetWrong : ChangeSpec := { name := "fnExactSetSubset", fn := fun _ => fun
  | [d1, d2] => { results := [.lit (.bool false)], args := [d1, d2] }
  | _ => none }
def FnExactSetSubsetWrongFalsely : Prop := fnExactSetSubsetRow.holds Try.pinned (OpenSpec.ofChange fnExactSetSubsetWrong)

/- THE SECOND FORM. 'bulk': how many values and letters a reading holds, each counted each time it is reached (what is shared counts as often as it is met; a slice's spare places count too). A statement '..UptoSaid' is the law's where the arguments, and the package variables that the reading takes, are together of bulk at most 1048576: NARROWER than '..Said'. Prove '..Said' where nothing that the law and all that it calls make is longer than what came in: it says more and counts as full. Else prove '..UptoSaid'. A law counts once. -/
mutual
def uptoBulk {H : Type} : DataW H → Nat
  | .lit (.string bytes) => bytes.length + 1
  | .lit _ => 1
  | .nil => 1
  | .ptr d => uptoBulk d + 1
  | .slice elems spare => uptoBulkAll elems + uptoBulkAll spare + 1
  | .agg parts => uptoBulkAll parts + 1
  | .iface _ d => uptoBulk d + 1
  | .map entries => uptoBulkEntries entries + 1
  | .held _ => 1
def uptoBulkAll {H : Type} : List (DataW H) → Nat
  | [] => 0
  | d :: r => uptoBulk d + uptoBulkAll r
def uptoBulkEntries {H : Type} : List (Lit × DataW H) → Nat
  | [] => 0
  | x :: r => uptoBulkEntry x + uptoBulkEntries r
def uptoBulkEntry {H : Type} : Lit × DataW H → Nat
  | (.string bytes, d) => bytes.length + uptoBulk d + 1
  | (_, d) => uptoBulk d + 1
 end
def uptoSmall : (H : Type) → List (DataW H) → Bool := fun _ ds => decide (uptoBulkAll ds ≤ 1048576)
def OpenSpec.upto (s : _root_.Go.ChangeSpec) : _root_.Go.OpenSpec := { _root_.Go.OpenSpec.ofChange s with cond := some uptoSmall }

/-- 'laws.FnExactConstants', WHERE WHAT IT READS IS OF BULK AT MOST 1048576: true; the input reads as it did. -/
def fnExactConstantsUptoRow : OpenClaim := { program := "ytmbmpfodfboniaa", sum := "1e4f3f9697fe5bac316f7a743e7c5b65327f085491bd48e8492d9eccedfa0c7b", func := "loop.example/flexquorum/laws.FnExactConstants", spec := "fnExactConstants", apart := false, narrowed := true }
def FnExactConstantsUptoSaid : Prop := fnExactConstantsUptoRow.holds Try.pinned (OpenSpec.upto fnExactConstantsSpec)

/-- 'laws.FnExactWeightsValid', WHERE WHAT IT READS IS OF BULK AT MOST 1048576: true; the input reads as it did. -/
def fnExactWeightsValidUptoRow : OpenClaim := { program := "ytmbmpfodfboniaa", sum := "1e4f3f9697fe5bac316f7a743e7c5b65327f085491bd48e8492d9eccedfa0c7b", func := "loop.example/flexquorum/laws.FnExactWeightsValid", spec := "fnExactWeightsValid", apart := false, narrowed := true }
def FnExactWeightsValidUptoSaid : Prop := fnExactWeightsValidUptoRow.holds Try.pinned (OpenSpec.upto fnExactWeightsValidSpec)

/-- 'laws.FnWeightsValid', WHERE WHAT IT READS IS OF BULK AT MOST 1048576: true; the input reads as it did. -/
def fnWeightsValidUptoRow : OpenClaim := { program := "ytmbmpfodfboniaa", sum := "1e4f3f9697fe5bac316f7a743e7c5b65327f085491bd48e8492d9eccedfa0c7b", func := "loop.example/flexquorum/laws.FnWeightsValid", spec := "fnWeightsValid", apart := false, narrowed := true }
def FnWeightsValidUptoSaid : Prop := fnWeightsValidUptoRow.holds Try.pinned (OpenSpec.upto fnWeightsValidSpec)

/-- 'laws.FnExactSetValid', WHERE WHAT IT READS IS OF BULK AT MOST 1048576: true; the input reads as it did. -/
def fnExactSetValidUptoRow : OpenClaim := { program := "ytmbmpfodfboniaa", sum := "1e4f3f9697fe5bac316f7a743e7c5b65327f085491bd48e8492d9eccedfa0c7b", func := "loop.example/flexquorum/laws.FnExactSetValid", spec := "fnExactSetValid", apart := false, narrowed := true }
def FnExactSetValidUptoSaid : Prop := fnExactSetValidUptoRow.holds Try.pinned (OpenSpec.upto fnExactSetValidSpec)

/-- 'laws.FnSetValid', WHERE WHAT IT READS IS OF BULK AT MOST 1048576: true; the input reads as it did. -/
def fnSetValidUptoRow : OpenClaim := { program := "ytmbmpfodfboniaa", sum := "1e4f3f9697fe5bac316f7a743e7c5b65327f085491bd48e8492d9eccedfa0c7b", func := "loop.example/flexquorum/laws.FnSetValid", spec := "fnSetValid", apart := false, narrowed := true }
def FnSetValidUptoSaid : Prop := fnSetValidUptoRow.holds Try.pinned (OpenSpec.upto fnSetValidSpec)

/-- 'laws.FnExactSetMask', WHERE WHAT IT READS IS OF BULK AT MOST 1048576: true; the input reads as it did. -/
def fnExactSetMaskUptoRow : OpenClaim := { program := "ytmbmpfodfboniaa", sum := "1e4f3f9697fe5bac316f7a743e7c5b65327f085491bd48e8492d9eccedfa0c7b", func := "loop.example/flexquorum/laws.FnExactSetMask", spec := "fnExactSetMask", apart := false, narrowed := true }
def FnExactSetMaskUptoSaid : Prop := fnExactSetMaskUptoRow.holds Try.pinned (OpenSpec.upto fnExactSetMaskSpec)

/-- 'laws.FnExactSetSubset', WHERE WHAT IT READS IS OF BULK AT MOST 1048576: true; the input reads as it did. -/
def fnExactSetSubsetUptoRow : OpenClaim := { program := "ytmbmpfodfboniaa", sum := "1e4f3f9697fe5bac316f7a743e7c5b65327f085491bd48e8492d9eccedfa0c7b", func := "loop.example/flexquorum/laws.FnExactSetSubset", spec := "fnExactSetSubset", apart := false, narrowed := true }
def FnExactSetSubsetUptoSaid : Prop := fnExactSetSubsetUptoRow.holds Try.pinned (OpenSpec.upto fnExactSetSubsetSpec)

end Rows
end Go.Proofs.Ytmbmpfodfboniaa
