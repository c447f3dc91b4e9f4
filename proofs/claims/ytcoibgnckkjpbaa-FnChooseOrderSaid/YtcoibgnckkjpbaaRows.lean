/-
  No cell of these rows narrows 'for every input' (looked for: loops, veiled, ifaces, maps, wideKeys, modest, calm, conditions, laid).
  DERIVED. THE GIVEN ROWS OF THIS SEAT. 13 by the template 'for every input the law returns true; each argument reads behind the call as it read before'; 0 by the template 'total and deterministic' (their statements: YtcoibgnckkjpbaaTotals.lean).
  GIVEN WITH THE SEED: the statements are not yours to turn. If you find one false, say at which input.
  Laid BY PROGRAM, IN A SANDBOX (cutbox-rows.mjs): the forced cells as the released guide's own fill.sh prints them over the translation 6d5422c9341c5d4a… (all of the seat's roots in one cut). By AI agents, Wed Nov 11 2026. No macro, syntax, notation, axiom, sorry.
-/
import Derived.Test.YtcoibgnckkjpbaaChecked
import GoSem.Claim
import GoSem.ClaimJoined
import GoSem.ClaimMapViews
import Derived.JoinedTies
import Derived.KernelRfl
namespace Go.Proofs.Ytcoibgnckkjpbaa
/- THE CELL 'sum', in the pinned program and in every row, IS THE sha256 OF THE DUMP (.gsa) THAT YtcoibgnckkjpbaaProg.lean LOADS. Nothing in Lean hashes anything: it is a label: what it is worth is what the hold of that sum in a sandbox is worth. -/
noncomputable def Try.pinned : Pinned := { name := "ytcoibgnckkjpbaa", sum := "6d5422c9341c5d4a4893f6709e52c60689f67afae59011e31cad20f0bd871a62", checked := Try.checked }
namespace Rows
def none {H : Type} : Left H := { results := [], args := [] }

/-- 'laws.FnExactAcceptorValid': WHATEVER THE INPUT: true; the input reads as it did. -/
def fnExactAcceptorValidSpec : ChangeSpec := { name := "fnExactAcceptorValid", fn := fun _ => fun
  | [d] => { results := [.lit (.bool true)], args := [d] }
  | _ => none }
def fnExactAcceptorValidRow : OpenClaim := { program := "ytcoibgnckkjpbaa", sum := "6d5422c9341c5d4a4893f6709e52c60689f67afae59011e31cad20f0bd871a62", func := "loop.example/flexquorum/laws.FnExactAcceptorValid", spec := "fnExactAcceptorValid", apart := false }
def FnExactAcceptorValidSaid : Prop := fnExactAcceptorValidRow.holds Try.pinned (OpenSpec.ofChange fnExactAcceptorValidSpec)

/-- ITS FALSE NEIGHBOUR: 'it returns false'. Refute it at one input. -/
def fnExactAcceptorValidWrong : ChangeSpec := { name := "fnExactAcceptorValid", fn := fun _ => fun
  | [d] => { results := [.lit (.bool false)], args := [d] }
  | _ => none }
def FnExactAcceptorValidWrongFalsely : Prop := fnExactAcceptorValidRow.holds Try.pinned (OpenSpec.ofChange fnExactAcceptorValidWrong)

/-- 'laws.FnAcceptorValid': WHATEVER THE INPUT: true; the input reads as it did. -/
def fnAcceptorValidSpec : ChangeSpec := { name := "fnAcceptorValid", fn := fun _ => fun
  | [d] => { results := [.lit (.bool true)], args := [d] }
  | _ => none }
def fnAcceptorValidRow : OpenClaim := { program := "ytcoibgnckkjpbaa", sum := "6d5422c9341c5d4a4893f6709e52c60689f67afae59011e31cad20f0bd871a62", func := "loop.example/flexquorum/laws.FnAcceptorValid", spec := "fnAcceptorValid", apart := false }
def FnAcceptorValidSaid : Prop := fnAcceptorValidRow.holds Try.pinned (OpenSpec.ofChange fnAcceptorValidSpec)

/-- ITS FALSE NEIGHBOUR: 'it returns false'. Refute it at one input. -/
def fnAcceptorValidWrong : ChangeSpec := { name := "fnAcceptorValid", fn := fun _ => fun
  | [d] => { results := [.lit (.bool false)], args := [d] }
  | _ => none }
def FnAcceptorValidWrongFalsely : Prop := fnAcceptorValidRow.holds Try.pinned (OpenSpec.ofChange fnAcceptorValidWrong)

/-- 'laws.FnExactAcceptorAccept': WHATEVER THE INPUT: true; the input reads as it did. -/
def fnExactAcceptorAcceptSpec : ChangeSpec := { name := "fnExactAcceptorAccept", fn := fun _ => fun
  | [d1, d2, d3] => { results := [.lit (.bool true)], args := [d1, d2, d3] }
  | _ => none }
def fnExactAcceptorAcceptRow : OpenClaim := { program := "ytcoibgnckkjpbaa", sum := "6d5422c9341c5d4a4893f6709e52c60689f67afae59011e31cad20f0bd871a62", func := "loop.example/flexquorum/laws.FnExactAcceptorAccept", spec := "fnExactAcceptorAccept", unfollowed := true, recurses := true, apart := false }
def FnExactAcceptorAcceptSaid : Prop := fnExactAcceptorAcceptRow.holds Try.pinned (OpenSpec.ofChange fnExactAcceptorAcceptSpec)

/-- ITS FALSE NEIGHBOUR: 'it returns false'. Refute it at one input. -/
def fnExactAcceptorAcceptWrong : ChangeSpec := { name := "fnExactAcceptorAccept", fn := fun _ => fun
  | [d1, d2, d3] => { results := [.lit (.bool false)], args := [d1, d2, d3] }
  | _ => none }
def FnExactAcceptorAcceptWrongFalsely : Prop := fnExactAcceptorAcceptRow.holds Try.pinned (OpenSpec.ofChange fnExactAcceptorAcceptWrong)

/-- 'laws.FnExactAcceptorPrepare': WHATEVER THE INPUT: true; the input reads as it did. -/
def fnExactAcceptorPrepareSpec : ChangeSpec := { name := "fnExactAcceptorPrepare", fn := fun _ => fun
  | [d1, d2] => { results := [.lit (.bool true)], args := [d1, d2] }
  | _ => none }
def fnExactAcceptorPrepareRow : OpenClaim := { program := "ytcoibgnckkjpbaa", sum := "6d5422c9341c5d4a4893f6709e52c60689f67afae59011e31cad20f0bd871a62", func := "loop.example/flexquorum/laws.FnExactAcceptorPrepare", spec := "fnExactAcceptorPrepare", unfollowed := true, recurses := true, apart := false }
def FnExactAcceptorPrepareSaid : Prop := fnExactAcceptorPrepareRow.holds Try.pinned (OpenSpec.ofChange fnExactAcceptorPrepareSpec)

/-- ITS FALSE NEIGHBOUR: 'it returns false'. Refute it at one input. -/
def fnExactAcceptorPrepareWrong : ChangeSpec := { name := "fnExactAcceptorPrepare", fn := fun _ => fun
  | [d1, d2] => { results := [.lit (.bool false)], args := [d1, d2] }
  | _ => none }
def FnExactAcceptorPrepareWrongFalsely : Prop := fnExactAcceptorPrepareRow.holds Try.pinned (OpenSpec.ofChange fnExactAcceptorPrepareWrong)

/-- 'laws.FnAcceptState': WHATEVER THE INPUT: true; the input reads as it did. -/
def fnAcceptStateSpec : ChangeSpec := { name := "fnAcceptState", fn := fun _ => fun
  | [d] => { results := [.lit (.bool true)], args := [d] }
  | _ => none }
def fnAcceptStateRow : OpenClaim := { program := "ytcoibgnckkjpbaa", sum := "6d5422c9341c5d4a4893f6709e52c60689f67afae59011e31cad20f0bd871a62", func := "loop.example/flexquorum/laws.FnAcceptState", spec := "fnAcceptState", unfollowed := true, recurses := true, apart := false }
def FnAcceptStateSaid : Prop := fnAcceptStateRow.holds Try.pinned (OpenSpec.ofChange fnAcceptStateSpec)

/-- ITS FALSE NEIGHBOUR: 'it returns false'. Refute it at one input. -/
def fnAcceptStateWrong : ChangeSpec := { name := "fnAcceptState", fn := fun _ => fun
  | [d] => { results := [.lit (.bool false)], args := [d] }
  | _ => none }
def FnAcceptStateWrongFalsely : Prop := fnAcceptStateRow.holds Try.pinned (OpenSpec.ofChange fnAcceptStateWrong)

/-- 'laws.FnPrepareState': WHATEVER THE INPUT: true; the input reads as it did. -/
def fnPrepareStateSpec : ChangeSpec := { name := "fnPrepareState", fn := fun _ => fun
  | [d] => { results := [.lit (.bool true)], args := [d] }
  | _ => none }
def fnPrepareStateRow : OpenClaim := { program := "ytcoibgnckkjpbaa", sum := "6d5422c9341c5d4a4893f6709e52c60689f67afae59011e31cad20f0bd871a62", func := "loop.example/flexquorum/laws.FnPrepareState", spec := "fnPrepareState", unfollowed := true, recurses := true, apart := false }
def FnPrepareStateSaid : Prop := fnPrepareStateRow.holds Try.pinned (OpenSpec.ofChange fnPrepareStateSpec)

/-- ITS FALSE NEIGHBOUR: 'it returns false'. Refute it at one input. -/
def fnPrepareStateWrong : ChangeSpec := { name := "fnPrepareState", fn := fun _ => fun
  | [d] => { results := [.lit (.bool false)], args := [d] }
  | _ => none }
def FnPrepareStateWrongFalsely : Prop := fnPrepareStateRow.holds Try.pinned (OpenSpec.ofChange fnPrepareStateWrong)

/-- 'laws.FnAcceptAgain': WHATEVER THE INPUT: true; the input reads as it did. -/
def fnAcceptAgainSpec : ChangeSpec := { name := "fnAcceptAgain", fn := fun _ => fun
  | [d] => { results := [.lit (.bool true)], args := [d] }
  | _ => none }
def fnAcceptAgainRow : OpenClaim := { program := "ytcoibgnckkjpbaa", sum := "6d5422c9341c5d4a4893f6709e52c60689f67afae59011e31cad20f0bd871a62", func := "loop.example/flexquorum/laws.FnAcceptAgain", spec := "fnAcceptAgain", unfollowed := true, recurses := true, apart := false }
def FnAcceptAgainSaid : Prop := fnAcceptAgainRow.holds Try.pinned (OpenSpec.ofChange fnAcceptAgainSpec)

/-- ITS FALSE NEIGHBOUR: 'it returns false'. Refute it at one input. -/
def fnAcceptAgainWrong : ChangeSpec := { name := "fnAcceptAgain", fn := fun _ => fun
  | [d] => { results := [.lit (.bool false)], args := [d] }
  | _ => none }
def FnAcceptAgainWrongFalsely : Prop := fnAcceptAgainRow.holds Try.pinned (OpenSpec.ofChange fnAcceptAgainWrong)

/-- 'laws.FnPrepareBlocks': WHATEVER THE INPUT: true; the input reads as it did. -/
def fnPrepareBlocksSpec : ChangeSpec := { name := "fnPrepareBlocks", fn := fun _ => fun
  | [d] => { results := [.lit (.bool true)], args := [d] }
  | _ => none }
def fnPrepareBlocksRow : OpenClaim := { program := "ytcoibgnckkjpbaa", sum := "6d5422c9341c5d4a4893f6709e52c60689f67afae59011e31cad20f0bd871a62", func := "loop.example/flexquorum/laws.FnPrepareBlocks", spec := "fnPrepareBlocks", unfollowed := true, recurses := true, apart := false }
def FnPrepareBlocksSaid : Prop := fnPrepareBlocksRow.holds Try.pinned (OpenSpec.ofChange fnPrepareBlocksSpec)

/-- ITS FALSE NEIGHBOUR: 'it returns false'. Refute it at one input. -/
def fnPrepareBlocksWrong : ChangeSpec := { name := "fnPrepareBlocks", fn := fun _ => fun
  | [d] => { results := [.lit (.bool false)], args := [d] }
  | _ => none }
def FnPrepareBlocksWrongFalsely : Prop := fnPrepareBlocksRow.holds Try.pinned (OpenSpec.ofChange fnPrepareBlocksWrong)

/-- 'laws.FnPromiseMonotone': WHATEVER THE INPUT: true; the input reads as it did. -/
def fnPromiseMonotoneSpec : ChangeSpec := { name := "fnPromiseMonotone", fn := fun _ => fun
  | [d1, d2] => { results := [.lit (.bool true)], args := [d1, d2] }
  | _ => none }
def fnPromiseMonotoneRow : OpenClaim := { program := "ytcoibgnckkjpbaa", sum := "6d5422c9341c5d4a4893f6709e52c60689f67afae59011e31cad20f0bd871a62", func := "loop.example/flexquorum/laws.FnPromiseMonotone", spec := "fnPromiseMonotone", unfollowed := true, recurses := true, apart := false }
def FnPromiseMonotoneSaid : Prop := fnPromiseMonotoneRow.holds Try.pinned (OpenSpec.ofChange fnPromiseMonotoneSpec)

/-- ITS FALSE NEIGHBOUR: 'it returns false'. Refute it at one input. -/
def fnPromiseMonotoneWrong : ChangeSpec := { name := "fnPromiseMonotone", fn := fun _ => fun
  | [d1, d2] => { results := [.lit (.bool false)], args := [d1, d2] }
  | _ => none }
def FnPromiseMonotoneWrongFalsely : Prop := fnPromiseMonotoneRow.holds Try.pinned (OpenSpec.ofChange fnPromiseMonotoneWrong)

/-- 'laws.FnChooseIgnores': WHATEVER THE INPUT: true; the input reads as it did. -/
def fnChooseIgnoresSpec : ChangeSpec := { name := "fnChooseIgnores", fn := fun _ => fun
  | [d1, d2] => { results := [.lit (.bool true)], args := [d1, d2] }
  | _ => none }
def fnChooseIgnoresRow : OpenClaim := { program := "ytcoibgnckkjpbaa", sum := "6d5422c9341c5d4a4893f6709e52c60689f67afae59011e31cad20f0bd871a62", func := "loop.example/flexquorum/laws.FnChooseIgnores", spec := "fnChooseIgnores", unfollowed := true, recurses := true, apart := false }
def FnChooseIgnoresSaid : Prop := fnChooseIgnoresRow.holds Try.pinned (OpenSpec.ofChange fnChooseIgnoresSpec)

/-- ITS FALSE NEIGHBOUR: 'it returns false'. Refute it at one input. -/
def fnChooseIgnoresWrong : ChangeSpec := { name := "fnChooseIgnores", fn := fun _ => fun
  | [d1, d2] => { results := [.lit (.bool false)], args := [d1, d2] }
  | _ => none }
def FnChooseIgnoresWrongFalsely : Prop := fnChooseIgnoresRow.holds Try.pinned (OpenSpec.ofChange fnChooseIgnoresWrong)

/-- 'laws.FnChooseOrder': WHATEVER THE INPUT: true; the input reads as it did. -/
def fnChooseOrderSpec : ChangeSpec := { name := "fnChooseOrder", fn := fun _ => fun
  | [d] => { results := [.lit (.bool true)], args := [d] }
  | _ => none }
def fnChooseOrderRow : OpenClaim := { program := "ytcoibgnckkjpbaa", sum := "6d5422c9341c5d4a4893f6709e52c60689f67afae59011e31cad20f0bd871a62", func := "loop.example/flexquorum/laws.FnChooseOrder", spec := "fnChooseOrder", unfollowed := true, recurses := true, apart := false }
def FnChooseOrderSaid : Prop := fnChooseOrderRow.holds Try.pinned (OpenSpec.ofChange fnChooseOrderSpec)

/-- ITS FALSE NEIGHBOUR: 'it returns false'. Refute it at one input. -/
def fnChooseOrderWrong : ChangeSpec := { name := "fnChooseOrder", fn := fun _ => fun
  | [d] => { results := [.lit (.bool false)], args := [d] }
  | _ => none }
def FnChooseOrderWrongFalsely : Prop := fnChooseOrderRow.holds Try.pinned (OpenSpec.ofChange fnChooseOrderWrong)

/-- 'laws.FnChooseValue': WHATEVER THE INPUT: true; the input reads as it did. -/
def fnChooseValueSpec : ChangeSpec := { name := "fnChooseValue", fn := fun _ => fun
  | [d] => { results := [.lit (.bool true)], args := [d] }
  | _ => none }
def fnChooseValueRow : OpenClaim := { program := "ytcoibgnckkjpbaa", sum := "6d5422c9341c5d4a4893f6709e52c60689f67afae59011e31cad20f0bd871a62", func := "loop.example/flexquorum/laws.FnChooseValue", spec := "fnChooseValue", unfollowed := true, recurses := true, apart := false }
def FnChooseValueSaid : Prop := fnChooseValueRow.holds Try.pinned (OpenSpec.ofChange fnChooseValueSpec)

/-- ITS FALSE NEIGHBOUR: 'it returns false'. Refute it at one input. -/
def fnChooseValueWrong : ChangeSpec := { name := "fnChooseValue", fn := fun _ => fun
  | [d] => { results := [.lit (.bool false)], args := [d] }
  | _ => none }
def FnChooseValueWrongFalsely : Prop := fnChooseValueRow.holds Try.pinned (OpenSpec.ofChange fnChooseValueWrong)

/-- 'laws.FnExactChooseValue': WHATEVER THE INPUT: true; the input reads as it did. -/
def fnExactChooseValueSpec : ChangeSpec := { name := "fnExactChooseValue", fn := fun _ => fun
  | [d1, d2] => { results := [.lit (.bool true)], args := [d1, d2] }
  | _ => none }
def fnExactChooseValueRow : OpenClaim := { program := "ytcoibgnckkjpbaa", sum := "6d5422c9341c5d4a4893f6709e52c60689f67afae59011e31cad20f0bd871a62", func := "loop.example/flexquorum/laws.FnExactChooseValue", spec := "fnExactChooseValue", unfollowed := true, recurses := true, apart := false }
def FnExactChooseValueSaid : Prop := fnExactChooseValueRow.holds Try.pinned (OpenSpec.ofChange fnExactChooseValueSpec)

/-- ITS FALSE NEIGHBOUR: 'it returns false'. Refute it at one input. -/
def fnExactChooseValueWrong : ChangeSpec := { name := "fnExactChooseValue", fn := fun _ => fun
  | [d1, d2] => { results := [.lit (.bool false)], args := [d1, d2] }
  | _ => none }
def FnExactChooseValueWrongFalsely : Prop := fnExactChooseValueRow.holds Try.pinned (OpenSpec.ofChange fnExactChooseValueWrong)

/- THE SECOND FORM. 'bulk': how many values and letters a reading holds, each counted each time it is reached (what is shared counts as often as it is met; a slice's spare places count too). A statement '..UptoSaid' is the law's where the arguments, and the package variables that the reading takes, are together of bulk at most 1048576: NARROWER than '..Said'. Prove '..Said' where nothing that the law and all that it calls make is longer than what came in: it says more and counts as full. Else prove '..UptoSaid'. A law counts once. -/
mutual
def uptoBulk {H : Type} : DataW H → Nat
  | .lit (.string bytes) => bytes.length + 1
  | .lit _ => 1
  | .nil => 1
  | .ptr d => uptoBulk d + 1
  | .slice elems spare => uptoBulkAll elems + uptoBulkAll spare + 1
  | .agg parts => uptoBulkAll parts + 1
  | .iface _ d => uptoBulk d + 1
  | .map entries => uptoBulkEntries entries + 1
  | .held _ => 1
def uptoBulkAll {H : Type} : List (DataW H) → Nat
  | [] => 0
  | d :: r => uptoBulk d + uptoBulkAll r
def uptoBulkEntries {H : Type} : List (Lit × DataW H) → Nat
  | [] => 0
  | x :: r => uptoBulkEntry x + uptoBulkEntries r
def uptoBulkEntry {H : Type} : Lit × DataW H → Nat
  | (.string bytes, d) => bytes.length + uptoBulk d + 1
  | (_, d) => uptoBulk d + 1
 end
def uptoSmall : (H : Type) → List (DataW H) → Bool := fun _ ds => decide (uptoBulkAll ds ≤ 1048576)
def OpenSpec.upto (s : _root_.Go.ChangeSpec) : _root_.Go.OpenSpec := { _root_.Go.OpenSpec.ofChange s with cond := some uptoSmall }

/-- 'laws.FnExactAcceptorValid', WHERE WHAT IT READS IS OF BULK AT MOST 1048576: true; the input reads as it did. -/
def fnExactAcceptorValidUptoRow : OpenClaim := { program := "ytcoibgnckkjpbaa", sum := "6d5422c9341c5d4a4893f6709e52c60689f67afae59011e31cad20f0bd871a62", func := "loop.example/flexquorum/laws.FnExactAcceptorValid", spec := "fnExactAcceptorValid", apart := false, narrowed := true }
def FnExactAcceptorValidUptoSaid : Prop := fnExactAcceptorValidUptoRow.holds Try.pinned (OpenSpec.upto fnExactAcceptorValidSpec)

/-- 'laws.FnAcceptorValid', WHERE WHAT IT READS IS OF BULK AT MOST 1048576: true; the input reads as it did. -/
def fnAcceptorValidUptoRow : OpenClaim := { program := "ytcoibgnckkjpbaa", sum := "6d5422c9341c5d4a4893f6709e52c60689f67afae59011e31cad20f0bd871a62", func := "loop.example/flexquorum/laws.FnAcceptorValid", spec := "fnAcceptorValid", apart := false, narrowed := true }
def FnAcceptorValidUptoSaid : Prop := fnAcceptorValidUptoRow.holds Try.pinned (OpenSpec.upto fnAcceptorValidSpec)

/-- 'laws.FnExactAcceptorAccept', WHERE WHAT IT READS IS OF BULK AT MOST 1048576: true; the input reads as it did. -/
def fnExactAcceptorAcceptUptoRow : OpenClaim := { program := "ytcoibgnckkjpbaa", sum := "6d5422c9341c5d4a4893f6709e52c60689f67afae59011e31cad20f0bd871a62", func := "loop.example/flexquorum/laws.FnExactAcceptorAccept", spec := "fnExactAcceptorAccept", unfollowed := true, recurses := true, apart := false, narrowed := true }
def FnExactAcceptorAcceptUptoSaid : Prop := fnExactAcceptorAcceptUptoRow.holds Try.pinned (OpenSpec.upto fnExactAcceptorAcceptSpec)

/-- 'laws.FnExactAcceptorPrepare', WHERE WHAT IT READS IS OF BULK AT MOST 1048576: true; the input reads as it did. -/
def fnExactAcceptorPrepareUptoRow : OpenClaim := { program := "ytcoibgnckkjpbaa", sum := "6d5422c9341c5d4a4893f6709e52c60689f67afae59011e31cad20f0bd871a62", func := "loop.example/flexquorum/laws.FnExactAcceptorPrepare", spec := "fnExactAcceptorPrepare", unfollowed := true, recurses := true, apart := false, narrowed := true }
def FnExactAcceptorPrepareUptoSaid : Prop := fnExactAcceptorPrepareUptoRow.holds Try.pinned (OpenSpec.upto fnExactAcceptorPrepareSpec)

/-- 'laws.FnAcceptState', WHERE WHAT IT READS IS OF BULK AT MOST 1048576: true; the input reads as it did. -/
def fnAcceptStateUptoRow : OpenClaim := { program := "ytcoibgnckkjpbaa", sum := "6d5422c9341c5d4a4893f6709e52c60689f67afae59011e31cad20f0bd871a62", func := "loop.example/flexquorum/laws.FnAcceptState", spec := "fnAcceptState", unfollowed := true, recurses := true, apart := false, narrowed := true }
def FnAcceptStateUptoSaid : Prop := fnAcceptStateUptoRow.holds Try.pinned (OpenSpec.upto fnAcceptStateSpec)

/-- 'laws.FnPrepareState', WHERE WHAT IT READS IS OF BULK AT MOST 1048576: true; the input reads as it did. -/
def fnPrepareStateUptoRow : OpenClaim := { program := "ytcoibgnckkjpbaa", sum := "6d5422c9341c5d4a4893f6709e52c60689f67afae59011e31cad20f0bd871a62", func := "loop.example/flexquorum/laws.FnPrepareState", spec := "fnPrepareState", unfollowed := true, recurses := true, apart := false, narrowed := true }
def FnPrepareStateUptoSaid : Prop := fnPrepareStateUptoRow.holds Try.pinned (OpenSpec.upto fnPrepareStateSpec)

/-- 'laws.FnAcceptAgain', WHERE WHAT IT READS IS OF BULK AT MOST 1048576: true; the input reads as it did. -/
def fnAcceptAgainUptoRow : OpenClaim := { program := "ytcoibgnckkjpbaa", sum := "6d5422c9341c5d4a4893f6709e52c60689f67afae59011e31cad20f0bd871a62", func := "loop.example/flexquorum/laws.FnAcceptAgain", spec := "fnAcceptAgain", unfollowed := true, recurses := true, apart := false, narrowed := true }
def FnAcceptAgainUptoSaid : Prop := fnAcceptAgainUptoRow.holds Try.pinned (OpenSpec.upto fnAcceptAgainSpec)

/-- 'laws.FnPrepareBlocks', WHERE WHAT IT READS IS OF BULK AT MOST 1048576: true; the input reads as it did. -/
def fnPrepareBlocksUptoRow : OpenClaim := { program := "ytcoibgnckkjpbaa", sum := "6d5422c9341c5d4a4893f6709e52c60689f67afae59011e31cad20f0bd871a62", func := "loop.example/flexquorum/laws.FnPrepareBlocks", spec := "fnPrepareBlocks", unfollowed := true, recurses := true, apart := false, narrowed := true }
def FnPrepareBlocksUptoSaid : Prop := fnPrepareBlocksUptoRow.holds Try.pinned (OpenSpec.upto fnPrepareBlocksSpec)

/-- 'laws.FnPromiseMonotone', WHERE WHAT IT READS IS OF BULK AT MOST 1048576: true; the input reads as it did. -/
def fnPromiseMonotoneUptoRow : OpenClaim := { program := "ytcoibgnckkjpbaa", sum := "6d5422c9341c5d4a4893f6709e52c60689f67afae59011e31cad20f0bd871a62", func := "loop.example/flexquorum/laws.FnPromiseMonotone", spec := "fnPromiseMonotone", unfollowed := true, recurses := true, apart := false, narrowed := true }
def FnPromiseMonotoneUptoSaid : Prop := fnPromiseMonotoneUptoRow.holds Try.pinned (OpenSpec.upto fnPromiseMonotoneSpec)

/-- 'laws.FnChooseIgnores', WHERE WHAT IT READS IS OF BULK AT MOST 1048576: true; the input reads as it did. -/
def fnChooseIgnoresUptoRow : OpenClaim := { program := "ytcoibgnckkjpbaa", sum := "6d5422c9341c5d4a4893f6709e52c60689f67afae59011e31cad20f0bd871a62", func := "loop.example/flexquorum/laws.FnChooseIgnores", spec := "fnChooseIgnores", unfollowed := true, recurses := true, apart := false, narrowed := true }
def FnChooseIgnoresUptoSaid : Prop := fnChooseIgnoresUptoRow.holds Try.pinned (OpenSpec.upto fnChooseIgnoresSpec)

/-- 'laws.FnChooseOrder', WHERE WHAT IT READS IS OF BULK AT MOST 1048576: true; the input reads as it did. -/
def fnChooseOrderUptoRow : OpenClaim := { program := "ytcoibgnckkjpbaa", sum := "6d5422c9341c5d4a4893f6709e52c60689f67afae59011e31cad20f0bd871a62", func := "loop.example/flexquorum/laws.FnChooseOrder", spec := "fnChooseOrder", unfollowed := true, recurses := true, apart := false, narrowed := true }
def FnChooseOrderUptoSaid : Prop := fnChooseOrderUptoRow.holds Try.pinned (OpenSpec.upto fnChooseOrderSpec)

/-- 'laws.FnChooseValue', WHERE WHAT IT READS IS OF BULK AT MOST 1048576: true; the input reads as it did. -/
def fnChooseValueUptoRow : OpenClaim := { program := "ytcoibgnckkjpbaa", sum := "6d5422c9341c5d4a4893f6709e52c60689f67afae59011e31cad20f0bd871a62", func := "loop.example/flexquorum/laws.FnChooseValue", spec := "fnChooseValue", unfollowed := true, recurses := true, apart := false, narrowed := true }
def FnChooseValueUptoSaid : Prop := fnChooseValueUptoRow.holds Try.pinned (OpenSpec.upto fnChooseValueSpec)

/-- 'laws.FnExactChooseValue', WHERE WHAT IT READS IS OF BULK AT MOST 1048576: true; the input reads as it did. -/
def fnExactChooseValueUptoRow : OpenClaim := { program := "ytcoibgnckkjpbaa", sum := "6d5422c9341c5d4a4893f6709e52c60689f67afae59011e31cad20f0bd871a62", func := "loop.example/flexquorum/laws.FnExactChooseValue", spec := "fnExactChooseValue", unfollowed := true, recurses := true, apart := false, narrowed := true }
def FnExactChooseValueUptoSaid : Prop := fnExactChooseValueUptoRow.holds Try.pinned (OpenSpec.upto fnExactChooseValueSpec)

end Rows
end Go.Proofs.Ytcoibgnckkjpbaa
