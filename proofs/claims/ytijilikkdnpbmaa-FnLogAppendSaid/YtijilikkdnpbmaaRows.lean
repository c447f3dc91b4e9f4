/-
  No cell of these rows narrows 'for every input' (looked for: loops, veiled, ifaces, maps, wideKeys, modest, calm, conditions, laid).
  DERIVED. THE GIVEN ROWS OF THIS SEAT. 8 by the template 'for every input the law returns true; each argument reads behind the call as it read before'; 0 by the template 'total and deterministic' (their statements: YtijilikkdnpbmaaTotals.lean).
  GIVEN WITH THE SEED: the statements are not yours to turn. If you find one false, say at which input.
  Laid BY PROGRAM, IN A SANDBOX (cutbox-rows.mjs): the forced cells as the released guide's own fill.sh prints them over the translation 930b6728c7b921df… (all of the seat's roots in one cut). By AI agents, Wed Nov 11 2026. No macro, syntax, notation, axiom, sorry.
-/
import Derived.Test.YtijilikkdnpbmaaChecked
import GoSem.Claim
import GoSem.ClaimJoined
import GoSem.ClaimMapViews
import Derived.JoinedTies
import Derived.KernelRfl
namespace Go.Proofs.Ytijilikkdnpbmaa
/- THE CELL 'sum', in the pinned program and in every row, IS THE sha256 OF THE DUMP (.gsa) THAT YtijilikkdnpbmaaProg.lean LOADS. Nothing in Lean hashes anything: it is a label: what it is worth is what the hold of that sum in a sandbox is worth. -/
noncomputable def Try.pinned : Pinned := { name := "ytijilikkdnpbmaa", sum := "930b6728c7b921dfad4ad402b33a1080a5993635054ebd7f9ef352355fc631b3", checked := Try.checked }
namespace Rows
def none {H : Type} : Left H := { results := [], args := [] }

/-- 'laws.FnExactLogValid': WHATEVER THE INPUT: true; the input reads as it did. -/
def fnExactLogValidSpec : ChangeSpec := { name := "fnExactLogValid", fn := fun _ => fun
  | [d1, d2] => { results := [.lit (.bool true)], args := [d1, d2] }
  | _ => none }
def fnExactLogValidRow : OpenClaim := { program := "ytijilikkdnpbmaa", sum := "930b6728c7b921dfad4ad402b33a1080a5993635054ebd7f9ef352355fc631b3", func := "loop.example/flexquorum/laws.FnExactLogValid", spec := "fnExactLogValid", apart := false }
def FnExactLogValidSaid : Prop := fnExactLogValidRow.holds Try.pinned (OpenSpec.ofChange fnExactLogValidSpec)

/-- ITS FALSE NEIGHBOUR: 'it returns false'. Refute it at one input. -/
def fnExactLogValidWrong : ChangeSpec := { name := "fnExactLogValid", fn := fun _ => fun
  | [d1, d2] => { results := [.lit (.bool false)], args := [d1, d2] }
  | _ => none }
def FnExactLogValidWrongFalsely : Prop := fnExactLogValidRow.holds Try.pinned (OpenSpec.ofChange fnExactLogValidWrong)

/-- 'laws.FnLogValid': WHATEVER THE INPUT: true; the input reads as it did. -/
def fnLogValidSpec : ChangeSpec := { name := "fnLogValid", fn := fun _ => fun
  | [d1, d2] => { results := [.lit (.bool true)], args := [d1, d2] }
  | _ => none }
def fnLogValidRow : OpenClaim := { program := "ytijilikkdnpbmaa", sum := "930b6728c7b921dfad4ad402b33a1080a5993635054ebd7f9ef352355fc631b3", func := "loop.example/flexquorum/laws.FnLogValid", spec := "fnLogValid", apart := false }
def FnLogValidSaid : Prop := fnLogValidRow.holds Try.pinned (OpenSpec.ofChange fnLogValidSpec)

/-- ITS FALSE NEIGHBOUR: 'it returns false'. Refute it at one input. -/
def fnLogValidWrong : ChangeSpec := { name := "fnLogValid", fn := fun _ => fun
  | [d1, d2] => { results := [.lit (.bool false)], args := [d1, d2] }
  | _ => none }
def FnLogValidWrongFalsely : Prop := fnLogValidRow.holds Try.pinned (OpenSpec.ofChange fnLogValidWrong)

/-- 'laws.FnLogConfig': WHATEVER THE INPUT: true; the input reads as it did. -/
def fnLogConfigSpec : ChangeSpec := { name := "fnLogConfig", fn := fun _ => fun
  | [d] => { results := [.lit (.bool true)], args := [d] }
  | _ => none }
def fnLogConfigRow : OpenClaim := { program := "ytijilikkdnpbmaa", sum := "930b6728c7b921dfad4ad402b33a1080a5993635054ebd7f9ef352355fc631b3", func := "loop.example/flexquorum/laws.FnLogConfig", spec := "fnLogConfig", apart := false }
def FnLogConfigSaid : Prop := fnLogConfigRow.holds Try.pinned (OpenSpec.ofChange fnLogConfigSpec)

/-- ITS FALSE NEIGHBOUR: 'it returns false'. Refute it at one input. -/
def fnLogConfigWrong : ChangeSpec := { name := "fnLogConfig", fn := fun _ => fun
  | [d] => { results := [.lit (.bool false)], args := [d] }
  | _ => none }
def FnLogConfigWrongFalsely : Prop := fnLogConfigRow.holds Try.pinned (OpenSpec.ofChange fnLogConfigWrong)

/-- 'laws.FnLogConfigPrefix': WHATEVER THE INPUT: true; the input reads as it did. -/
def fnLogConfigPrefixSpec : ChangeSpec := { name := "fnLogConfigPrefix", fn := fun _ => fun
  | [d] => { results := [.lit (.bool true)], args := [d] }
  | _ => none }
def fnLogConfigPrefixRow : OpenClaim := { program := "ytijilikkdnpbmaa", sum := "930b6728c7b921dfad4ad402b33a1080a5993635054ebd7f9ef352355fc631b3", func := "loop.example/flexquorum/laws.FnLogConfigPrefix", spec := "fnLogConfigPrefix", apart := false }
def FnLogConfigPrefixSaid : Prop := fnLogConfigPrefixRow.holds Try.pinned (OpenSpec.ofChange fnLogConfigPrefixSpec)

/-- ITS FALSE NEIGHBOUR: 'it returns false'. Refute it at one input. -/
def fnLogConfigPrefixWrong : ChangeSpec := { name := "fnLogConfigPrefix", fn := fun _ => fun
  | [d] => { results := [.lit (.bool false)], args := [d] }
  | _ => none }
def FnLogConfigPrefixWrongFalsely : Prop := fnLogConfigPrefixRow.holds Try.pinned (OpenSpec.ofChange fnLogConfigPrefixWrong)

/-- 'laws.FnLogConfigSteps': WHATEVER THE INPUT: true; the input reads as it did. -/
def fnLogConfigStepsSpec : ChangeSpec := { name := "fnLogConfigSteps", fn := fun _ => fun
  | [d] => { results := [.lit (.bool true)], args := [d] }
  | _ => none }
def fnLogConfigStepsRow : OpenClaim := { program := "ytijilikkdnpbmaa", sum := "930b6728c7b921dfad4ad402b33a1080a5993635054ebd7f9ef352355fc631b3", func := "loop.example/flexquorum/laws.FnLogConfigSteps", spec := "fnLogConfigSteps", apart := false }
def FnLogConfigStepsSaid : Prop := fnLogConfigStepsRow.holds Try.pinned (OpenSpec.ofChange fnLogConfigStepsSpec)

/-- ITS FALSE NEIGHBOUR: 'it returns false'. Refute it at one input. -/
def fnLogConfigStepsWrong : ChangeSpec := { name := "fnLogConfigSteps", fn := fun _ => fun
  | [d] => { results := [.lit (.bool false)], args := [d] }
  | _ => none }
def FnLogConfigStepsWrongFalsely : Prop := fnLogConfigStepsRow.holds Try.pinned (OpenSpec.ofChange fnLogConfigStepsWrong)

/-- 'laws.FnExactLogConfig': WHATEVER THE INPUT: true; the input reads as it did. -/
def fnExactLogConfigSpec : ChangeSpec := { name := "fnExactLogConfig", fn := fun _ => fun
  | [d1, d2, d3] => { results := [.lit (.bool true)], args := [d1, d2, d3] }
  | _ => none }
def fnExactLogConfigRow : OpenClaim := { program := "ytijilikkdnpbmaa", sum := "930b6728c7b921dfad4ad402b33a1080a5993635054ebd7f9ef352355fc631b3", func := "loop.example/flexquorum/laws.FnExactLogConfig", spec := "fnExactLogConfig", apart := false }
def FnExactLogConfigSaid : Prop := fnExactLogConfigRow.holds Try.pinned (OpenSpec.ofChange fnExactLogConfigSpec)

/-- ITS FALSE NEIGHBOUR: 'it returns false'. Refute it at one input. -/
def fnExactLogConfigWrong : ChangeSpec := { name := "fnExactLogConfig", fn := fun _ => fun
  | [d1, d2, d3] => { results := [.lit (.bool false)], args := [d1, d2, d3] }
  | _ => none }
def FnExactLogConfigWrongFalsely : Prop := fnExactLogConfigRow.holds Try.pinned (OpenSpec.ofChange fnExactLogConfigWrong)

/-- 'laws.FnLogValues': WHATEVER THE INPUT: true; the input reads as it did. -/
def fnLogValuesSpec : ChangeSpec := { name := "fnLogValues", fn := fun _ => fun
  | [d] => { results := [.lit (.bool true)], args := [d] }
  | _ => none }
def fnLogValuesRow : OpenClaim := { program := "ytijilikkdnpbmaa", sum := "930b6728c7b921dfad4ad402b33a1080a5993635054ebd7f9ef352355fc631b3", func := "loop.example/flexquorum/laws.FnLogValues", spec := "fnLogValues", apart := false }
def FnLogValuesSaid : Prop := fnLogValuesRow.holds Try.pinned (OpenSpec.ofChange fnLogValuesSpec)

/-- ITS FALSE NEIGHBOUR: 'it returns false'. Refute it at one input. -/
def fnLogValuesWrong : ChangeSpec := { name := "fnLogValues", fn := fun _ => fun
  | [d] => { results := [.lit (.bool false)], args := [d] }
  | _ => none }
def FnLogValuesWrongFalsely : Prop := fnLogValuesRow.holds Try.pinned (OpenSpec.ofChange fnLogValuesWrong)

/-- 'laws.FnLogAppend': WHATEVER THE INPUT: true; the input reads as it did. -/
def fnLogAppendSpec : ChangeSpec := { name := "fnLogAppend", fn := fun _ => fun
  | [d] => { results := [.lit (.bool true)], args := [d] }
  | _ => none }
def fnLogAppendRow : OpenClaim := { program := "ytijilikkdnpbmaa", sum := "930b6728c7b921dfad4ad402b33a1080a5993635054ebd7f9ef352355fc631b3", func := "loop.example/flexquorum/laws.FnLogAppend", spec := "fnLogAppend", apart := false }
def FnLogAppendSaid : Prop := fnLogAppendRow.holds Try.pinned (OpenSpec.ofChange fnLogAppendSpec)

/-- ITS FALSE NEIGHBOUR: 'it returns false'. Refute it at one input. -/
def fnLogAppendWrong : ChangeSpec := { name := "fnLogAppend", fn := fun _ => fun
  | [d] => { results := [.lit (.bool false)], args := [d] }
  | _ => none }
def FnLogAppendWrongFalsely : Prop := fnLogAppendRow.holds Try.pinned (OpenSpec.ofChange fnLogAppendWrong)

/- THE SECOND FORM. 'bulk': how many values and letters a reading holds, each counted each time it is reached (what is shared counts as often as it is met; a slice's spare places count too). A statement '..UptoSaid' is the law's where the arguments, and the package variables that the reading takes, are together of bulk at most 1048576: NARROWER than '..Said'. Prove '..Said' where nothing that the law and all that it calls make is longer than what came in: it says more and counts as full. Else prove '..UptoSaid'. A law counts once. -/
mutual
def uptoBulk {H : Type} : DataW H → Nat
  | .lit (.string bytes) => bytes.length + 1
  | .lit _ => 1
  | .nil => 1
  | .ptr d => uptoBulk d + 1
  | .slice elems spare => uptoBulkAll elems + uptoBulkAll spare + 1
  | .agg parts => uptoBulkAll parts + 1
  | .iface _ d => uptoBulk d + 1
  | .map entries => uptoBulkEntries entries + 1
  | .held _ => 1
def uptoBulkAll {H : Type} : List (DataW H) → Nat
  | [] => 0
  | d :: r => uptoBulk d + uptoBulkAll r
def uptoBulkEntries {H : Type} : List (Lit × DataW H) → Nat
  | [] => 0
  | x :: r => uptoBulkEntry x + uptoBulkEntries r
def uptoBulkEntry {H : Type} : Lit × DataW H → Nat
  | (.string bytes, d) => bytes.length + uptoBulk d + 1
  | (_, d) => uptoBulk d + 1
 end
def uptoSmall : (H : Type) → List (DataW H) → Bool := fun _ ds => decide (uptoBulkAll ds ≤ 1048576)
def OpenSpec.upto (s : _root_.Go.ChangeSpec) : _root_.Go.OpenSpec := { _root_.Go.OpenSpec.ofChange s with cond := some uptoSmall }

/-- 'laws.FnExactLogValid', WHERE WHAT IT READS IS OF BULK AT MOST 1048576: true; the input reads as it did. -/
def fnExactLogValidUptoRow : OpenClaim := { program := "ytijilikkdnpbmaa", sum := "930b6728c7b921dfad4ad402b33a1080a5993635054ebd7f9ef352355fc631b3", func := "loop.example/flexquorum/laws.FnExactLogValid", spec := "fnExactLogValid", apart := false, narrowed := true }
def FnExactLogValidUptoSaid : Prop := fnExactLogValidUptoRow.holds Try.pinned (OpenSpec.upto fnExactLogValidSpec)

/-- 'laws.FnLogValid', WHERE WHAT IT READS IS OF BULK AT MOST 1048576: true; the input reads as it did. -/
def fnLogValidUptoRow : OpenClaim := { program := "ytijilikkdnpbmaa", sum := "930b6728c7b921dfad4ad402b33a1080a5993635054ebd7f9ef352355fc631b3", func := "loop.example/flexquorum/laws.FnLogValid", spec := "fnLogValid", apart := false, narrowed := true }
def FnLogValidUptoSaid : Prop := fnLogValidUptoRow.holds Try.pinned (OpenSpec.upto fnLogValidSpec)

/-- 'laws.FnLogConfig', WHERE WHAT IT READS IS OF BULK AT MOST 1048576: true; the input reads as it did. -/
def fnLogConfigUptoRow : OpenClaim := { program := "ytijilikkdnpbmaa", sum := "930b6728c7b921dfad4ad402b33a1080a5993635054ebd7f9ef352355fc631b3", func := "loop.example/flexquorum/laws.FnLogConfig", spec := "fnLogConfig", apart := false, narrowed := true }
def FnLogConfigUptoSaid : Prop := fnLogConfigUptoRow.holds Try.pinned (OpenSpec.upto fnLogConfigSpec)

/-- 'laws.FnLogConfigPrefix', WHERE WHAT IT READS IS OF BULK AT MOST 1048576: true; the input reads as it did. -/
def fnLogConfigPrefixUptoRow : OpenClaim := { program := "ytijilikkdnpbmaa", sum := "930b6728c7b921dfad4ad402b33a1080a5993635054ebd7f9ef352355fc631b3", func := "loop.example/flexquorum/laws.FnLogConfigPrefix", spec := "fnLogConfigPrefix", apart := false, narrowed := true }
def FnLogConfigPrefixUptoSaid : Prop := fnLogConfigPrefixUptoRow.holds Try.pinned (OpenSpec.upto fnLogConfigPrefixSpec)

/-- 'laws.FnLogConfigSteps', WHERE WHAT IT READS IS OF BULK AT MOST 1048576: true; the input reads as it did. -/
def fnLogConfigStepsUptoRow : OpenClaim := { program := "ytijilikkdnpbmaa", sum := "930b6728c7b921dfad4ad402b33a1080a5993635054ebd7f9ef352355fc631b3", func := "loop.example/flexquorum/laws.FnLogConfigSteps", spec := "fnLogConfigSteps", apart := false, narrowed := true }
def FnLogConfigStepsUptoSaid : Prop := fnLogConfigStepsUptoRow.holds Try.pinned (OpenSpec.upto fnLogConfigStepsSpec)

/-- 'laws.FnExactLogConfig', WHERE WHAT IT READS IS OF BULK AT MOST 1048576: true; the input reads as it did. -/
def fnExactLogConfigUptoRow : OpenClaim := { program := "ytijilikkdnpbmaa", sum := "930b6728c7b921dfad4ad402b33a1080a5993635054ebd7f9ef352355fc631b3", func := "loop.example/flexquorum/laws.FnExactLogConfig", spec := "fnExactLogConfig", apart := false, narrowed := true }
def FnExactLogConfigUptoSaid : Prop := fnExactLogConfigUptoRow.holds Try.pinned (OpenSpec.upto fnExactLogConfigSpec)

/-- 'laws.FnLogValues', WHERE WHAT IT READS IS OF BULK AT MOST 1048576: true; the input reads as it did. -/
def fnLogValuesUptoRow : OpenClaim := { program := "ytijilikkdnpbmaa", sum := "930b6728c7b921dfad4ad402b33a1080a5993635054ebd7f9ef352355fc631b3", func := "loop.example/flexquorum/laws.FnLogValues", spec := "fnLogValues", apart := false, narrowed := true }
def FnLogValuesUptoSaid : Prop := fnLogValuesUptoRow.holds Try.pinned (OpenSpec.upto fnLogValuesSpec)

/-- 'laws.FnLogAppend', WHERE WHAT IT READS IS OF BULK AT MOST 1048576: true; the input reads as it did. -/
def fnLogAppendUptoRow : OpenClaim := { program := "ytijilikkdnpbmaa", sum := "930b6728c7b921dfad4ad402b33a1080a5993635054ebd7f9ef352355fc631b3", func := "loop.example/flexquorum/laws.FnLogAppend", spec := "fnLogAppend", apart := false, narrowed := true }
def FnLogAppendUptoSaid : Prop := fnLogAppendUptoRow.holds Try.pinned (OpenSpec.upto fnLogAppendSpec)

end Rows
end Go.Proofs.Ytijilikkdnpbmaa
