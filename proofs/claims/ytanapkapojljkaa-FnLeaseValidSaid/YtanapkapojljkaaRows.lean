/-
  No cell of these rows narrows 'for every input' (looked for: loops, veiled, ifaces, maps, wideKeys, modest, calm, conditions, laid).
  DERIVED. THE GIVEN ROWS OF THIS SEAT. 12 by the template 'for every input the law returns true; each argument reads behind the call as it read before'; 0 by the template 'total and deterministic' (their statements: YtanapkapojljkaaTotals.lean).
  GIVEN WITH THE SEED: the statements are not yours to turn. If you find one false, say at which input.
  Laid BY PROGRAM, IN A SANDBOX (cutbox-rows.mjs): the forced cells as the released guide's own fill.sh prints them over the translation e7a5b5320a131728… (all of the seat's roots in one cut). By AI agents, Wed Nov 11 2026. No macro, syntax, notation, axiom, sorry.
-/
import Derived.Test.YtanapkapojljkaaChecked
import GoSem.Claim
import GoSem.ClaimJoined
import GoSem.ClaimMapViews
import Derived.JoinedTies
import Derived.KernelRfl
namespace Go.Proofs.Ytanapkapojljkaa
/- THE CELL 'sum', in the pinned program and in every row, IS THE sha256 OF THE DUMP (.gsa) THAT YtanapkapojljkaaProg.lean LOADS. Nothing in Lean hashes anything: it is a label: what it is worth is what the hold of that sum in a sandbox is worth. -/
noncomputable def Try.pinned : Pinned := { name := "ytanapkapojljkaa", sum := "e7a5b5320a1317284ff3a1c742426934c2243685fbbd3e065fdfbd23ac72b888", checked := Try.checked }
namespace Rows
def none {H : Type} : Left H := { results := [], args := [] }

/-- 'laws.FnExactLeaseValid': WHATEVER THE INPUT: true; the input reads as it did. -/
def fnExactLeaseValidSpec : ChangeSpec := { name := "fnExactLeaseValid", fn := fun _ => fun
  | [d] => { results := [.lit (.bool true)], args := [d] }
  | _ => none }
def fnExactLeaseValidRow : OpenClaim := { program := "ytanapkapojljkaa", sum := "e7a5b5320a1317284ff3a1c742426934c2243685fbbd3e065fdfbd23ac72b888", func := "loop.example/flexquorum/laws.FnExactLeaseValid", spec := "fnExactLeaseValid", apart := false }
def FnExactLeaseValidSaid : Prop := fnExactLeaseValidRow.holds Try.pinned (OpenSpec.ofChange fnExactLeaseValidSpec)

/-- ITS FALSE NEIGHBOUR: 'it returns false'. Refute it at one input. -/
def fnExactLeaseValidWrong : ChangeSpec := { name := "fnExactLeaseValid", fn := fun _ => fun
  | [d] => { results := [.lit (.bool false)], args := [d] }
  | _ => none }
def FnExactLeaseValidWrongFalsely : Prop := fnExactLeaseValidRow.holds Try.pinned (OpenSpec.ofChange fnExactLeaseValidWrong)

/-- 'laws.FnLeaseValid': WHATEVER THE INPUT: true; the input reads as it did. -/
def fnLeaseValidSpec : ChangeSpec := { name := "fnLeaseValid", fn := fun _ => fun
  | [d] => { results := [.lit (.bool true)], args := [d] }
  | _ => none }
def fnLeaseValidRow : OpenClaim := { program := "ytanapkapojljkaa", sum := "e7a5b5320a1317284ff3a1c742426934c2243685fbbd3e065fdfbd23ac72b888", func := "loop.example/flexquorum/laws.FnLeaseValid", spec := "fnLeaseValid", apart := false }
def FnLeaseValidSaid : Prop := fnLeaseValidRow.holds Try.pinned (OpenSpec.ofChange fnLeaseValidSpec)

/-- ITS FALSE NEIGHBOUR: 'it returns false'. Refute it at one input. -/
def fnLeaseValidWrong : ChangeSpec := { name := "fnLeaseValid", fn := fun _ => fun
  | [d] => { results := [.lit (.bool false)], args := [d] }
  | _ => none }
def FnLeaseValidWrongFalsely : Prop := fnLeaseValidRow.holds Try.pinned (OpenSpec.ofChange fnLeaseValidWrong)

/-- 'laws.FnExactLeaseActive': WHATEVER THE INPUT: true; the input reads as it did. -/
def fnExactLeaseActiveSpec : ChangeSpec := { name := "fnExactLeaseActive", fn := fun _ => fun
  | [d1, d2, d3] => { results := [.lit (.bool true)], args := [d1, d2, d3] }
  | _ => none }
def fnExactLeaseActiveRow : OpenClaim := { program := "ytanapkapojljkaa", sum := "e7a5b5320a1317284ff3a1c742426934c2243685fbbd3e065fdfbd23ac72b888", func := "loop.example/flexquorum/laws.FnExactLeaseActive", spec := "fnExactLeaseActive", inPlace := ["(*internal/sync.Mutex).Lock", "internal/race.Disable", "sync/atomic.CompareAndSwapInt32", "internal/race.Enable", "internal/race.Acquire", "(*internal/sync.Mutex).lockSlow", "internal/sync.runtime_canSpin", "internal/sync.runtime_doSpin", "internal/sync.throw", "internal/sync.runtime_nanotime", "internal/sync.runtime_SemacquireMutex", "sync/atomic.AddInt32", "(*internal/sync.Mutex).Unlock", "internal/race.ReleaseMerge", "(*internal/sync.Mutex).unlockSlow", "internal/sync.fatal", "internal/sync.runtime_Semrelease"], apart := false }
def FnExactLeaseActiveSaid : Prop := fnExactLeaseActiveRow.holds Try.pinned (OpenSpec.ofChange fnExactLeaseActiveSpec)

/-- ITS FALSE NEIGHBOUR: 'it returns false'. Refute it at one input. -/
def fnExactLeaseActiveWrong : ChangeSpec := { name := "fnExactLeaseActive", fn := fun _ => fun
  | [d1, d2, d3] => { results := [.lit (.bool false)], args := [d1, d2, d3] }
  | _ => none }
def FnExactLeaseActiveWrongFalsely : Prop := fnExactLeaseActiveRow.holds Try.pinned (OpenSpec.ofChange fnExactLeaseActiveWrong)

/-- 'laws.FnExactLeaseExpired': WHATEVER THE INPUT: true; the input reads as it did. -/
def fnExactLeaseExpiredSpec : ChangeSpec := { name := "fnExactLeaseExpired", fn := fun _ => fun
  | [d1, d2, d3] => { results := [.lit (.bool true)], args := [d1, d2, d3] }
  | _ => none }
def fnExactLeaseExpiredRow : OpenClaim := { program := "ytanapkapojljkaa", sum := "e7a5b5320a1317284ff3a1c742426934c2243685fbbd3e065fdfbd23ac72b888", func := "loop.example/flexquorum/laws.FnExactLeaseExpired", spec := "fnExactLeaseExpired", inPlace := ["(*internal/sync.Mutex).Lock", "internal/race.Disable", "sync/atomic.CompareAndSwapInt32", "internal/race.Enable", "internal/race.Acquire", "(*internal/sync.Mutex).lockSlow", "internal/sync.runtime_canSpin", "internal/sync.runtime_doSpin", "internal/sync.throw", "internal/sync.runtime_nanotime", "internal/sync.runtime_SemacquireMutex", "sync/atomic.AddInt32", "(*internal/sync.Mutex).Unlock", "internal/race.ReleaseMerge", "(*internal/sync.Mutex).unlockSlow", "internal/sync.fatal", "internal/sync.runtime_Semrelease"], apart := false }
def FnExactLeaseExpiredSaid : Prop := fnExactLeaseExpiredRow.holds Try.pinned (OpenSpec.ofChange fnExactLeaseExpiredSpec)

/-- ITS FALSE NEIGHBOUR: 'it returns false'. Refute it at one input. -/
def fnExactLeaseExpiredWrong : ChangeSpec := { name := "fnExactLeaseExpired", fn := fun _ => fun
  | [d1, d2, d3] => { results := [.lit (.bool false)], args := [d1, d2, d3] }
  | _ => none }
def FnExactLeaseExpiredWrongFalsely : Prop := fnExactLeaseExpiredRow.holds Try.pinned (OpenSpec.ofChange fnExactLeaseExpiredWrong)

/-- 'laws.FnLeaseActive': WHATEVER THE INPUT: true; the input reads as it did. -/
def fnLeaseActiveSpec : ChangeSpec := { name := "fnLeaseActive", fn := fun _ => fun
  | [d] => { results := [.lit (.bool true)], args := [d] }
  | _ => none }
def fnLeaseActiveRow : OpenClaim := { program := "ytanapkapojljkaa", sum := "e7a5b5320a1317284ff3a1c742426934c2243685fbbd3e065fdfbd23ac72b888", func := "loop.example/flexquorum/laws.FnLeaseActive", spec := "fnLeaseActive", inPlace := ["(*internal/sync.Mutex).Lock", "internal/race.Disable", "sync/atomic.CompareAndSwapInt32", "internal/race.Enable", "internal/race.Acquire", "(*internal/sync.Mutex).lockSlow", "internal/sync.runtime_canSpin", "internal/sync.runtime_doSpin", "internal/sync.throw", "internal/sync.runtime_nanotime", "internal/sync.runtime_SemacquireMutex", "sync/atomic.AddInt32", "(*internal/sync.Mutex).Unlock", "internal/race.ReleaseMerge", "(*internal/sync.Mutex).unlockSlow", "internal/sync.fatal", "internal/sync.runtime_Semrelease"], apart := false }
def FnLeaseActiveSaid : Prop := fnLeaseActiveRow.holds Try.pinned (OpenSpec.ofChange fnLeaseActiveSpec)

/-- ITS FALSE NEIGHBOUR: 'it returns false'. Refute it at one input. -/
def fnLeaseActiveWrong : ChangeSpec := { name := "fnLeaseActive", fn := fun _ => fun
  | [d] => { results := [.lit (.bool false)], args := [d] }
  | _ => none }
def FnLeaseActiveWrongFalsely : Prop := fnLeaseActiveRow.holds Try.pinned (OpenSpec.ofChange fnLeaseActiveWrong)

/-- 'laws.FnLeaseExpired': WHATEVER THE INPUT: true; the input reads as it did. -/
def fnLeaseExpiredSpec : ChangeSpec := { name := "fnLeaseExpired", fn := fun _ => fun
  | [d1, d2] => { results := [.lit (.bool true)], args := [d1, d2] }
  | _ => none }
def fnLeaseExpiredRow : OpenClaim := { program := "ytanapkapojljkaa", sum := "e7a5b5320a1317284ff3a1c742426934c2243685fbbd3e065fdfbd23ac72b888", func := "loop.example/flexquorum/laws.FnLeaseExpired", spec := "fnLeaseExpired", inPlace := ["(*internal/sync.Mutex).Lock", "internal/race.Disable", "sync/atomic.CompareAndSwapInt32", "internal/race.Enable", "internal/race.Acquire", "(*internal/sync.Mutex).lockSlow", "internal/sync.runtime_canSpin", "internal/sync.runtime_doSpin", "internal/sync.throw", "internal/sync.runtime_nanotime", "internal/sync.runtime_SemacquireMutex", "sync/atomic.AddInt32", "(*internal/sync.Mutex).Unlock", "internal/race.ReleaseMerge", "(*internal/sync.Mutex).unlockSlow", "internal/sync.fatal", "internal/sync.runtime_Semrelease"], apart := false }
def FnLeaseExpiredSaid : Prop := fnLeaseExpiredRow.holds Try.pinned (OpenSpec.ofChange fnLeaseExpiredSpec)

/-- ITS FALSE NEIGHBOUR: 'it returns false'. Refute it at one input. -/
def fnLeaseExpiredWrong : ChangeSpec := { name := "fnLeaseExpired", fn := fun _ => fun
  | [d1, d2] => { results := [.lit (.bool false)], args := [d1, d2] }
  | _ => none }
def FnLeaseExpiredWrongFalsely : Prop := fnLeaseExpiredRow.holds Try.pinned (OpenSpec.ofChange fnLeaseExpiredWrong)

/-- 'laws.FnExactLeaseGrant': WHATEVER THE INPUT: true; the input reads as it did. -/
def fnExactLeaseGrantSpec : ChangeSpec := { name := "fnExactLeaseGrant", fn := fun _ => fun
  | [d1, d2, d3, d4, d5] => { results := [.lit (.bool true)], args := [d1, d2, d3, d4, d5] }
  | _ => none }
def fnExactLeaseGrantRow : OpenClaim := { program := "ytanapkapojljkaa", sum := "e7a5b5320a1317284ff3a1c742426934c2243685fbbd3e065fdfbd23ac72b888", func := "loop.example/flexquorum/laws.FnExactLeaseGrant", spec := "fnExactLeaseGrant", inPlace := ["(*internal/sync.Mutex).Lock", "internal/race.Disable", "sync/atomic.CompareAndSwapInt32", "internal/race.Enable", "internal/race.Acquire", "(*internal/sync.Mutex).lockSlow", "internal/sync.runtime_canSpin", "internal/sync.runtime_doSpin", "internal/sync.throw", "internal/sync.runtime_nanotime", "internal/sync.runtime_SemacquireMutex", "sync/atomic.AddInt32", "(*internal/sync.Mutex).Unlock", "internal/race.ReleaseMerge", "(*internal/sync.Mutex).unlockSlow", "internal/sync.fatal", "internal/sync.runtime_Semrelease"], apart := false }
def FnExactLeaseGrantSaid : Prop := fnExactLeaseGrantRow.holds Try.pinned (OpenSpec.ofChange fnExactLeaseGrantSpec)

/-- ITS FALSE NEIGHBOUR: 'it returns false'. Refute it at one input. -/
def fnExactLeaseGrantWrong : ChangeSpec := { name := "fnExactLeaseGrant", fn := fun _ => fun
  | [d1, d2, d3, d4, d5] => { results := [.lit (.bool false)], args := [d1, d2, d3, d4, d5] }
  | _ => none }
def FnExactLeaseGrantWrongFalsely : Prop := fnExactLeaseGrantRow.holds Try.pinned (OpenSpec.ofChange fnExactLeaseGrantWrong)

/-- 'laws.FnLeaseDrift': WHATEVER THE INPUT: true; the input reads as it did. -/
def fnLeaseDriftSpec : ChangeSpec := { name := "fnLeaseDrift", fn := fun _ => fun
  | [d1, d2] => { results := [.lit (.bool true)], args := [d1, d2] }
  | _ => none }
def fnLeaseDriftRow : OpenClaim := { program := "ytanapkapojljkaa", sum := "e7a5b5320a1317284ff3a1c742426934c2243685fbbd3e065fdfbd23ac72b888", func := "loop.example/flexquorum/laws.FnLeaseDrift", spec := "fnLeaseDrift", inPlace := ["(*internal/sync.Mutex).Lock", "internal/race.Disable", "sync/atomic.CompareAndSwapInt32", "internal/race.Enable", "internal/race.Acquire", "(*internal/sync.Mutex).lockSlow", "internal/sync.runtime_canSpin", "internal/sync.runtime_doSpin", "internal/sync.throw", "internal/sync.runtime_nanotime", "internal/sync.runtime_SemacquireMutex", "sync/atomic.AddInt32", "(*internal/sync.Mutex).Unlock", "internal/race.ReleaseMerge", "(*internal/sync.Mutex).unlockSlow", "internal/sync.fatal", "internal/sync.runtime_Semrelease"], apart := false }
def FnLeaseDriftSaid : Prop := fnLeaseDriftRow.holds Try.pinned (OpenSpec.ofChange fnLeaseDriftSpec)

/-- ITS FALSE NEIGHBOUR: 'it returns false'. Refute it at one input. -/
def fnLeaseDriftWrong : ChangeSpec := { name := "fnLeaseDrift", fn := fun _ => fun
  | [d1, d2] => { results := [.lit (.bool false)], args := [d1, d2] }
  | _ => none }
def FnLeaseDriftWrongFalsely : Prop := fnLeaseDriftRow.holds Try.pinned (OpenSpec.ofChange fnLeaseDriftWrong)

/-- 'laws.FnLeaseExclusive': WHATEVER THE INPUT: true; the input reads as it did. -/
def fnLeaseExclusiveSpec : ChangeSpec := { name := "fnLeaseExclusive", fn := fun _ => fun
  | [d1, d2] => { results := [.lit (.bool true)], args := [d1, d2] }
  | _ => none }
def fnLeaseExclusiveRow : OpenClaim := { program := "ytanapkapojljkaa", sum := "e7a5b5320a1317284ff3a1c742426934c2243685fbbd3e065fdfbd23ac72b888", func := "loop.example/flexquorum/laws.FnLeaseExclusive", spec := "fnLeaseExclusive", inPlace := ["(*internal/sync.Mutex).Lock", "internal/race.Disable", "sync/atomic.CompareAndSwapInt32", "internal/race.Enable", "internal/race.Acquire", "(*internal/sync.Mutex).lockSlow", "internal/sync.runtime_canSpin", "internal/sync.runtime_doSpin", "internal/sync.throw", "internal/sync.runtime_nanotime", "internal/sync.runtime_SemacquireMutex", "sync/atomic.AddInt32", "(*internal/sync.Mutex).Unlock", "internal/race.ReleaseMerge", "(*internal/sync.Mutex).unlockSlow", "internal/sync.fatal", "internal/sync.runtime_Semrelease"], apart := false }
def FnLeaseExclusiveSaid : Prop := fnLeaseExclusiveRow.holds Try.pinned (OpenSpec.ofChange fnLeaseExclusiveSpec)

/-- ITS FALSE NEIGHBOUR: 'it returns false'. Refute it at one input. -/
def fnLeaseExclusiveWrong : ChangeSpec := { name := "fnLeaseExclusive", fn := fun _ => fun
  | [d1, d2] => { results := [.lit (.bool false)], args := [d1, d2] }
  | _ => none }
def FnLeaseExclusiveWrongFalsely : Prop := fnLeaseExclusiveRow.holds Try.pinned (OpenSpec.ofChange fnLeaseExclusiveWrong)

/-- 'laws.FnLeaseGrant': WHATEVER THE INPUT: true; the input reads as it did. -/
def fnLeaseGrantSpec : ChangeSpec := { name := "fnLeaseGrant", fn := fun _ => fun
  | [d] => { results := [.lit (.bool true)], args := [d] }
  | _ => none }
def fnLeaseGrantRow : OpenClaim := { program := "ytanapkapojljkaa", sum := "e7a5b5320a1317284ff3a1c742426934c2243685fbbd3e065fdfbd23ac72b888", func := "loop.example/flexquorum/laws.FnLeaseGrant", spec := "fnLeaseGrant", inPlace := ["(*internal/sync.Mutex).Lock", "internal/race.Disable", "sync/atomic.CompareAndSwapInt32", "internal/race.Enable", "internal/race.Acquire", "(*internal/sync.Mutex).lockSlow", "internal/sync.runtime_canSpin", "internal/sync.runtime_doSpin", "internal/sync.throw", "internal/sync.runtime_nanotime", "internal/sync.runtime_SemacquireMutex", "sync/atomic.AddInt32", "(*internal/sync.Mutex).Unlock", "internal/race.ReleaseMerge", "(*internal/sync.Mutex).unlockSlow", "internal/sync.fatal", "internal/sync.runtime_Semrelease"], apart := false }
def FnLeaseGrantSaid : Prop := fnLeaseGrantRow.holds Try.pinned (OpenSpec.ofChange fnLeaseGrantSpec)

/-- ITS FALSE NEIGHBOUR: 'it returns false'. Refute it at one input. -/
def fnLeaseGrantWrong : ChangeSpec := { name := "fnLeaseGrant", fn := fun _ => fun
  | [d] => { results := [.lit (.bool false)], args := [d] }
  | _ => none }
def FnLeaseGrantWrongFalsely : Prop := fnLeaseGrantRow.holds Try.pinned (OpenSpec.ofChange fnLeaseGrantWrong)

/-- 'laws.FnLeaseExtend': WHATEVER THE INPUT: true; the input reads as it did. -/
def fnLeaseExtendSpec : ChangeSpec := { name := "fnLeaseExtend", fn := fun _ => fun
  | [d] => { results := [.lit (.bool true)], args := [d] }
  | _ => none }
def fnLeaseExtendRow : OpenClaim := { program := "ytanapkapojljkaa", sum := "e7a5b5320a1317284ff3a1c742426934c2243685fbbd3e065fdfbd23ac72b888", func := "loop.example/flexquorum/laws.FnLeaseExtend", spec := "fnLeaseExtend", inPlace := ["(*internal/sync.Mutex).Lock", "internal/race.Disable", "sync/atomic.CompareAndSwapInt32", "internal/race.Enable", "internal/race.Acquire", "(*internal/sync.Mutex).lockSlow", "internal/sync.runtime_canSpin", "internal/sync.runtime_doSpin", "internal/sync.throw", "internal/sync.runtime_nanotime", "internal/sync.runtime_SemacquireMutex", "sync/atomic.AddInt32", "(*internal/sync.Mutex).Unlock", "internal/race.ReleaseMerge", "(*internal/sync.Mutex).unlockSlow", "internal/sync.fatal", "internal/sync.runtime_Semrelease"], apart := false }
def FnLeaseExtendSaid : Prop := fnLeaseExtendRow.holds Try.pinned (OpenSpec.ofChange fnLeaseExtendSpec)

/-- ITS FALSE NEIGHBOUR: 'it returns false'. Refute it at one input. -/
def fnLeaseExtendWrong : ChangeSpec := { name := "fnLeaseExtend", fn := fun _ => fun
  | [d] => { results := [.lit (.bool false)], args := [d] }
  | _ => none }
def FnLeaseExtendWrongFalsely : Prop := fnLeaseExtendRow.holds Try.pinned (OpenSpec.ofChange fnLeaseExtendWrong)

/-- 'laws.FnLeaseHandover': WHATEVER THE INPUT: true; the input reads as it did. -/
def fnLeaseHandoverSpec : ChangeSpec := { name := "fnLeaseHandover", fn := fun _ => fun
  | [d1, d2] => { results := [.lit (.bool true)], args := [d1, d2] }
  | _ => none }
def fnLeaseHandoverRow : OpenClaim := { program := "ytanapkapojljkaa", sum := "e7a5b5320a1317284ff3a1c742426934c2243685fbbd3e065fdfbd23ac72b888", func := "loop.example/flexquorum/laws.FnLeaseHandover", spec := "fnLeaseHandover", inPlace := ["(*internal/sync.Mutex).Lock", "internal/race.Disable", "sync/atomic.CompareAndSwapInt32", "internal/race.Enable", "internal/race.Acquire", "(*internal/sync.Mutex).lockSlow", "internal/sync.runtime_canSpin", "internal/sync.runtime_doSpin", "internal/sync.throw", "internal/sync.runtime_nanotime", "internal/sync.runtime_SemacquireMutex", "sync/atomic.AddInt32", "(*internal/sync.Mutex).Unlock", "internal/race.ReleaseMerge", "(*internal/sync.Mutex).unlockSlow", "internal/sync.fatal", "internal/sync.runtime_Semrelease"], apart := false }
def FnLeaseHandoverSaid : Prop := fnLeaseHandoverRow.holds Try.pinned (OpenSpec.ofChange fnLeaseHandoverSpec)

/-- ITS FALSE NEIGHBOUR: 'it returns false'. Refute it at one input. -/
def fnLeaseHandoverWrong : ChangeSpec := { name := "fnLeaseHandover", fn := fun _ => fun
  | [d1, d2] => { results := [.lit (.bool false)], args := [d1, d2] }
  | _ => none }
def FnLeaseHandoverWrongFalsely : Prop := fnLeaseHandoverRow.holds Try.pinned (OpenSpec.ofChange fnLeaseHandoverWrong)

/- THE SECOND FORM. 'bulk': how many values and letters a reading holds, each counted each time it is reached (what is shared counts as often as it is met; a slice's spare places count too). A statement '..UptoSaid' is the law's where the arguments, and the package variables that the reading takes, are together of bulk at most 1048576: NARROWER than '..Said'. Prove '..Said' where nothing that the law and all that it calls make is longer than what came in: it says more and counts as full. Else prove '..UptoSaid'. A law counts once. -/
mutual
def uptoBulk {H : Type} : DataW H → Nat
  | .lit (.string bytes) => bytes.length + 1
  | .lit _ => 1
  | .nil => 1
  | .ptr d => uptoBulk d + 1
  | .slice elems spare => uptoBulkAll elems + uptoBulkAll spare + 1
  | .agg parts => uptoBulkAll parts + 1
  | .iface _ d => uptoBulk d + 1
  | .map entries => uptoBulkEntries entries + 1
  | .held _ => 1
def uptoBulkAll {H : Type} : List (DataW H) → Nat
  | [] => 0
  | d :: r => uptoBulk d + uptoBulkAll r
def uptoBulkEntries {H : Type} : List (Lit × DataW H) → Nat
  | [] => 0
  | x :: r => uptoBulkEntry x + uptoBulkEntries r
def uptoBulkEntry {H : Type} : Lit × DataW H → Nat
  | (.string bytes, d) => bytes.length + uptoBulk d + 1
  | (_, d) => uptoBulk d + 1
 end
def uptoSmall : (H : Type) → List (DataW H) → Bool := fun _ ds => decide (uptoBulkAll ds ≤ 1048576)
def OpenSpec.upto (s : _root_.Go.ChangeSpec) : _root_.Go.OpenSpec := { _root_.Go.OpenSpec.ofChange s with cond := some uptoSmall }

/-- 'laws.FnExactLeaseValid', WHERE WHAT IT READS IS OF BULK AT MOST 1048576: true; the input reads as it did. -/
def fnExactLeaseValidUptoRow : OpenClaim := { program := "ytanapkapojljkaa", sum := "e7a5b5320a1317284ff3a1c742426934c2243685fbbd3e065fdfbd23ac72b888", func := "loop.example/flexquorum/laws.FnExactLeaseValid", spec := "fnExactLeaseValid", apart := false, narrowed := true }
def FnExactLeaseValidUptoSaid : Prop := fnExactLeaseValidUptoRow.holds Try.pinned (OpenSpec.upto fnExactLeaseValidSpec)

/-- 'laws.FnLeaseValid', WHERE WHAT IT READS IS OF BULK AT MOST 1048576: true; the input reads as it did. -/
def fnLeaseValidUptoRow : OpenClaim := { program := "ytanapkapojljkaa", sum := "e7a5b5320a1317284ff3a1c742426934c2243685fbbd3e065fdfbd23ac72b888", func := "loop.example/flexquorum/laws.FnLeaseValid", spec := "fnLeaseValid", apart := false, narrowed := true }
def FnLeaseValidUptoSaid : Prop := fnLeaseValidUptoRow.holds Try.pinned (OpenSpec.upto fnLeaseValidSpec)

/-- 'laws.FnExactLeaseActive', WHERE WHAT IT READS IS OF BULK AT MOST 1048576: true; the input reads as it did. -/
def fnExactLeaseActiveUptoRow : OpenClaim := { program := "ytanapkapojljkaa", sum := "e7a5b5320a1317284ff3a1c742426934c2243685fbbd3e065fdfbd23ac72b888", func := "loop.example/flexquorum/laws.FnExactLeaseActive", spec := "fnExactLeaseActive", inPlace := ["(*internal/sync.Mutex).Lock", "internal/race.Disable", "sync/atomic.CompareAndSwapInt32", "internal/race.Enable", "internal/race.Acquire", "(*internal/sync.Mutex).lockSlow", "internal/sync.runtime_canSpin", "internal/sync.runtime_doSpin", "internal/sync.throw", "internal/sync.runtime_nanotime", "internal/sync.runtime_SemacquireMutex", "sync/atomic.AddInt32", "(*internal/sync.Mutex).Unlock", "internal/race.ReleaseMerge", "(*internal/sync.Mutex).unlockSlow", "internal/sync.fatal", "internal/sync.runtime_Semrelease"], apart := false, narrowed := true }
def FnExactLeaseActiveUptoSaid : Prop := fnExactLeaseActiveUptoRow.holds Try.pinned (OpenSpec.upto fnExactLeaseActiveSpec)

/-- 'laws.FnExactLeaseExpired', WHERE WHAT IT READS IS OF BULK AT MOST 1048576: true; the input reads as it did. -/
def fnExactLeaseExpiredUptoRow : OpenClaim := { program := "ytanapkapojljkaa", sum := "e7a5b5320a1317284ff3a1c742426934c2243685fbbd3e065fdfbd23ac72b888", func := "loop.example/flexquorum/laws.FnExactLeaseExpired", spec := "fnExactLeaseExpired", inPlace := ["(*internal/sync.Mutex).Lock", "internal/race.Disable", "sync/atomic.CompareAndSwapInt32", "internal/race.Enable", "internal/race.Acquire", "(*internal/sync.Mutex).lockSlow", "internal/sync.runtime_canSpin", "internal/sync.runtime_doSpin", "internal/sync.throw", "internal/sync.runtime_nanotime", "internal/sync.runtime_SemacquireMutex", "sync/atomic.AddInt32", "(*internal/sync.Mutex).Unlock", "internal/race.ReleaseMerge", "(*internal/sync.Mutex).unlockSlow", "internal/sync.fatal", "internal/sync.runtime_Semrelease"], apart := false, narrowed := true }
def FnExactLeaseExpiredUptoSaid : Prop := fnExactLeaseExpiredUptoRow.holds Try.pinned (OpenSpec.upto fnExactLeaseExpiredSpec)

/-- 'laws.FnLeaseActive', WHERE WHAT IT READS IS OF BULK AT MOST 1048576: true; the input reads as it did. -/
def fnLeaseActiveUptoRow : OpenClaim := { program := "ytanapkapojljkaa", sum := "e7a5b5320a1317284ff3a1c742426934c2243685fbbd3e065fdfbd23ac72b888", func := "loop.example/flexquorum/laws.FnLeaseActive", spec := "fnLeaseActive", inPlace := ["(*internal/sync.Mutex).Lock", "internal/race.Disable", "sync/atomic.CompareAndSwapInt32", "internal/race.Enable", "internal/race.Acquire", "(*internal/sync.Mutex).lockSlow", "internal/sync.runtime_canSpin", "internal/sync.runtime_doSpin", "internal/sync.throw", "internal/sync.runtime_nanotime", "internal/sync.runtime_SemacquireMutex", "sync/atomic.AddInt32", "(*internal/sync.Mutex).Unlock", "internal/race.ReleaseMerge", "(*internal/sync.Mutex).unlockSlow", "internal/sync.fatal", "internal/sync.runtime_Semrelease"], apart := false, narrowed := true }
def FnLeaseActiveUptoSaid : Prop := fnLeaseActiveUptoRow.holds Try.pinned (OpenSpec.upto fnLeaseActiveSpec)

/-- 'laws.FnLeaseExpired', WHERE WHAT IT READS IS OF BULK AT MOST 1048576: true; the input reads as it did. -/
def fnLeaseExpiredUptoRow : OpenClaim := { program := "ytanapkapojljkaa", sum := "e7a5b5320a1317284ff3a1c742426934c2243685fbbd3e065fdfbd23ac72b888", func := "loop.example/flexquorum/laws.FnLeaseExpired", spec := "fnLeaseExpired", inPlace := ["(*internal/sync.Mutex).Lock", "internal/race.Disable", "sync/atomic.CompareAndSwapInt32", "internal/race.Enable", "internal/race.Acquire", "(*internal/sync.Mutex).lockSlow", "internal/sync.runtime_canSpin", "internal/sync.runtime_doSpin", "internal/sync.throw", "internal/sync.runtime_nanotime", "internal/sync.runtime_SemacquireMutex", "sync/atomic.AddInt32", "(*internal/sync.Mutex).Unlock", "internal/race.ReleaseMerge", "(*internal/sync.Mutex).unlockSlow", "internal/sync.fatal", "internal/sync.runtime_Semrelease"], apart := false, narrowed := true }
def FnLeaseExpiredUptoSaid : Prop := fnLeaseExpiredUptoRow.holds Try.pinned (OpenSpec.upto fnLeaseExpiredSpec)

/-- 'laws.FnExactLeaseGrant', WHERE WHAT IT READS IS OF BULK AT MOST 1048576: true; the input reads as it did. -/
def fnExactLeaseGrantUptoRow : OpenClaim := { program := "ytanapkapojljkaa", sum := "e7a5b5320a1317284ff3a1c742426934c2243685fbbd3e065fdfbd23ac72b888", func := "loop.example/flexquorum/laws.FnExactLeaseGrant", spec := "fnExactLeaseGrant", inPlace := ["(*internal/sync.Mutex).Lock", "internal/race.Disable", "sync/atomic.CompareAndSwapInt32", "internal/race.Enable", "internal/race.Acquire", "(*internal/sync.Mutex).lockSlow", "internal/sync.runtime_canSpin", "internal/sync.runtime_doSpin", "internal/sync.throw", "internal/sync.runtime_nanotime", "internal/sync.runtime_SemacquireMutex", "sync/atomic.AddInt32", "(*internal/sync.Mutex).Unlock", "internal/race.ReleaseMerge", "(*internal/sync.Mutex).unlockSlow", "internal/sync.fatal", "internal/sync.runtime_Semrelease"], apart := false, narrowed := true }
def FnExactLeaseGrantUptoSaid : Prop := fnExactLeaseGrantUptoRow.holds Try.pinned (OpenSpec.upto fnExactLeaseGrantSpec)

/-- 'laws.FnLeaseDrift', WHERE WHAT IT READS IS OF BULK AT MOST 1048576: true; the input reads as it did. -/
def fnLeaseDriftUptoRow : OpenClaim := { program := "ytanapkapojljkaa", sum := "e7a5b5320a1317284ff3a1c742426934c2243685fbbd3e065fdfbd23ac72b888", func := "loop.example/flexquorum/laws.FnLeaseDrift", spec := "fnLeaseDrift", inPlace := ["(*internal/sync.Mutex).Lock", "internal/race.Disable", "sync/atomic.CompareAndSwapInt32", "internal/race.Enable", "internal/race.Acquire", "(*internal/sync.Mutex).lockSlow", "internal/sync.runtime_canSpin", "internal/sync.runtime_doSpin", "internal/sync.throw", "internal/sync.runtime_nanotime", "internal/sync.runtime_SemacquireMutex", "sync/atomic.AddInt32", "(*internal/sync.Mutex).Unlock", "internal/race.ReleaseMerge", "(*internal/sync.Mutex).unlockSlow", "internal/sync.fatal", "internal/sync.runtime_Semrelease"], apart := false, narrowed := true }
def FnLeaseDriftUptoSaid : Prop := fnLeaseDriftUptoRow.holds Try.pinned (OpenSpec.upto fnLeaseDriftSpec)

/-- 'laws.FnLeaseExclusive', WHERE WHAT IT READS IS OF BULK AT MOST 1048576: true; the input reads as it did. -/
def fnLeaseExclusiveUptoRow : OpenClaim := { program := "ytanapkapojljkaa", sum := "e7a5b5320a1317284ff3a1c742426934c2243685fbbd3e065fdfbd23ac72b888", func := "loop.example/flexquorum/laws.FnLeaseExclusive", spec := "fnLeaseExclusive", inPlace := ["(*internal/sync.Mutex).Lock", "internal/race.Disable", "sync/atomic.CompareAndSwapInt32", "internal/race.Enable", "internal/race.Acquire", "(*internal/sync.Mutex).lockSlow", "internal/sync.runtime_canSpin", "internal/sync.runtime_doSpin", "internal/sync.throw", "internal/sync.runtime_nanotime", "internal/sync.runtime_SemacquireMutex", "sync/atomic.AddInt32", "(*internal/sync.Mutex).Unlock", "internal/race.ReleaseMerge", "(*internal/sync.Mutex).unlockSlow", "internal/sync.fatal", "internal/sync.runtime_Semrelease"], apart := false, narrowed := true }
def FnLeaseExclusiveUptoSaid : Prop := fnLeaseExclusiveUptoRow.holds Try.pinned (OpenSpec.upto fnLeaseExclusiveSpec)

/-- 'laws.FnLeaseGrant', WHERE WHAT IT READS IS OF BULK AT MOST 1048576: true; the input reads as it did. -/
def fnLeaseGrantUptoRow : OpenClaim := { program := "ytanapkapojljkaa", sum := "e7a5b5320a1317284ff3a1c742426934c2243685fbbd3e065fdfbd23ac72b888", func := "loop.example/flexquorum/laws.FnLeaseGrant", spec := "fnLeaseGrant", inPlace := ["(*internal/sync.Mutex).Lock", "internal/race.Disable", "sync/atomic.CompareAndSwapInt32", "internal/race.Enable", "internal/race.Acquire", "(*internal/sync.Mutex).lockSlow", "internal/sync.runtime_canSpin", "internal/sync.runtime_doSpin", "internal/sync.throw", "internal/sync.runtime_nanotime", "internal/sync.runtime_SemacquireMutex", "sync/atomic.AddInt32", "(*internal/sync.Mutex).Unlock", "internal/race.ReleaseMerge", "(*internal/sync.Mutex).unlockSlow", "internal/sync.fatal", "internal/sync.runtime_Semrelease"], apart := false, narrowed := true }
def FnLeaseGrantUptoSaid : Prop := fnLeaseGrantUptoRow.holds Try.pinned (OpenSpec.upto fnLeaseGrantSpec)

/-- 'laws.FnLeaseExtend', WHERE WHAT IT READS IS OF BULK AT MOST 1048576: true; the input reads as it did. -/
def fnLeaseExtendUptoRow : OpenClaim := { program := "ytanapkapojljkaa", sum := "e7a5b5320a1317284ff3a1c742426934c2243685fbbd3e065fdfbd23ac72b888", func := "loop.example/flexquorum/laws.FnLeaseExtend", spec := "fnLeaseExtend", inPlace := ["(*internal/sync.Mutex).Lock", "internal/race.Disable", "sync/atomic.CompareAndSwapInt32", "internal/race.Enable", "internal/race.Acquire", "(*internal/sync.Mutex).lockSlow", "internal/sync.runtime_canSpin", "internal/sync.runtime_doSpin", "internal/sync.throw", "internal/sync.runtime_nanotime", "internal/sync.runtime_SemacquireMutex", "sync/atomic.AddInt32", "(*internal/sync.Mutex).Unlock", "internal/race.ReleaseMerge", "(*internal/sync.Mutex).unlockSlow", "internal/sync.fatal", "internal/sync.runtime_Semrelease"], apart := false, narrowed := true }
def FnLeaseExtendUptoSaid : Prop := fnLeaseExtendUptoRow.holds Try.pinned (OpenSpec.upto fnLeaseExtendSpec)

/-- 'laws.FnLeaseHandover', WHERE WHAT IT READS IS OF BULK AT MOST 1048576: true; the input reads as it did. -/
def fnLeaseHandoverUptoRow : OpenClaim := { program := "ytanapkapojljkaa", sum := "e7a5b5320a1317284ff3a1c742426934c2243685fbbd3e065fdfbd23ac72b888", func := "loop.example/flexquorum/laws.FnLeaseHandover", spec := "fnLeaseHandover", inPlace := ["(*internal/sync.Mutex).Lock", "internal/race.Disable", "sync/atomic.CompareAndSwapInt32", "internal/race.Enable", "internal/race.Acquire", "(*internal/sync.Mutex).lockSlow", "internal/sync.runtime_canSpin", "internal/sync.runtime_doSpin", "internal/sync.throw", "internal/sync.runtime_nanotime", "internal/sync.runtime_SemacquireMutex", "sync/atomic.AddInt32", "(*internal/sync.Mutex).Unlock", "internal/race.ReleaseMerge", "(*internal/sync.Mutex).unlockSlow", "internal/sync.fatal", "internal/sync.runtime_Semrelease"], apart := false, narrowed := true }
def FnLeaseHandoverUptoSaid : Prop := fnLeaseHandoverUptoRow.holds Try.pinned (OpenSpec.upto fnLeaseHandoverSpec)

end Rows
end Go.Proofs.Ytanapkapojljkaa
