/-
  DERIVED. GIVEN WITH THE SEED: THE CARDS: each row of YtbokieephhffnaaDoorRows.lean that lists a variable, with what it lists TIED to the program's text (the seventh form; the later family's looks); each row that meets fmt, with fmt's text TOLD by the authors' own Lean function (tested against real Go, not proved from fmt's source: count such statements apart). THE CARD IS WHAT COUNTS. Prove the row's statement (the work); the ties are given (YtbokieephhffnaaDoorTie.lean); close each card by the builder's one call (the guide's Derived/Test/ToyasCard.lean, 'card_holds'). Laid BY PROGRAM, IN A SANDBOX (cutbox-door.mjs). By AI agents, Wed Nov 11 2026. No macro, syntax, notation, axiom, sorry.
-/
import Derived.Test.YtbokieephhffnaaDoorRows
import GoSem.ClaimSeven
namespace Go.Proofs.YtbokieephhffnaaDoor
namespace Rows

/-- THE TIED CARD OF 'laws.FnExactExprThreshold'. -/
def fnExactExprThresholdCard : Claim7 := { stood := { row := fnExactExprThresholdRow, standIns := [], harness := (true, "a4e65e3b58688de52c9c1a6dc9cb00144bba39502d07c43bfb9657f367d2968f"), looks := true }, kinds := [], alts := [], laidByText := true, laidKinds := [.data, .data, .data], laidTests := true, laidLooks := .later }
def FnExactExprThresholdCardSaid : Prop := Claim7.holds Tryd.pinned (.plain (OpenSpec.ofChange fnExactExprThresholdSpec)) fnExactExprThresholdCard

/-- THE TIED CARD OF 'laws.FnThresholdDual'. -/
def fnThresholdDualCard : Claim7 := { stood := { row := fnThresholdDualRow, standIns := [], harness := (true, "a4e65e3b58688de52c9c1a6dc9cb00144bba39502d07c43bfb9657f367d2968f"), looks := true }, kinds := [], alts := [], laidByText := true, laidKinds := [.data, .data, .data], laidTests := true, laidLooks := .later }
def FnThresholdDualCardSaid : Prop := Claim7.holds Tryd.pinned (.plain (OpenSpec.ofChange fnThresholdDualSpec)) fnThresholdDualCard

/-- THE SECOND FORM's CARD OF 'laws.FnExactExprThreshold'. -/
def fnExactExprThresholdUptoCard : Claim7 := { stood := { row := fnExactExprThresholdUptoRow, standIns := [], harness := (true, "a4e65e3b58688de52c9c1a6dc9cb00144bba39502d07c43bfb9657f367d2968f"), looks := true }, kinds := [], alts := [], laidByText := true, laidKinds := [.data, .data, .data], laidTests := true, laidLooks := .later }
def FnExactExprThresholdUptoCardSaid : Prop := Claim7.holds Tryd.pinned (.plain (OpenSpec.upto fnExactExprThresholdSpec)) fnExactExprThresholdUptoCard

/-- THE SECOND FORM's CARD OF 'laws.FnThresholdDual'. -/
def fnThresholdDualUptoCard : Claim7 := { stood := { row := fnThresholdDualUptoRow, standIns := [], harness := (true, "a4e65e3b58688de52c9c1a6dc9cb00144bba39502d07c43bfb9657f367d2968f"), looks := true }, kinds := [], alts := [], laidByText := true, laidKinds := [.data, .data, .data], laidTests := true, laidLooks := .later }
def FnThresholdDualUptoCardSaid : Prop := Claim7.holds Tryd.pinned (.plain (OpenSpec.upto fnThresholdDualSpec)) fnThresholdDualUptoCard
end Rows
end Go.Proofs.YtbokieephhffnaaDoor
