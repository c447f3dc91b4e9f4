/-
  DERIVED. GIVEN WITH THE SEED: THE CARDS: each row of YtdpclcogfkjbcaaDoorRows.lean that lists a variable, with what it lists TIED to the program's text (the seventh form; the later family's looks); each row that meets fmt, with fmt's text TOLD by the authors' own Lean function (tested against real Go, not proved from fmt's source: count such statements apart). THE CARD IS WHAT COUNTS. Prove the row's statement (the work); the ties are given (YtdpclcogfkjbcaaDoorTie.lean); close each card by the builder's one call (the guide's Derived/Test/ToyasCard.lean, 'card_holds'). Laid BY PROGRAM, IN A SANDBOX (cutbox-door.mjs). By AI agents, Wed Nov 11 2026. No macro, syntax, notation, axiom, sorry.
-/
import Derived.Test.YtdpclcogfkjbcaaDoorRows
import GoSem.ClaimSeven
namespace Go.Proofs.YtdpclcogfkjbcaaDoor
namespace Rows

/-- THE TIED CARD OF 'laws.FnExactSetParse'. -/
def fnExactSetParseCard : Claim7 := { stood := { row := fnExactSetParseRow, standIns := [], harness := (true, "73b154d288cf876358f6df2c46ad5fee2a9b0d150f5ecac0f6297c88aa5559b1"), looks := true }, kinds := [], alts := [], laidByText := true, laidKinds := [.data, .data, .data, .data, .sentinel, .sentinel, .pinned], laidTests := true, laidLooks := .later }
def FnExactSetParseCardSaid : Prop := Claim7.holds Tryd.pinned (.plain (OpenSpec.ofChange fnExactSetParseSpec)) fnExactSetParseCard

/-- THE TIED CARD OF 'laws.FnSetFormatParse'. -/
def fnSetFormatParseCard : Claim7 := { stood := { row := fnSetFormatParseRow, standIns := [], harness := (true, "73b154d288cf876358f6df2c46ad5fee2a9b0d150f5ecac0f6297c88aa5559b1"), looks := true }, kinds := [], alts := [], laidByText := true, laidKinds := [.data, .data, .data, .data, .sentinel, .sentinel, .pinned], laidTests := true, laidLooks := .later }
def FnSetFormatParseCardSaid : Prop := Claim7.holds Tryd.pinned (.plain (OpenSpec.ofChange fnSetFormatParseSpec)) fnSetFormatParseCard

/-- THE TIED CARD OF 'laws.FnSetParseStrict'. -/
def fnSetParseStrictCard : Claim7 := { stood := { row := fnSetParseStrictRow, standIns := [], harness := (true, "73b154d288cf876358f6df2c46ad5fee2a9b0d150f5ecac0f6297c88aa5559b1"), looks := true }, kinds := [], alts := [], laidByText := true, laidKinds := [.data, .data, .data, .data, .sentinel, .sentinel, .pinned], laidTests := true, laidLooks := .later }
def FnSetParseStrictCardSaid : Prop := Claim7.holds Tryd.pinned (.plain (OpenSpec.ofChange fnSetParseStrictSpec)) fnSetParseStrictCard

/-- THE TIED CARD OF 'laws.FnExactSetFormat'. -/
def fnExactSetFormatCard : Claim7 := { stood := { row := fnExactSetFormatRow, standIns := [], harness := (true, "73b154d288cf876358f6df2c46ad5fee2a9b0d150f5ecac0f6297c88aa5559b1"), looks := true }, kinds := [], alts := [], laidByText := true, laidKinds := [.data, .data, .data], laidTests := true, laidLooks := .later }
def FnExactSetFormatCardSaid : Prop := Claim7.holds Tryd.pinned (.plain (OpenSpec.ofChange fnExactSetFormatSpec)) fnExactSetFormatCard

/-- THE SECOND FORM's CARD OF 'laws.FnExactSetParse'. -/
def fnExactSetParseUptoCard : Claim7 := { stood := { row := fnExactSetParseUptoRow, standIns := [], harness := (true, "73b154d288cf876358f6df2c46ad5fee2a9b0d150f5ecac0f6297c88aa5559b1"), looks := true }, kinds := [], alts := [], laidByText := true, laidKinds := [.data, .data, .data, .data, .sentinel, .sentinel, .pinned], laidTests := true, laidLooks := .later }
def FnExactSetParseUptoCardSaid : Prop := Claim7.holds Tryd.pinned (.plain (OpenSpec.upto fnExactSetParseSpec)) fnExactSetParseUptoCard

/-- THE SECOND FORM's CARD OF 'laws.FnSetFormatParse'. -/
def fnSetFormatParseUptoCard : Claim7 := { stood := { row := fnSetFormatParseUptoRow, standIns := [], harness := (true, "73b154d288cf876358f6df2c46ad5fee2a9b0d150f5ecac0f6297c88aa5559b1"), looks := true }, kinds := [], alts := [], laidByText := true, laidKinds := [.data, .data, .data, .data, .sentinel, .sentinel, .pinned], laidTests := true, laidLooks := .later }
def FnSetFormatParseUptoCardSaid : Prop := Claim7.holds Tryd.pinned (.plain (OpenSpec.upto fnSetFormatParseSpec)) fnSetFormatParseUptoCard

/-- THE SECOND FORM's CARD OF 'laws.FnSetParseStrict'. -/
def fnSetParseStrictUptoCard : Claim7 := { stood := { row := fnSetParseStrictUptoRow, standIns := [], harness := (true, "73b154d288cf876358f6df2c46ad5fee2a9b0d150f5ecac0f6297c88aa5559b1"), looks := true }, kinds := [], alts := [], laidByText := true, laidKinds := [.data, .data, .data, .data, .sentinel, .sentinel, .pinned], laidTests := true, laidLooks := .later }
def FnSetParseStrictUptoCardSaid : Prop := Claim7.holds Tryd.pinned (.plain (OpenSpec.upto fnSetParseStrictSpec)) fnSetParseStrictUptoCard

/-- THE SECOND FORM's CARD OF 'laws.FnExactSetFormat'. -/
def fnExactSetFormatUptoCard : Claim7 := { stood := { row := fnExactSetFormatUptoRow, standIns := [], harness := (true, "73b154d288cf876358f6df2c46ad5fee2a9b0d150f5ecac0f6297c88aa5559b1"), looks := true }, kinds := [], alts := [], laidByText := true, laidKinds := [.data, .data, .data], laidTests := true, laidLooks := .later }
def FnExactSetFormatUptoCardSaid : Prop := Claim7.holds Tryd.pinned (.plain (OpenSpec.upto fnExactSetFormatSpec)) fnExactSetFormatUptoCard
end Rows
end Go.Proofs.YtdpclcogfkjbcaaDoor
