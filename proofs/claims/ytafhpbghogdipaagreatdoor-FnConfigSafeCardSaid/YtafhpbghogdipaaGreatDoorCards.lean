/-
  DERIVED. GIVEN WITH THE SEED: THE CARDS: each row of YtafhpbghogdipaaGreatDoorRows.lean that lists a variable, with what it lists TIED to the program's text (the seventh form; the later family's looks); each row that meets fmt, with fmt's text TOLD by the authors' own Lean function (tested against real Go, not proved from fmt's source: count such statements apart). THE CARD IS WHAT COUNTS. Prove the row's statement (the work); the ties are given (YtafhpbghogdipaaGreatDoorTie.lean); close each card by the builder's one call (the guide's Derived/Test/ToyasCard.lean, 'card_holds'). Laid BY PROGRAM, IN A SANDBOX (cutbox-door.mjs). By AI agents, Wed Nov 11 2026. No macro, syntax, notation, axiom, sorry.
-/
import Derived.Test.YtafhpbghogdipaaGreatDoorRows
import GoSem.ClaimSeven
namespace Go.Proofs.YtafhpbghogdipaaGreatDoor
namespace Rows

/-- THE TIED CARD OF 'laws.FnConfigSafe'. -/
def fnConfigSafeCard : Claim7 := { stood := { row := fnConfigSafeRow, standIns := [], harness := (true, "58c07f087d7560caa1c133de6b4f1aeca62784894f83998b7f48e0427e586aff"), looks := true }, kinds := [], alts := [], goes := true, laidByText := true, laidKinds := [.sentinel, .sentinel], laidTests := true, laidLooks := .later }
def FnConfigSafeCardSaid : Prop := Claim7.holds Tryz.pinned (.plain (OpenSpec.ofChange fnConfigSafeSpec)) fnConfigSafeCard

/-- THE SECOND FORM's CARD OF 'laws.FnConfigSafe'. -/
def fnConfigSafeUptoCard : Claim7 := { stood := { row := fnConfigSafeUptoRow, standIns := [], harness := (true, "58c07f087d7560caa1c133de6b4f1aeca62784894f83998b7f48e0427e586aff"), looks := true }, kinds := [], alts := [], goes := true, laidByText := true, laidKinds := [.sentinel, .sentinel], laidTests := true, laidLooks := .later }
def FnConfigSafeUptoCardSaid : Prop := Claim7.holds Tryz.pinned (.plain (OpenSpec.upto fnConfigSafeSpec)) fnConfigSafeUptoCard
end Rows
end Go.Proofs.YtafhpbghogdipaaGreatDoor
