/-
  DERIVED. GIVEN WITH THE SEED: THE CARDS: each row of YtafhpbghogdipaaDoorRows.lean that lists a variable, with what it lists TIED to the program's text (the seventh form; the later family's looks); each row that meets fmt, with fmt's text TOLD by the authors' own Lean function (tested against real Go, not proved from fmt's source: count such statements apart). THE CARD IS WHAT COUNTS. Prove the row's statement (the work); the ties are given (YtafhpbghogdipaaDoorTie.lean); close each card by the builder's one call (the guide's Derived/Test/ToyasCard.lean, 'card_holds'). Laid BY PROGRAM, IN A SANDBOX (cutbox-door.mjs). By AI agents, Wed Nov 11 2026. No macro, syntax, notation, axiom, sorry.
-/
import Derived.Test.YtafhpbghogdipaaDoorRows
import GoSem.ClaimSeven
namespace Go.Proofs.YtafhpbghogdipaaDoor
namespace Rows

/-- THE TIED CARD OF 'laws.FnExactIntersectCertify'. -/
def fnExactIntersectCertifyCard : Claim7 := { stood := { row := fnExactIntersectCertifyRow, standIns := [], harness := (true, "c26dd20d7aa25e8fade84a142a5bfdbc87368e4b82693b657dadf3e93beb6f1a"), looks := true }, kinds := [], alts := [], goes := true, laidByText := true, laidKinds := [.data, .data], laidTests := true, laidLooks := .later }
def FnExactIntersectCertifyCardSaid : Prop := Claim7.holds Tryd.pinned (.plain (OpenSpec.ofChange fnExactIntersectCertifySpec)) fnExactIntersectCertifyCard

/-- THE TIED CARD OF 'laws.FnExactConfigSafe'. -/
def fnExactConfigSafeCard : Claim7 := { stood := { row := fnExactConfigSafeRow, standIns := [], harness := (true, "c26dd20d7aa25e8fade84a142a5bfdbc87368e4b82693b657dadf3e93beb6f1a"), looks := true }, kinds := [], alts := [], goes := true, laidByText := true, laidKinds := [.sentinel, .sentinel], laidTests := true, laidLooks := .later }
def FnExactConfigSafeCardSaid : Prop := Claim7.holds Tryd.pinned (.plain (OpenSpec.ofChange fnExactConfigSafeSpec)) fnExactConfigSafeCard

/-- THE SECOND FORM's CARD OF 'laws.FnExactIntersectCertify'. -/
def fnExactIntersectCertifyUptoCard : Claim7 := { stood := { row := fnExactIntersectCertifyUptoRow, standIns := [], harness := (true, "c26dd20d7aa25e8fade84a142a5bfdbc87368e4b82693b657dadf3e93beb6f1a"), looks := true }, kinds := [], alts := [], goes := true, laidByText := true, laidKinds := [.data, .data], laidTests := true, laidLooks := .later }
def FnExactIntersectCertifyUptoCardSaid : Prop := Claim7.holds Tryd.pinned (.plain (OpenSpec.upto fnExactIntersectCertifySpec)) fnExactIntersectCertifyUptoCard

/-- THE SECOND FORM's CARD OF 'laws.FnExactConfigSafe'. -/
def fnExactConfigSafeUptoCard : Claim7 := { stood := { row := fnExactConfigSafeUptoRow, standIns := [], harness := (true, "c26dd20d7aa25e8fade84a142a5bfdbc87368e4b82693b657dadf3e93beb6f1a"), looks := true }, kinds := [], alts := [], goes := true, laidByText := true, laidKinds := [.sentinel, .sentinel], laidTests := true, laidLooks := .later }
def FnExactConfigSafeUptoCardSaid : Prop := Claim7.holds Tryd.pinned (.plain (OpenSpec.upto fnExactConfigSafeSpec)) fnExactConfigSafeUptoCard
end Rows
end Go.Proofs.YtafhpbghogdipaaDoor
