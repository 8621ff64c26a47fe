/-
  DERIVED. GIVEN WITH THE SEED: THE CARDS: each row of YtnpaikdaogikcaaGreatDoorRows.lean that lists a variable, with what it lists TIED to the program's text (the seventh form; the later family's looks); each row that meets fmt, with fmt's text TOLD by the authors' own Lean function (tested against real Go, not proved from fmt's source: count such statements apart). THE CARD IS WHAT COUNTS. Prove the row's statement (the work); the ties are given (YtnpaikdaogikcaaGreatDoorTie.lean); close each card by the builder's one call (the guide's Derived/Test/ToyasCard.lean, 'card_holds'). Laid BY PROGRAM, IN A SANDBOX (cutbox-door.mjs). By AI agents, Wed Nov 11 2026. No macro, syntax, notation, axiom, sorry.
-/
import Derived.Test.YtnpaikdaogikcaaGreatDoorRows
import GoSem.ClaimSeven
namespace Go.Proofs.YtnpaikdaogikcaaGreatDoor
namespace Rows

/-- THE TIED CARD OF 'chevallaw19.GenerateFilters'. -/
def generateFiltersCard : Claim7 := { stood := { row := generateFiltersRow, standIns := [], harness := (true, "4a8f7fe12e9d88af8f421d268a1cbcf3bf84681bd55ee3ca98b32adf9839d491"), looks := true }, kinds := [], alts := [], laidByText := true, laidKinds := [.data, .data, .data, .sentinel, .sentinel], laidTests := true, laidLooks := .later }
def GenerateFiltersCardSaid : Prop := Claim7.holds Tryz.pinned (.plain (OpenSpec.ofChange generateFiltersSpec)) generateFiltersCard

/-- THE SECOND FORM's CARD OF 'chevallaw19.GenerateFilters'. -/
def generateFiltersUptoCard : Claim7 := { stood := { row := generateFiltersUptoRow, standIns := [], harness := (true, "4a8f7fe12e9d88af8f421d268a1cbcf3bf84681bd55ee3ca98b32adf9839d491"), looks := true }, kinds := [], alts := [], laidByText := true, laidKinds := [.data, .data, .data, .sentinel, .sentinel], laidTests := true, laidLooks := .later }
def GenerateFiltersUptoCardSaid : Prop := Claim7.holds Tryz.pinned (.plain (OpenSpec.upto generateFiltersSpec)) generateFiltersUptoCard
end Rows
end Go.Proofs.YtnpaikdaogikcaaGreatDoor
