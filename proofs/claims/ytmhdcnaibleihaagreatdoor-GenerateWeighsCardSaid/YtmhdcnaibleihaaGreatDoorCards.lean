/-
  DERIVED. GIVEN WITH THE SEED: THE CARDS: each row of YtmhdcnaibleihaaGreatDoorRows.lean that lists a variable, with what it lists TIED to the program's text (the seventh form; the later family's looks); each row that meets fmt, with fmt's text TOLD by the authors' own Lean function (tested against real Go, not proved from fmt's source: count such statements apart). THE CARD IS WHAT COUNTS. Prove the row's statement (the work); the ties are given (YtmhdcnaibleihaaGreatDoorTie.lean); close each card by the builder's one call (the guide's Derived/Test/ToyasCard.lean, 'card_holds'). Laid BY PROGRAM, IN A SANDBOX (cutbox-door.mjs). By AI agents, Wed Nov 11 2026. No macro, syntax, notation, axiom, sorry.
-/
import Derived.Test.YtmhdcnaibleihaaGreatDoorRows
import GoSem.ClaimSeven
namespace Go.Proofs.YtmhdcnaibleihaaGreatDoor
namespace Rows

/-- THE TIED CARD OF 'chevallaw19.GenerateWeighs'. -/
def generateWeighsCard : Claim7 := { stood := { row := generateWeighsRow, standIns := [], harness := (true, "7066815b5b08e5d030cbcd2210ead0277f0b9c80be6d28dda5b567efcf13cf4f"), looks := true }, kinds := [], alts := [], laidByText := true, laidKinds := [.data, .data, .data, .sentinel, .sentinel], laidTests := true, laidLooks := .later }
def GenerateWeighsCardSaid : Prop := Claim7.holds Tryz.pinned (.plain (OpenSpec.ofChange generateWeighsSpec)) generateWeighsCard

/-- THE SECOND FORM's CARD OF 'chevallaw19.GenerateWeighs'. -/
def generateWeighsUptoCard : Claim7 := { stood := { row := generateWeighsUptoRow, standIns := [], harness := (true, "7066815b5b08e5d030cbcd2210ead0277f0b9c80be6d28dda5b567efcf13cf4f"), looks := true }, kinds := [], alts := [], laidByText := true, laidKinds := [.data, .data, .data, .sentinel, .sentinel], laidTests := true, laidLooks := .later }
def GenerateWeighsUptoCardSaid : Prop := Claim7.holds Tryz.pinned (.plain (OpenSpec.upto generateWeighsSpec)) generateWeighsUptoCard
end Rows
end Go.Proofs.YtmhdcnaibleihaaGreatDoor
