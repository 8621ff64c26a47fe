/-
  DERIVED. GIVEN WITH THE SEED: THE CARDS: each row of YtaigmkpeaenpmaaDoorRows.lean that lists a variable, with what it lists TIED to the program's text (the seventh form; the later family's looks); each row that meets fmt, with fmt's text TOLD by the authors' own Lean function (tested against real Go, not proved from fmt's source: count such statements apart). THE CARD IS WHAT COUNTS. Prove the row's statement (the work); the ties are given (YtaigmkpeaenpmaaDoorTie.lean); close each card by the builder's one call (the guide's Derived/Test/ToyasCard.lean, 'card_holds'). Laid BY PROGRAM, IN A SANDBOX (cutbox-door.mjs). By AI agents, Wed Nov 11 2026. No macro, syntax, notation, axiom, sorry.
-/
import Derived.Test.YtaigmkpeaenpmaaDoorRows
import GoSem.ClaimSeven
namespace Go.Proofs.YtaigmkpeaenpmaaDoor
namespace Rows

/-- THE TIED CARD OF 'chevallaw23.MutateTexts'. -/
def mutateTextsCard : Claim7 := { stood := { row := mutateTextsRow, standIns := [], harness := (true, "91086aa497f7e31433fbcf7b77c08744dea0d47ab51b439b9bafd2f3c3399910"), looks := true }, kinds := [], alts := [], laidByText := true, laidKinds := [.data, .data, .data, .data, .sentinel, .sentinel, .pinned], laidTests := true, laidLooks := .later }
def MutateTextsCardSaid : Prop := Claim7.holds Tryd.pinned (.plain (OpenSpec.ofChange mutateTextsSpec)) mutateTextsCard

/-- THE SECOND FORM's CARD OF 'chevallaw23.MutateTexts'. -/
def mutateTextsUptoCard : Claim7 := { stood := { row := mutateTextsUptoRow, standIns := [], harness := (true, "91086aa497f7e31433fbcf7b77c08744dea0d47ab51b439b9bafd2f3c3399910"), looks := true }, kinds := [], alts := [], laidByText := true, laidKinds := [.data, .data, .data, .data, .sentinel, .sentinel, .pinned], laidTests := true, laidLooks := .later }
def MutateTextsUptoCardSaid : Prop := Claim7.holds Tryd.pinned (.plain (OpenSpec.upto mutateTextsSpec)) mutateTextsUptoCard
end Rows
end Go.Proofs.YtaigmkpeaenpmaaDoor
