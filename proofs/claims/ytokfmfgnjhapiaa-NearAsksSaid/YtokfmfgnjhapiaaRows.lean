/-
  No cell of these rows narrows 'for every input' (looked for: loops, veiled, ifaces, maps, wideKeys, modest, calm, conditions, laid).
  DERIVED. THE GIVEN ROWS OF THIS SEAT. 8 by the template 'for every input the law returns true; each argument reads behind the call as it read before'; 0 by the template 'total and deterministic' (their statements: YtokfmfgnjhapiaaTotals.lean).
  GIVEN WITH THE SEED: the statements are not yours to turn. If you find one false, say at which input.
  Laid BY PROGRAM, IN A SANDBOX (cutbox-rows.mjs): the forced cells as the released guide's own fill.sh prints them over the translation 08a7cb1ba0d08a5e… (all of the seat's roots in one cut). By AI agents, Wed Nov 11 2026. No macro, syntax, notation, axiom, sorry.
-/
import Derived.Test.YtokfmfgnjhapiaaChecked
import GoSem.Claim
import GoSem.ClaimJoined
import GoSem.ClaimMapViews
import Derived.JoinedTies
import Derived.KernelRfl
namespace Go.Proofs.Ytokfmfgnjhapiaa
/- THE CELL 'sum', in the pinned program and in every row, IS THE sha256 OF THE DUMP (.gsa) THAT YtokfmfgnjhapiaaProg.lean LOADS. Nothing in Lean hashes anything: it is a label: what it is worth is what the hold of that sum in a sandbox is worth. -/
noncomputable def Try.pinned : Pinned := { name := "ytokfmfgnjhapiaa", sum := "08a7cb1ba0d08a5e278bf4c501ee2094b32192fcfd1506d0d33adc7ac04893a2", checked := Try.checked }
namespace Rows
def none {H : Type} : Left H := { results := [], args := [] }

/-- 'chevallaw23.MutateDoes': WHATEVER THE INPUT: true; the input reads as it did. -/
def mutateDoesSpec : ChangeSpec := { name := "mutateDoes", fn := fun _ => fun
  | [d1, d2] => { results := [.lit (.bool true)], args := [d1, d2] }
  | _ => none }
def mutateDoesRow : OpenClaim := { program := "ytokfmfgnjhapiaa", sum := "08a7cb1ba0d08a5e278bf4c501ee2094b32192fcfd1506d0d33adc7ac04893a2", func := "cheval/chevallaw23.MutateDoes", spec := "mutateDoes", unfollowed := true, recurses := true, apart := false }
def MutateDoesSaid : Prop := mutateDoesRow.holds Try.pinned (OpenSpec.ofChange mutateDoesSpec)

/-- ITS FALSE NEIGHBOUR: 'it returns false'. Refute it at one input. -/
def mutateDoesWrong : ChangeSpec := { name := "mutateDoes", fn := fun _ => fun
  | [d1, d2] => { results := [.lit (.bool false)], args := [d1, d2] }
  | _ => none }
def MutateDoesWrongFalsely : Prop := mutateDoesRow.holds Try.pinned (OpenSpec.ofChange mutateDoesWrong)

/-- 'chevallaw23.MutateTurns': WHATEVER THE INPUT: true; the input reads as it did. -/
def mutateTurnsSpec : ChangeSpec := { name := "mutateTurns", fn := fun _ => fun
  | [d1, d2] => { results := [.lit (.bool true)], args := [d1, d2] }
  | _ => none }
def mutateTurnsRow : OpenClaim := { program := "ytokfmfgnjhapiaa", sum := "08a7cb1ba0d08a5e278bf4c501ee2094b32192fcfd1506d0d33adc7ac04893a2", func := "cheval/chevallaw23.MutateTurns", spec := "mutateTurns", unfollowed := true, recurses := true, apart := false }
def MutateTurnsSaid : Prop := mutateTurnsRow.holds Try.pinned (OpenSpec.ofChange mutateTurnsSpec)

/-- ITS FALSE NEIGHBOUR: 'it returns false'. Refute it at one input. -/
def mutateTurnsWrong : ChangeSpec := { name := "mutateTurns", fn := fun _ => fun
  | [d1, d2] => { results := [.lit (.bool false)], args := [d1, d2] }
  | _ => none }
def MutateTurnsWrongFalsely : Prop := mutateTurnsRow.holds Try.pinned (OpenSpec.ofChange mutateTurnsWrong)

/-- 'chevallaw20.NearAlls': WHATEVER THE INPUT: true; the input reads as it did. -/
def nearAllsSpec : ChangeSpec := { name := "nearAlls", fn := fun _ => fun
  | [d1, d2] => { results := [.lit (.bool true)], args := [d1, d2] }
  | _ => none }
def nearAllsRow : OpenClaim := { program := "ytokfmfgnjhapiaa", sum := "08a7cb1ba0d08a5e278bf4c501ee2094b32192fcfd1506d0d33adc7ac04893a2", func := "cheval/chevallaw20.NearAlls", spec := "nearAlls", unfollowed := true, recurses := true, apart := false }
def NearAllsSaid : Prop := nearAllsRow.holds Try.pinned (OpenSpec.ofChange nearAllsSpec)

/-- ITS FALSE NEIGHBOUR: 'it returns false'. Refute it at one input. -/
def nearAllsWrong : ChangeSpec := { name := "nearAlls", fn := fun _ => fun
  | [d1, d2] => { results := [.lit (.bool false)], args := [d1, d2] }
  | _ => none }
def NearAllsWrongFalsely : Prop := nearAllsRow.holds Try.pinned (OpenSpec.ofChange nearAllsWrong)

/-- 'chevallaw20.NearAsks': WHATEVER THE INPUT: true; the input reads as it did. -/
def nearAsksSpec : ChangeSpec := { name := "nearAsks", fn := fun _ => fun
  | [d1, d2, d3] => { results := [.lit (.bool true)], args := [d1, d2, d3] }
  | _ => none }
def nearAsksRow : OpenClaim := { program := "ytokfmfgnjhapiaa", sum := "08a7cb1ba0d08a5e278bf4c501ee2094b32192fcfd1506d0d33adc7ac04893a2", func := "cheval/chevallaw20.NearAsks", spec := "nearAsks", unfollowed := true, recurses := true, apart := false }
def NearAsksSaid : Prop := nearAsksRow.holds Try.pinned (OpenSpec.ofChange nearAsksSpec)

/-- ITS FALSE NEIGHBOUR: 'it returns false'. Refute it at one input. -/
def nearAsksWrong : ChangeSpec := { name := "nearAsks", fn := fun _ => fun
  | [d1, d2, d3] => { results := [.lit (.bool false)], args := [d1, d2, d3] }
  | _ => none }
def NearAsksWrongFalsely : Prop := nearAsksRow.holds Try.pinned (OpenSpec.ofChange nearAsksWrong)

/-- 'chevallaw20.NearLess': WHATEVER THE INPUT: true; the input reads as it did. -/
def nearLessSpec : ChangeSpec := { name := "nearLess", fn := fun _ => fun
  | [d1, d2] => { results := [.lit (.bool true)], args := [d1, d2] }
  | _ => none }
def nearLessRow : OpenClaim := { program := "ytokfmfgnjhapiaa", sum := "08a7cb1ba0d08a5e278bf4c501ee2094b32192fcfd1506d0d33adc7ac04893a2", func := "cheval/chevallaw20.NearLess", spec := "nearLess", unfollowed := true, recurses := true, apart := false }
def NearLessSaid : Prop := nearLessRow.holds Try.pinned (OpenSpec.ofChange nearLessSpec)

/-- ITS FALSE NEIGHBOUR: 'it returns false'. Refute it at one input. -/
def nearLessWrong : ChangeSpec := { name := "nearLess", fn := fun _ => fun
  | [d1, d2] => { results := [.lit (.bool false)], args := [d1, d2] }
  | _ => none }
def NearLessWrongFalsely : Prop := nearLessRow.holds Try.pinned (OpenSpec.ofChange nearLessWrong)

/-- 'chevallaw20.NearOnce': WHATEVER THE INPUT: true; the input reads as it did. -/
def nearOnceSpec : ChangeSpec := { name := "nearOnce", fn := fun _ => fun
  | [d] => { results := [.lit (.bool true)], args := [d] }
  | _ => none }
def nearOnceRow : OpenClaim := { program := "ytokfmfgnjhapiaa", sum := "08a7cb1ba0d08a5e278bf4c501ee2094b32192fcfd1506d0d33adc7ac04893a2", func := "cheval/chevallaw20.NearOnce", spec := "nearOnce", unfollowed := true, recurses := true, apart := false }
def NearOnceSaid : Prop := nearOnceRow.holds Try.pinned (OpenSpec.ofChange nearOnceSpec)

/-- ITS FALSE NEIGHBOUR: 'it returns false'. Refute it at one input. -/
def nearOnceWrong : ChangeSpec := { name := "nearOnce", fn := fun _ => fun
  | [d] => { results := [.lit (.bool false)], args := [d] }
  | _ => none }
def NearOnceWrongFalsely : Prop := nearOnceRow.holds Try.pinned (OpenSpec.ofChange nearOnceWrong)

/-- 'chevallaw20.NearLongs': WHATEVER THE INPUT: true; the input reads as it did. -/
def nearLongsSpec : ChangeSpec := { name := "nearLongs", fn := fun _ => fun
  | [d1, d2] => { results := [.lit (.bool true)], args := [d1, d2] }
  | _ => none }
def nearLongsRow : OpenClaim := { program := "ytokfmfgnjhapiaa", sum := "08a7cb1ba0d08a5e278bf4c501ee2094b32192fcfd1506d0d33adc7ac04893a2", func := "cheval/chevallaw20.NearLongs", spec := "nearLongs", unfollowed := true, recurses := true, apart := false }
def NearLongsSaid : Prop := nearLongsRow.holds Try.pinned (OpenSpec.ofChange nearLongsSpec)

/-- ITS FALSE NEIGHBOUR: 'it returns false'. Refute it at one input. -/
def nearLongsWrong : ChangeSpec := { name := "nearLongs", fn := fun _ => fun
  | [d1, d2] => { results := [.lit (.bool false)], args := [d1, d2] }
  | _ => none }
def NearLongsWrongFalsely : Prop := nearLongsRow.holds Try.pinned (OpenSpec.ofChange nearLongsWrong)

/-- 'chevallaw20.NearRows': WHATEVER THE INPUT: true; the input reads as it did. -/
def nearRowsSpec : ChangeSpec := { name := "nearRows", fn := fun _ => fun
  | [d1, d2] => { results := [.lit (.bool true)], args := [d1, d2] }
  | _ => none }
def nearRowsRow : OpenClaim := { program := "ytokfmfgnjhapiaa", sum := "08a7cb1ba0d08a5e278bf4c501ee2094b32192fcfd1506d0d33adc7ac04893a2", func := "cheval/chevallaw20.NearRows", spec := "nearRows", unfollowed := true, recurses := true, apart := false }
def NearRowsSaid : Prop := nearRowsRow.holds Try.pinned (OpenSpec.ofChange nearRowsSpec)

/-- ITS FALSE NEIGHBOUR: 'it returns false'. Refute it at one input. -/
def nearRowsWrong : ChangeSpec := { name := "nearRows", fn := fun _ => fun
  | [d1, d2] => { results := [.lit (.bool false)], args := [d1, d2] }
  | _ => none }
def NearRowsWrongFalsely : Prop := nearRowsRow.holds Try.pinned (OpenSpec.ofChange nearRowsWrong)

/- THE SECOND FORM. 'bulk': how many values and letters a reading holds, each counted each time it is reached (what is shared counts as often as it is met; a slice's spare places count too). A statement '..UptoSaid' is the law's where the arguments, and the package variables that the reading takes, are together of bulk at most 1048576: NARROWER than '..Said'. Prove '..Said' where nothing that the law and all that it calls make is longer than what came in: it says more and counts as full. Else prove '..UptoSaid'. A law counts once. -/
mutual
def uptoBulk {H : Type} : DataW H → Nat
  | .lit (.string bytes) => bytes.length + 1
  | .lit _ => 1
  | .nil => 1
  | .ptr d => uptoBulk d + 1
  | .slice elems spare => uptoBulkAll elems + uptoBulkAll spare + 1
  | .agg parts => uptoBulkAll parts + 1
  | .iface _ d => uptoBulk d + 1
  | .map entries => uptoBulkEntries entries + 1
  | .held _ => 1
def uptoBulkAll {H : Type} : List (DataW H) → Nat
  | [] => 0
  | d :: r => uptoBulk d + uptoBulkAll r
def uptoBulkEntries {H : Type} : List (Lit × DataW H) → Nat
  | [] => 0
  | x :: r => uptoBulkEntry x + uptoBulkEntries r
def uptoBulkEntry {H : Type} : Lit × DataW H → Nat
  | (.string bytes, d) => bytes.length + uptoBulk d + 1
  | (_, d) => uptoBulk d + 1
 end
def uptoSmall : (H : Type) → List (DataW H) → Bool := fun _ ds => decide (uptoBulkAll ds ≤ 1048576)
def OpenSpec.upto (s : _root_.Go.ChangeSpec) : _root_.Go.OpenSpec := { _root_.Go.OpenSpec.ofChange s with cond := some uptoSmall }

/-- 'chevallaw23.MutateDoes', WHERE WHAT IT READS IS OF BULK AT MOST 1048576: true; the input reads as it did. -/
def mutateDoesUptoRow : OpenClaim := { program := "ytokfmfgnjhapiaa", sum := "08a7cb1ba0d08a5e278bf4c501ee2094b32192fcfd1506d0d33adc7ac04893a2", func := "cheval/chevallaw23.MutateDoes", spec := "mutateDoes", unfollowed := true, recurses := true, apart := false, narrowed := true }
def MutateDoesUptoSaid : Prop := mutateDoesUptoRow.holds Try.pinned (OpenSpec.upto mutateDoesSpec)

/-- 'chevallaw23.MutateTurns', WHERE WHAT IT READS IS OF BULK AT MOST 1048576: true; the input reads as it did. -/
def mutateTurnsUptoRow : OpenClaim := { program := "ytokfmfgnjhapiaa", sum := "08a7cb1ba0d08a5e278bf4c501ee2094b32192fcfd1506d0d33adc7ac04893a2", func := "cheval/chevallaw23.MutateTurns", spec := "mutateTurns", unfollowed := true, recurses := true, apart := false, narrowed := true }
def MutateTurnsUptoSaid : Prop := mutateTurnsUptoRow.holds Try.pinned (OpenSpec.upto mutateTurnsSpec)

/-- 'chevallaw20.NearAlls', WHERE WHAT IT READS IS OF BULK AT MOST 1048576: true; the input reads as it did. -/
def nearAllsUptoRow : OpenClaim := { program := "ytokfmfgnjhapiaa", sum := "08a7cb1ba0d08a5e278bf4c501ee2094b32192fcfd1506d0d33adc7ac04893a2", func := "cheval/chevallaw20.NearAlls", spec := "nearAlls", unfollowed := true, recurses := true, apart := false, narrowed := true }
def NearAllsUptoSaid : Prop := nearAllsUptoRow.holds Try.pinned (OpenSpec.upto nearAllsSpec)

/-- 'chevallaw20.NearAsks', WHERE WHAT IT READS IS OF BULK AT MOST 1048576: true; the input reads as it did. -/
def nearAsksUptoRow : OpenClaim := { program := "ytokfmfgnjhapiaa", sum := "08a7cb1ba0d08a5e278bf4c501ee2094b32192fcfd1506d0d33adc7ac04893a2", func := "cheval/chevallaw20.NearAsks", spec := "nearAsks", unfollowed := true, recurses := true, apart := false, narrowed := true }
def NearAsksUptoSaid : Prop := nearAsksUptoRow.holds Try.pinned (OpenSpec.upto nearAsksSpec)

/-- 'chevallaw20.NearLess', WHERE WHAT IT READS IS OF BULK AT MOST 1048576: true; the input reads as it did. -/
def nearLessUptoRow : OpenClaim := { program := "ytokfmfgnjhapiaa", sum := "08a7cb1ba0d08a5e278bf4c501ee2094b32192fcfd1506d0d33adc7ac04893a2", func := "cheval/chevallaw20.NearLess", spec := "nearLess", unfollowed := true, recurses := true, apart := false, narrowed := true }
def NearLessUptoSaid : Prop := nearLessUptoRow.holds Try.pinned (OpenSpec.upto nearLessSpec)

/-- 'chevallaw20.NearOnce', WHERE WHAT IT READS IS OF BULK AT MOST 1048576: true; the input reads as it did. -/
def nearOnceUptoRow : OpenClaim := { program := "ytokfmfgnjhapiaa", sum := "08a7cb1ba0d08a5e278bf4c501ee2094b32192fcfd1506d0d33adc7ac04893a2", func := "cheval/chevallaw20.NearOnce", spec := "nearOnce", unfollowed := true, recurses := true, apart := false, narrowed := true }
def NearOnceUptoSaid : Prop := nearOnceUptoRow.holds Try.pinned (OpenSpec.upto nearOnceSpec)

/-- 'chevallaw20.NearLongs', WHERE WHAT IT READS IS OF BULK AT MOST 1048576: true; the input reads as it did. -/
def nearLongsUptoRow : OpenClaim := { program := "ytokfmfgnjhapiaa", sum := "08a7cb1ba0d08a5e278bf4c501ee2094b32192fcfd1506d0d33adc7ac04893a2", func := "cheval/chevallaw20.NearLongs", spec := "nearLongs", unfollowed := true, recurses := true, apart := false, narrowed := true }
def NearLongsUptoSaid : Prop := nearLongsUptoRow.holds Try.pinned (OpenSpec.upto nearLongsSpec)

/-- 'chevallaw20.NearRows', WHERE WHAT IT READS IS OF BULK AT MOST 1048576: true; the input reads as it did. -/
def nearRowsUptoRow : OpenClaim := { program := "ytokfmfgnjhapiaa", sum := "08a7cb1ba0d08a5e278bf4c501ee2094b32192fcfd1506d0d33adc7ac04893a2", func := "cheval/chevallaw20.NearRows", spec := "nearRows", unfollowed := true, recurses := true, apart := false, narrowed := true }
def NearRowsUptoSaid : Prop := nearRowsUptoRow.holds Try.pinned (OpenSpec.upto nearRowsSpec)

end Rows
end Go.Proofs.Ytokfmfgnjhapiaa
