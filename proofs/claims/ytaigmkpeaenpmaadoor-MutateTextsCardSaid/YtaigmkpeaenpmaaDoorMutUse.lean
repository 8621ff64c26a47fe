/- Which of a mutation's numbers a kind uses, as the program has it; its text. -/
import Derived.Test.YtaigmkpeaenpmaaDoorMutTextRef
import Derived.Test.YtaigmkpeaenpmaaDoorNumWalk
import Derived.Test.YtaigmkpeaenpmaaDoorDo
namespace Go.Proofs.YtaigmkpeaenpmaaDoor
set_option maxRecDepth 100000
open Go.RowKit
set_option linter.unusedVariables false
set_option linter.unusedSimpArgs false

def offsK : Nat → List Nat
  | 0 => [1, 3]
  | 2 => [1]
  | 3 => [1, 2, 3]
  | _ => [1, 2]
def Ptrs (b : Nat) (os : List Nat) : List Value := os.map fun o => .pointer (some ⟨b, o, none⟩)
/-- What a kind's use hands back: the addresses of the numbers. -/
def Uses (f : FuncId) (os : List Nat) : Prop := ∀ (b : Nat) (w : World), Calls Tryd.prog f #[.pointer (some ⟨b, 0, none⟩)] w fun e w' => ∃ g, e = .returned (.slice (some ⟨g, 0, none⟩) os.length os.length) ∧ CellsAt w' (some ⟨g, 0, none⟩) (Ptrs b os) ∧ Ext w w'

theorem use_one : Uses 27 [1] := fun b w => by
  refine of_post fun R hR => ?_
  have HN := fun w => Lib.hid (cellsAt_new w (Ptrs b [1]) 48)
  unfold Ptrs at *
  simp only [List.map_cons, List.map_nil] at *
  go_enter Tryd.func27, Tryd.ntmps27
  go_wp2_with fail
  exact hR.out _ _ ⟨_, rfl, (HN _).out, (Ext.refl' w).alloc' _⟩
theorem use_span : Uses 25 [1, 2] := fun b w => by
  refine of_post fun R hR => ?_
  have HN := fun w => Lib.hid (cellsAt_new w (Ptrs b [1, 2]) 48)
  unfold Ptrs at *
  simp only [List.map_cons, List.map_nil] at *
  go_enter Tryd.func25, Tryd.ntmps25
  go_wp2_with fail
  go_region
  all_goals
    go_wp2_with fail
    exact hR.out _ _ ⟨_, rfl, CellsAt.ext (HN w).out ((Ext.refl' _).drewN' 1), ((Ext.refl' w).alloc' _).drewN' 1⟩
theorem use_place : Uses 23 [1, 3] := fun b w => by
  refine of_post fun R hR => ?_
  have HN := fun w => Lib.hid (cellsAt_new w (Ptrs b [1, 3]) 48)
  unfold Ptrs at *
  simp only [List.map_cons, List.map_nil] at *
  go_enter Tryd.func23, Tryd.ntmps23
  go_wp2_with fail
  go_region
  all_goals
    go_wp2_with fail
    exact hR.out _ _ ⟨_, rfl, CellsAt.ext (HN w).out ((Ext.refl' _).drewN' 1), ((Ext.refl' w).alloc' _).drewN' 1⟩
theorem use_all : Uses 29 [1, 2, 3] := fun b w => by
  refine of_post fun R hR => ?_
  have HN := fun w => Lib.hid (cellsAt_new w (Ptrs b [1, 2, 3]) 48)
  unfold Ptrs at *
  simp only [List.map_cons, List.map_nil] at *
  go_enter Tryd.func29, Tryd.ntmps29
  go_wp2_with fail
  go_region
  all_goals
    go_wp2_with fail
    exact hR.out _ _ ⟨_, rfl, CellsAt.ext (HN w).out ((Ext.refl' _).drewN' 1), ((Ext.refl' w).alloc' _).drewN' 1⟩
end Go.Proofs.YtaigmkpeaenpmaaDoor
