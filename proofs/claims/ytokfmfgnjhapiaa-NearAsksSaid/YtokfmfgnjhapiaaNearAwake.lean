/- awake: the document's example. -/
import Derived.Test.YtokfmfgnjhapiaaNearIs
namespace Go.Proofs.Ytokfmfgnjhapiaa
open Go.RowKit
set_option linter.unusedVariables false
set_option linter.unusedSimpArgs false

theorem is_two (w : World) (x y : Int) : IS (w.alloc (.cells #[.int .i64 x, .int .i64 y] 3)) (some ⟨w.heap.size, 0, none⟩) [x, y] := by
  have := cellsAt_new w [.int .i64 x, .int .i64 y] 3
  exact IS_of_cells this

theorem told_21 : (toldL [2, 1]).length = 7 ∧ [1, 2] ∈ toldL [2, 1] := by decide +kernel

theorem awake_near (w : World) : Calls Try.prog 17 #[] w fun e w' => e = .returned (.bool true) ∧ Ext w w' := by
  refine of_post fun R hR => ?_
  have HC := Lib.hid (count_any (some ⟨w.heap.size, 0, none⟩) [2, 1] 2 2 _ (is_two w 2 1) rfl (by omega) (by unfold maxLen; omega) (by simp) (by rw [told_21.1]; omega))
  rw [told_21.1] at HC
  go_enter Try.func17, Try.ntmps17
  go_wp2_with fail
  refine HC.out.mono ?_
  rintro e w1 ⟨rfl, hx⟩
  have HX := Lib.hid (((Ext.refl' w).alloc' _).trans' hx)
  clear hx
  go_wp2_with fail
  have h2 : IS ((w1.alloc (.cells #[.int .i64 2, .int .i64 1] 3)).alloc (.cells #[.int .i64 1, .int .i64 2] 3)) (some ⟨w1.heap.size + 1, 0, none⟩) [1, 2] := by
    have := is_two (w1.alloc (.cells #[.int .i64 2, .int .i64 1] 3)) 1 2
    rwa [World.size_alloc] at this
  refine (is_any _ _ [2, 1] [1, 2] 2 2 2 2 _ ((is_two w1 2 1).ext ((Ext.refl' _).alloc' _)) h2 rfl rfl (by omega) (by unfold maxLen; omega) (by unfold maxLen; omega) (by simp)).mono ?_
  rintro e w2 ⟨rfl, hx⟩
  rw [decide_eq_true told_21.2]
  have HX2 := Lib.hid (((HX.out.alloc' _).alloc' _).trans' hx)
  clear hx h2
  go_wp2_with fail
  exact hR.out _ _ ⟨rfl, HX2.out⟩
end Go.Proofs.Ytokfmfgnjhapiaa
