/- The document's example of layer 23, and the law's own small function. -/
import Derived.Test.YtaigmkpeaenpmaaDoorMutRead
import Derived.Test.YtaigmkpeaenpmaaDoorDoAny
namespace Go.Proofs.YtaigmkpeaenpmaaDoor
set_option maxRecDepth 100000
open Go.RowKit
set_option linter.unusedVariables false
set_option linter.unusedSimpArgs false

/-- Done, with the error's number in the open. -/
theorem done_some {w : World} {zs : List Int} {code : Int} {e : Ending} {w' : World} (h : Done w (some zs) code e w') :
    ∃ g cp, e = .returned (.tuple #[.slice (some ⟨g, 0, none⟩) zs.length cp, .int .i64 0]) ∧ w'.ownsRow w.heap.size 3 1 (.slice (some ⟨g, 0, none⟩) zs.length cp) zs.length (zs.map I64) ∧ Ext w w' :=
  let ⟨⟨g, cp, h1, h2⟩, h3⟩ := h
  ⟨g, cp, h1, h2, h3⟩

theorem IS_of_own {w : World} {base : Nat} {A : Option Addr} {c : Nat} {xs : List Int} (h : w.ownsRow base 3 1 (.slice A xs.length c) xs.length (xs.map I64)) : IS w A xs :=
  IS_of_cells (cellsAt_of_own h)

theorem awake_any (w : World) : Calls Tryd.prog 4 #[] w fun e w' => e = .returned (.bool true) ∧ Ext w w' := by
  refine of_post fun R hR => ?_
  go_enter Tryd.func4, Tryd.ntmps4
  go_wp2_with fail
  refine (do_any 2 1 0 0 _ _ [1, 2, 3] [7, 8] _ _ _ ?_ ?_ (by decide) (by decide) (by decide) (by decide)).mono ?_
  · exact (cellsAt_new w [.int .i64 1, .int .i64 2, .int .i64 3] 3).ext ((Ext.refl' _).alloc' _)
  · exact cellsAt_new2 w _ [.int .i64 7, .int .i64 8] 3
  · intro e w1 hd
    have hd' : Done _ (some [1, 8]) (doCode 2) e w1 := hd
    obtain ⟨g, cp, rfl, ho, hx⟩ := done_some hd'
    have HO := Lib.hid ho
    have HX := Lib.hid ((((Ext.refl' w).alloc' _).alloc' _).trans' hx)
    clear hd hd' ho hx
    go_wp2_with fail
    refine (ints_any _ _ [1, 8] [1, 8] _ _ _ ((IS_of_own (xs := [1, 8]) HO.out).ext ((Ext.refl' _).alloc' _)) (IS_of_cells (cellsAt_new w1 [.int .i64 1, .int .i64 8] 3)) (by decide) (by decide)).mono ?_
    rintro e w2 ⟨rfl, q, rfl⟩
    go_wp2_with fail
    exact hR.out _ _ ⟨rfl, (HX.out.alloc' _).drewN' q⟩
theorem real_any (m0 m1 m2 m3 : Int) (w : World) :
    Calls Tryd.prog 5 #[.agg #[.int .i64 m0, .int .i64 m1, .int .i64 m2, .int .i64 m3]] w fun e w' => e = .returned (.agg #[.int .i64 m0, .int .i64 m1, .int .i64 m2, .int .i64 m3]) ∧ Ext w w' := by
  refine of_post fun R hR => ?_
  go_enter Tryd.func5, Tryd.ntmps5
  go_wp2
  exact bodyPost_ret (v := .agg #[.int .i64 m0, .int .i64 m1, .int .i64 m2, .int .i64 m3]) (by simp [results, Tryd.results5, go_sem]) rfl (hR.out _ _ ⟨rfl, ((Ext.refl' w).alloc' _).alloc' _⟩)

end Go.Proofs.YtaigmkpeaenpmaaDoor
