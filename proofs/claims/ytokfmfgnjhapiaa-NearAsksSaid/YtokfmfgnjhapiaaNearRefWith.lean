/- The document's with. -/
import Derived.Test.YtokfmfgnjhapiaaNearPut
namespace Go.Proofs.Ytokfmfgnjhapiaa
open Go.RowKit
set_option linter.unusedVariables false
set_option linter.unusedSimpArgs false

set_option maxHeartbeats 1000000 in
theorem ref_with (A : Option Addr) (xs : List Int) (n c : Nat) (i : Nat) (d : Int) (w : World) (hA : IS w A xs) (hx : xs.length = n) (hn : n ≤ 1000000) (hi : i < n) :
    Calls Try.prog 32 #[.slice A n c, .int .i64 i, .int .i64 d] w fun e w' => ∃ q : IRow, e = .returned q.val ∧ q.xs = xs.set i d ∧ Fresh w.heap.size w' q ∧ Ext w w' := by
  refine of_post fun R hR => ?_
  obtain ⟨i0, hi0, hz0, hz1, hz2⟩ := info_parts infoInt
  have HC := Lib.hid (CellsAt.ext (cells_of_IS hA) ((Ext.refl' w).alloc' (.cells #[] 3)))
  have HO := Lib.hid (own_empty w 3 1)
  have Hx := Lib.hid hx
  have hb1 : (0 + n) * 8 ≤ 140737488355328 := by omega
  have hb2 : 0 + n ≤ maxLen := by unfold maxLen; omega
  have hxi : i < xs.length := by rw [hx]; exact hi
  clear hA hx
  go_enter Try.func32, Try.ntmps32
  go_wp2_with (at_builtin; go_must (refine wpList_append_src _ rfl _ _ 24 rfl w.heap.size 3 i0 (.int .i64 0) 1 8 Try.underlying24 hi0 hz0 hz1 hz2 rfl (by decide) (.slice (some ⟨w.heap.size, 0, none⟩) 0 0) 0 [] rfl HO.out A n c (xs.map I64) rfl (by simp [Hx.out]) HC.out (oneCells_I64 xs) hb1 hb2 (by simp) ?_); intro u' w2 hO1 hG1 hB1; simp only [Nat.zero_add, List.nil_append] at hO1; obtain ⟨g, cp, rfl, hbg, hg⟩ := hO1.form (by omega); have q1 := hO1.cellAt i (by omega); have q2 := hO1.frozenAt i; have hle := own_le hO1; have hxe : (xs.map I64)[i]? = some (.int .i64 xs[i]) := (by rw [List.getElem?_map, List.getElem?_eq_getElem hxi]; rfl); rw [hxe] at q1; clear hxe; generalize xs[i] = y at *; have HO1 := Lib.hid hO1; have HG1 := Lib.hid hG1; clear hO1 hG1 hB1)
  have hst := HO1.out.stored i (I64 d)
  rw [← List.map_set] at hst
  obtain ⟨q, hq, hqx, hf⟩ := fresh_of_own hst.1 (by simp [Hx.out])
  refine hR.out _ _ ⟨q, congrArg Ending.returned hq, hqx, hf, ext_grown_from (ext_grown_from ((Ext.refl' w).alloc' _) HG1.out (fun k e => by simp [Value.ownBlock] at e; omega)) hst.2 (fun k e => by cases e; exact hbg)⟩
end Go.Proofs.Ytokfmfgnjhapiaa
