/- MutateDoes: whatever the mutation and the two sequences are, the law returns true, and its arguments read behind the call as they read before.
   Conditions: none but the row's own (what can be read as data). -/
import Derived.Test.YtokfmfgnjhapiaaMutLaw
import Derived.Test.YtokfmfgnjhapiaaLawInts
namespace Go.Proofs.Ytokfmfgnjhapiaa
open Go.ChangeShapes Go.WideShapes Go.ChangeAt Go.RowKit Go.Joins
set_option linter.unusedVariables false

theorem cellsMK : Try.prog.cellsOf 23 = 4 := by kernel_rfl
theorem cellsTwoK : Try.prog.cellsOf 26 = 2 := by kernel_rfl

theorem does_any (m0 m1 m2 m3 : Int) (A B : Option Addr) (xs ys : List Int) (c d : Nat) (W : World) (hA : IS W A xs) (hB : IS W B ys) (hc : xs.length ≤ c) (hd : ys.length ≤ d) (hcm : c ≤ maxLen) (hdm : d ≤ maxLen) :
    Calls Try.prog 3 #[.agg #[.int .i64 m0, .int .i64 m1, .int .i64 m2, .int .i64 m3], .agg #[.slice A xs.length c, .slice B ys.length d]] W fun e W' => e = .returned (.bool true) ∧ Ext W W' := by
  by_cases h : xs.length ≤ 60 ∧ ys.length ≤ 60
  · exact does_short m0 m1 m2 m3 A B xs ys _ c _ d W hA hB rfl rfl h.1 h.2 hc hd
  · exact does_long m0 m1 m2 m3 A B _ c _ d W (Nat.le_trans hc hcm) (Nat.le_trans hd hdm) h

set_option maxRecDepth 100000 in
theorem mutateDoes_lifted (os : Os) (started : os.Started) (H : Type) (enc : TypeId × Value → H) :
    ReturnsInHanded {} Try.checked os 3 .any (Rows.mutateDoesSpec.pre6 enc Try.prog Try.f3 Rows.mutateDoesRow.domain false) (Rows.mutateDoesSpec.post enc Try.prog Try.f3 false true false false) := by
  refine returnsInHanded_of_change (C := Try.checked) ownK started (by kernel_rfl) Try.func3
    (ChangeSpec.witness6 (enc := enc) (C := Try.checked) false ⟨#[], #[.agg #[.int .i64 0, .int .i64 0, .int .i64 0, .int .i64 0], .agg #[.slice none 0 0, .slice none 0 0]], []⟩ 8 (by kernel_rfl) (by kernel_rfl) (by kernel_rfl) (by kernel_rfl)) ?_
  intro W base args ds gs before hval0 hW _ _
  have hval : ∀ (j : Nat) t v, Try.f3.params[j]? = some t → args[j]? = some v → Value.okWide Try.prog W .any base t v := hval0
  have hW' := hW
  obtain ⟨p, q, hA0, hV, rfl, _, _⟩ := hW
  have hA : DataW.TrodAll enc Try.prog W 0 (fun _ => true) true Try.f3.params.toList args.toList ds p := hA0
  rw [Try.params3] at hA hval
  obtain ⟨v0, v1, d0, d1, p0, p1, rfl, rfl, rfl, h0, h1⟩ := trodAll_two hA
  obtain ⟨rfl, rfl⟩ := trodVars_none hV
  have hpost := fun (W' : World) (hb : Ext W W') => law_post (f := Try.f3) (s := Rows.mutateDoesSpec) (fresh := true) hW' rfl hb (by kernel_rfl) (by rw [Try.params3]; intro t ht; simp at ht; rcases ht with rfl | rfl <;> exact ⟨by kernel_rfl, of_decide_eq_true (by kernel_rfl)⟩) rfl
  obtain ⟨c0, c1, c2, c3, y0, y1, y2, y3, n, rfl, rfl, rfl, e0, e1, e2, e3⟩ := open_agg4 Try.underlying23 (by kernel_rfl) cellsMK (hval 0 _ v0 rfl rfl) h0
  obtain ⟨m0, f0, _, _⟩ := DataW.trod_int Try.underlying3 e0
  obtain ⟨m1, f1, _, _⟩ := DataW.trod_int Try.underlying3 e1
  obtain ⟨m2, f2, _, _⟩ := DataW.trod_int Try.underlying3 e2
  obtain ⟨m3, f3, _, _⟩ := DataW.trod_int Try.underlying3 e3
  simp only [List.cons.injEq, and_true] at f0 f1 f2 f3
  subst f0 f1 f2 f3
  obtain ⟨b0, b1, z0, z1, n', rfl, rfl, rfl, g0, g1⟩ := open_agg2 Try.underlying26 (by kernel_rfl) cellsTwoK (hval 1 _ v1 rfl rfl) h1
  obtain ⟨A, xs, c, rfl, hxs, hc, hcm, _⟩ := read_ints g0
  obtain ⟨B, ys, d, rfl, hys, hd, hdm, _⟩ := read_ints g1
  refine (does_any m0 m1 m2 m3 A B xs ys c d W hxs hys hc hd hcm hdm).mono fun e W' ⟨he, hb⟩ => ?_
  subst he
  exact ⟨_, rfl, hpost W' hb⟩

theorem mutateDoes_holds : Rows.MutateDoesSaid :=
  OpenClaim.holds_of_wide 3 Try.f3 rfl rfl rfl rfl rfl rfl rfl ⟨rfl, rfl, rfl, rfl, rfl⟩ rfl rfl rfl rfl rfl (by kernel_rfl) Try.func3 (by kernel_rfl)
    (of_decide_eq_true (by kernel_rfl)) (by unfold Func.isWrapper; first | (rw [if_pos (by decide +kernel)]; kernel_rfl) | (rw [if_neg (by decide +kernel)]; exact ⟨rfl, rfl⟩))
    (fun os started H enc _ => mutateDoes_lifted os started H enc)
#print axioms mutateDoes_holds
end Go.Proofs.Ytokfmfgnjhapiaa
