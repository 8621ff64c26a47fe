/- NearOnce: zeros have as many neighbours as there are of them, ones twice as many: the law returns true, and its arguments read behind the call as they read before.
   Conditions: none but the row's own (what can be read as data). -/
import Derived.Test.YtokfmfgnjhapiaaNearOnceWalk
import Derived.Test.YtokfmfgnjhapiaaLawInts
namespace Go.Proofs.Ytokfmfgnjhapiaa
open Go.ChangeShapes Go.WideShapes Go.ChangeAt Go.RowKit Go.Joins
set_option linter.unusedVariables false

theorem u8_nat' {n : Int} (h : (Lit.int .u8 n).wf = true) : ∃ x : Nat, n = x ∧ x ≤ 255 := by
  have := h
  simp [Lit.wf, IntKind.min, IntKind.max, IntKind.signed, IntKind.bits] at this
  exact ⟨n.toNat, by omega, by omega⟩

set_option maxRecDepth 100000 in
set_option maxHeartbeats 1000000 in
theorem nearOnce_lifted (os : Os) (started : os.Started) (H : Type) (enc : TypeId × Value → H) :
    ReturnsInHanded {} Try.checked os 8 .any (Rows.nearOnceSpec.pre6 enc Try.prog Try.f8 Rows.nearOnceRow.domain false) (Rows.nearOnceSpec.post enc Try.prog Try.f8 false true false false) := by
  refine returnsInHanded_of_change (C := Try.checked) ownK started (by kernel_rfl) Try.func8
    (ChangeSpec.witness6 (enc := enc) (C := Try.checked) false ⟨#[], #[.int .u8 0], []⟩ 8 (by kernel_rfl) (by kernel_rfl) (by kernel_rfl) (by kernel_rfl)) ?_
  intro W base args ds gs before hval0 hW _ _
  have hval : ∀ (j : Nat) t v, Try.f8.params[j]? = some t → args[j]? = some v → Value.okWide Try.prog W .any base t v := hval0
  have hW' := hW
  obtain ⟨p, q, hA0, hV, rfl, _, _⟩ := hW
  have hA : DataW.TrodAll enc Try.prog W 0 (fun _ => true) true Try.f8.params.toList args.toList ds p := hA0
  rw [Try.params8] at hA hval
  obtain ⟨v0, d0, rfl, rfl, h0⟩ := trodAll_one hA
  obtain ⟨rfl, rfl⟩ := trodVars_none hV
  have hpost := fun (W' : World) (hb : Ext W W') => law_post (f := Try.f8) (s := Rows.nearOnceSpec) (fresh := true) hW' rfl hb (by kernel_rfl) (by rw [Try.params8]; intro t ht; simp at ht; subst ht; exact ⟨by kernel_rfl, of_decide_eq_true (by kernel_rfl)⟩) rfl
  obtain ⟨k0, rfl⟩ := okWide_int Try.underlying5 (hval 0 _ v0 rfl rfl)
  obtain ⟨fuel0, hf0⟩ := h0
  obtain ⟨m0, f0, _, w0⟩ := DataW.trod_int Try.underlying5 hf0
  simp only [Value.cells, List.cons.injEq, and_true] at f0
  obtain ⟨x, rfl, hx⟩ := u8_nat' w0
  rw [f0]
  refine (near_once x W hx).mono fun e W' ⟨he, hb⟩ => ?_
  subst he
  rw [← f0]
  exact ⟨_, rfl, hpost W' hb⟩

theorem nearOnce_holds : Rows.NearOnceSaid :=
  OpenClaim.holds_of_wide 8 Try.f8 rfl rfl rfl rfl rfl rfl rfl ⟨rfl, rfl, rfl, rfl, rfl⟩ rfl rfl rfl rfl rfl (by kernel_rfl) Try.func8 (by kernel_rfl)
    (of_decide_eq_true (by kernel_rfl)) (by unfold Func.isWrapper; first | (rw [if_pos (by decide +kernel)]; kernel_rfl) | (rw [if_neg (by decide +kernel)]; exact ⟨rfl, rfl⟩))
    (fun os started H enc _ => nearOnce_lifted os started H enc)
#print axioms nearOnce_holds
end Go.Proofs.Ytokfmfgnjhapiaa
