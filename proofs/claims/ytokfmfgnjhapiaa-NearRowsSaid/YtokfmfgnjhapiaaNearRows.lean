/- NearRows: from neighbour to neighbour each is ahead of the one that is left; no numbers at all, and they alone, have none: the law returns true, and its arguments read behind the call as they read before.
   Conditions: none but the row's own (what can be read as data). -/
import Derived.Test.YtokfmfgnjhapiaaNearRowsLaw
import Derived.Test.YtokfmfgnjhapiaaLawBytes
import Derived.Carry
namespace Go.Proofs.Ytokfmfgnjhapiaa
open Go.ChangeShapes Go.WideShapes Go.ChangeAt Go.RowKit Go.Joins
set_option linter.unusedVariables false
set_option linter.unusedSimpArgs false

set_option maxRecDepth 100000 in
set_option maxHeartbeats 1000000 in
theorem nearRows_lifted (os : Os) (started : os.Started) (H : Type) (enc : TypeId × Value → H) :
    ReturnsInHanded {} Try.checked os 10 .any (Rows.nearRowsSpec.pre6 enc Try.prog Try.f10 Rows.nearRowsRow.domain false) (Rows.nearRowsSpec.post enc Try.prog Try.f10 false true false false) := by
  refine returnsInHanded_of_change (C := Try.checked) ownK started (by kernel_rfl) Try.func10
    (ChangeSpec.witness6 (enc := enc) (C := Try.checked) false ⟨#[], #[.slice none 0 0, .slice none 0 0], []⟩ 8 (by kernel_rfl) (by kernel_rfl) (by kernel_rfl) (by kernel_rfl)) ?_
  intro W base args ds gs before hval0 hW _ _
  have hval : ∀ (j : Nat) t v, Try.f10.params[j]? = some t → args[j]? = some v → Value.okWide Try.prog W .any base t v := hval0
  have hW' := hW
  obtain ⟨p, q, hA0, hV, rfl, _, _⟩ := hW
  have hA : DataW.TrodAll enc Try.prog W 0 (fun _ => true) true Try.f10.params.toList args.toList ds p := hA0
  rw [Try.params10] at hA hval
  obtain ⟨v0, v1, d0, d1, p0, p1, rfl, rfl, rfl, h0, h1⟩ := trodAll_two hA
  obtain ⟨rfl, rfl⟩ := trodVars_none hV
  have hpost := fun (W' : World) (hb : Ext W W') => law_post (f := Try.f10) (s := Rows.nearRowsSpec) (fresh := true) hW' rfl hb (by kernel_rfl) (by rw [Try.params10]; intro t ht; simp at ht; rcases ht with rfl | rfl <;> exact ⟨by kernel_rfl, of_decide_eq_true (by kernel_rfl)⟩) rfl
  obtain ⟨a0, l0, k0, rfl⟩ := okWide_slice Try.underlying24 (hval 0 _ v0 rfl rfl)
  obtain ⟨a1, l1, k1, rfl⟩ := okWide_slice Try.underlying52 (hval 1 _ v1 rfl rfl)
  obtain ⟨fuel0, hf0⟩ := h0
  obtain ⟨A0, xs0, c0, ha0, hxs0, hc0, hcm0, hw0⟩ := read_ints hf0
  simp only [Value.slice.injEq] at ha0
  obtain ⟨hA0, hl0, hc0'⟩ := ha0
  subst hA0 hl0 hc0'
  obtain ⟨fuel1, hf1⟩ := h1
  obtain ⟨A1, ps1, c1, ha1, hxs1, hc1, hcm1, hw1⟩ := read_bytes hf1
  simp only [Value.slice.injEq] at ha1
  obtain ⟨hA1, hl1, hc1'⟩ := ha1
  subst hA1 hl1 hc1'
  refine (near_rows _ xs0 _ _ ps1 _ W hxs0 hc0 hcm0 (fun n hn => i64_range (hw0 n hn)) hxs1 hc1 hcm1 hw1).mono fun e W' ⟨he, hb⟩ => ?_
  subst he
  exact ⟨_, rfl, hpost W' hb⟩

theorem nearRows_holds : Rows.NearRowsSaid :=
  OpenClaim.holds_of_wide 10 Try.f10 rfl rfl rfl rfl rfl rfl rfl ⟨rfl, rfl, rfl, rfl, rfl⟩ rfl rfl rfl rfl rfl (by kernel_rfl) Try.func10 (by kernel_rfl)
    (of_decide_eq_true (by kernel_rfl)) (by unfold Func.isWrapper; first | (rw [if_pos (by decide +kernel)]; kernel_rfl) | (rw [if_neg (by decide +kernel)]; exact ⟨rfl, rfl⟩))
    (fun os started H enc _ => nearRows_lifted os started H enc)
#print axioms nearRows_holds
end Go.Proofs.Ytokfmfgnjhapiaa
