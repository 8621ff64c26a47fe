/- NearLess: each neighbour of as many numbers as may have some is ahead of them, and rises from the one told ahead; it is the caller alone who holds it: the law returns true, and its arguments read behind the call as they read before.
   Conditions: none but the row's own (what can be read as data). -/
import Derived.Test.YtokfmfgnjhapiaaNearLessLaw
import Derived.Test.YtokfmfgnjhapiaaLawInts
import Derived.Carry
namespace Go.Proofs.Ytokfmfgnjhapiaa
open Go.ChangeShapes Go.WideShapes Go.ChangeAt Go.RowKit Go.Joins
set_option linter.unusedVariables false
set_option linter.unusedSimpArgs false

theorem u8_nearLess {n : Int} (h : (Lit.int .u8 n).wf = true) : ∃ x : Nat, n = x ∧ x ≤ 255 := by
  have := h
  simp [Lit.wf, IntKind.min, IntKind.max, IntKind.signed, IntKind.bits] at this
  exact ⟨n.toNat, by omega, by omega⟩

set_option maxRecDepth 100000 in
set_option maxHeartbeats 1000000 in
theorem nearLess_lifted (os : Os) (started : os.Started) (H : Type) (enc : TypeId × Value → H) :
    ReturnsInHanded {} Try.checked os 7 .any (Rows.nearLessSpec.pre6 enc Try.prog Try.f7 Rows.nearLessRow.domain false) (Rows.nearLessSpec.post enc Try.prog Try.f7 false true false false) := by
  refine returnsInHanded_of_change (C := Try.checked) ownK started (by kernel_rfl) Try.func7
    (ChangeSpec.witness6 (enc := enc) (C := Try.checked) false ⟨#[], #[.slice none 0 0, .int .u8 0], []⟩ 8 (by kernel_rfl) (by kernel_rfl) (by kernel_rfl) (by kernel_rfl)) ?_
  intro W base args ds gs before hval0 hW _ _
  have hval : ∀ (j : Nat) t v, Try.f7.params[j]? = some t → args[j]? = some v → Value.okWide Try.prog W .any base t v := hval0
  have hW' := hW
  obtain ⟨p, q, hA0, hV, rfl, _, _⟩ := hW
  have hA : DataW.TrodAll enc Try.prog W 0 (fun _ => true) true Try.f7.params.toList args.toList ds p := hA0
  rw [Try.params7] at hA hval
  obtain ⟨v0, v1, d0, d1, p0, p1, rfl, rfl, rfl, h0, h1⟩ := trodAll_two hA
  obtain ⟨rfl, rfl⟩ := trodVars_none hV
  have hpost := fun (W' : World) (hb : Ext W W') => law_post (f := Try.f7) (s := Rows.nearLessSpec) (fresh := true) hW' rfl hb (by kernel_rfl) (by rw [Try.params7]; intro t ht; simp at ht; rcases ht with rfl | rfl <;> exact ⟨by kernel_rfl, of_decide_eq_true (by kernel_rfl)⟩) rfl
  obtain ⟨a0, l0, k0, rfl⟩ := okWide_slice Try.underlying24 (hval 0 _ v0 rfl rfl)
  obtain ⟨k1, rfl⟩ := okWide_int Try.underlying5 (hval 1 _ v1 rfl rfl)
  obtain ⟨fuel0, hf0⟩ := h0
  obtain ⟨A0, xs0, c0, ha0, hxs0, hc0, hcm0, hw0⟩ := read_ints hf0
  simp only [Value.slice.injEq] at ha0
  obtain ⟨hA0, hl0, hc0'⟩ := ha0
  subst hA0 hl0 hc0'
  obtain ⟨fuel1, hf1⟩ := h1
  obtain ⟨m1, f1, _, w1⟩ := DataW.trod_int Try.underlying5 hf1
  simp only [Value.cells, List.cons.injEq, and_true] at f1
  obtain ⟨x1, rfl, hx1⟩ := u8_nearLess w1
  rw [f1]
  refine (near_less _ xs0 _ x1 W hxs0 hc0 hcm0 (fun n hn => i64_range (hw0 n hn)) hx1).mono fun e W' ⟨he, hb⟩ => ?_
  subst he
  rw [← f1]
  exact ⟨_, rfl, hpost W' hb⟩

theorem nearLess_holds : Rows.NearLessSaid :=
  OpenClaim.holds_of_wide 7 Try.f7 rfl rfl rfl rfl rfl rfl rfl ⟨rfl, rfl, rfl, rfl, rfl⟩ rfl rfl rfl rfl rfl (by kernel_rfl) Try.func7 (by kernel_rfl)
    (of_decide_eq_true (by kernel_rfl)) (by unfold Func.isWrapper; first | (rw [if_pos (by decide +kernel)]; kernel_rfl) | (rw [if_neg (by decide +kernel)]; exact ⟨rfl, rfl⟩))
    (fun os started H enc _ => nearLess_lifted os started H enc)
#print axioms nearLess_holds
end Go.Proofs.Ytokfmfgnjhapiaa
