/- MutateTurns: whatever the sequence and the three knobs are, the law returns true, and its arguments read behind the call as they read before.
   Conditions: none but the row's own (what can be read as data). -/
import Derived.Test.YtokfmfgnjhapiaaMutTurns
import Derived.Test.YtokfmfgnjhapiaaLawInts
import Derived.Laws.IdiomArrays
namespace Go.Proofs.Ytokfmfgnjhapiaa
open Go.ChangeShapes Go.WideShapes Go.ChangeAt Go.RowKit Go.Joins
set_option linter.unusedVariables false

theorem cellsU8K : Try.prog.cellsOf 5 = 1 := by kernel_rfl
theorem cellsU83K : Try.prog.cellsOf 39 = 3 := by kernel_rfl

theorem u8_nat {n : Int} (h : (Lit.int .u8 n).wf = true) : ∃ x : Nat, n = x ∧ x ≤ 255 := by
  have := h
  simp [Lit.wf, IntKind.min, IntKind.max, IntKind.signed, IntKind.bits] at this
  exact ⟨n.toNat, by omega, by omega⟩

theorem turns_any (A : Option Addr) (xs : List Int) (c : Nat) (x0 x1 x2 : Nat) (W : World) (hA : IS W A xs) (hc : xs.length ≤ c) (hcm : c ≤ maxLen) (h0 : x0 ≤ 255) (h1 : x1 ≤ 255) (h2 : x2 ≤ 255) :
    Calls Try.prog 4 #[.slice A xs.length c, .agg #[.int .u8 x0, .int .u8 x1, .int .u8 x2]] W fun e W' => e = .returned (.bool true) ∧ Ext W W' := by
  by_cases h : xs.length ≤ 60
  · exact turns_short A xs _ c x0 x1 x2 W hA rfl h hc h0 h1 h2
  · exact turns_long A _ c x0 x1 x2 W (Nat.le_trans hc hcm) (by omega)

set_option maxRecDepth 100000 in
set_option maxHeartbeats 1000000 in
theorem mutateTurns_lifted (os : Os) (started : os.Started) (H : Type) (enc : TypeId × Value → H) :
    ReturnsInHanded {} Try.checked os 4 .any (Rows.mutateTurnsSpec.pre6 enc Try.prog Try.f4 Rows.mutateTurnsRow.domain false) (Rows.mutateTurnsSpec.post enc Try.prog Try.f4 false true false false) := by
  refine returnsInHanded_of_change (C := Try.checked) ownK started (by kernel_rfl) Try.func4
    (ChangeSpec.witness6 (enc := enc) (C := Try.checked) false ⟨#[], #[.slice none 0 0, .agg #[.int .u8 0, .int .u8 0, .int .u8 0]], []⟩ 8 (by kernel_rfl) (by kernel_rfl) (by kernel_rfl) (by kernel_rfl)) ?_
  intro W base args ds gs before hval0 hW _ _
  have hval : ∀ (j : Nat) t v, Try.f4.params[j]? = some t → args[j]? = some v → Value.okWide Try.prog W .any base t v := hval0
  have hW' := hW
  obtain ⟨p, q, hA0, hV, rfl, _, _⟩ := hW
  have hA : DataW.TrodAll enc Try.prog W 0 (fun _ => true) true Try.f4.params.toList args.toList ds p := hA0
  rw [Try.params4] at hA hval
  obtain ⟨v0, v1, d0, d1, p0, p1, rfl, rfl, rfl, h0, h1⟩ := trodAll_two hA
  obtain ⟨rfl, rfl⟩ := trodVars_none hV
  have hpost := fun (W' : World) (hb : Ext W W') => law_post (f := Try.f4) (s := Rows.mutateTurnsSpec) (fresh := true) hW' rfl hb (by kernel_rfl) (by rw [Try.params4]; intro t ht; simp at ht; rcases ht with rfl | rfl <;> exact ⟨by kernel_rfl, of_decide_eq_true (by kernel_rfl)⟩) rfl
  obtain ⟨a, l, k, rfl⟩ := okWide_slice Try.underlying24 (hval 0 _ v0 rfl rfl)
  obtain ⟨cs, rfl, hsz, _⟩ : ∃ cs, v1 = .agg cs ∧ cs.size = Try.prog.cellsOf 39 ∧ Row.okWide Try.prog W .any base 39 cs := by
    have := hval 1 _ v1 rfl rfl
    simpa [Value.okWide, Try.underlying39] using this
  obtain ⟨c0, c1, c2, rfl⟩ := array3 (hsz.trans cellsU83K)
  obtain ⟨fuel0, hf0⟩ := h0
  obtain ⟨fuel1, hf1⟩ := h1
  obtain ⟨A, xs, c, ha, hxs, hc, hcm, _⟩ := read_ints hf0
  simp only [Value.slice.injEq] at ha
  obtain ⟨hA1, hl1, hc1⟩ := ha
  subst hA1 hl1 hc1
  obtain ⟨y0, y1, y2, m, _, e0, e1, e2⟩ := trod_array3 Try.underlying39 cellsU8K hf1
  obtain ⟨m0, f0, _, w0⟩ := DataW.trod_int Try.underlying5 e0
  obtain ⟨m1, f1, _, w1⟩ := DataW.trod_int Try.underlying5 e1
  obtain ⟨m2, f2, _, w2⟩ := DataW.trod_int Try.underlying5 e2
  simp only [List.cons.injEq, and_true] at f0 f1 f2
  subst f0 f1 f2
  obtain ⟨x0, rfl, b0⟩ := u8_nat w0
  obtain ⟨x1, rfl, b1⟩ := u8_nat w1
  obtain ⟨x2, rfl, b2⟩ := u8_nat w2
  refine (turns_any _ xs _ x0 x1 x2 W hxs hc hcm b0 b1 b2).mono fun e W' ⟨he, hb⟩ => ?_
  subst he
  exact ⟨_, rfl, hpost W' hb⟩

theorem mutateTurns_holds : Rows.MutateTurnsSaid :=
  OpenClaim.holds_of_wide 4 Try.f4 rfl rfl rfl rfl rfl rfl rfl ⟨rfl, rfl, rfl, rfl, rfl⟩ rfl rfl rfl rfl rfl (by kernel_rfl) Try.func4 (by kernel_rfl)
    (of_decide_eq_true (by kernel_rfl)) (by unfold Func.isWrapper; first | (rw [if_pos (by decide +kernel)]; kernel_rfl) | (rw [if_neg (by decide +kernel)]; exact ⟨rfl, rfl⟩))
    (fun os started H enc _ => mutateTurns_lifted os started H enc)
#print axioms mutateTurns_holds
end Go.Proofs.Ytokfmfgnjhapiaa
