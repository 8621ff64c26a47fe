/- MutateTexts: the tied card. -/
import Derived.Test.YtaigmkpeaenpmaaDoorMutTexts
import Derived.Test.YtaigmkpeaenpmaaDoorLawRow
import Derived.Test.YtaigmkpeaenpmaaDoorTie
import Derived.Test.YtaigmkpeaenpmaaDoorCards
import Derived.ProofKit
import Derived.OpenShut
import Derived.LaidMore
import Derived.Lay
import Derived.SevenTiedAt
import Derived.Stop.Joined
import Derived.Lib.LaidTab
import Derived.Stop.LaidErr
namespace Go.Proofs.YtaigmkpeaenpmaaDoor
set_option maxRecDepth 100000
open Go.ChangeShapes Go.WideShapes Go.ChangeAt Go.RowKit Go.Joins
set_option linter.unusedVariables false
set_option linter.unusedSimpArgs false

theorem wf_i64 {n : Int} (h : (Lit.int .i64 n).wf = true) : -9223372036854775808 ≤ n ∧ n ≤ 9223372036854775807 := by
  simp only [Lit.wf, IntKind.min, IntKind.max, IntKind.signed, IntKind.bits, Bool.and_eq_true, decide_eq_true_eq, if_true] at h
  omega
theorem cellsMK : Tryd.prog.cellsOf 23 = 4 := by kernel_rfl
theorem powData : (Rows.laid_internal_strconv_uint64pow10 : DataW Unit) = Lib.tabData .u64 Lib.pow10Tab := by kernel_rfl
theorem pow_of_laid {W : World} (h : laidMetH Tryd.prog Rows.mutateTextsRow.laid W) : Pow W := by
  rw [MakeChecks.laidMetH_plain _ _ _ (by kernel_rfl)] at h
  have h2 := (show laidMet Tryd.prog (_ :: _ :: ("internal/strconv.uint64pow10", Rows.laid_internal_strconv_uint64pow10) :: _) W from h).tail.tail
  rw [powData] at h2
  exact Lib.tabIs_of_head (n := 20) gPow (t := 110) (e := 91) (by kernel_rfl) (by kernel_rfl) (by kernel_rfl) (by kernel_rfl) (by kernel_rfl) h2

theorem mutateTexts_lifted (os : Os) (started : os.Started) (H : Type) (enc : TypeId × Value → H) :
    ReturnsInHanded {} Tryd.checked os 3 .any (fun w args => (Rows.mutateTextsSpec.pre enc Tryd.prog Tryd.f3 Rows.mutateTextsRow.domain false w args ∧ laidMetH Tryd.prog Rows.mutateTextsRow.laid w) ∧ sizedMet enc Tryd.prog Tryd.f3 (OpenSpec.ofChange Rows.mutateTextsSpec) false w args)
      (Rows.mutateTextsSpec.post enc Tryd.prog Tryd.f3 false true false false) := by
  refine returnsInHanded_of_change_and (C := Tryd.checked) (X := fun w _ => laidMetH Tryd.prog Rows.mutateTextsRow.laid w) (fun _ _ _ hh h => h.of_heap hh) ownK started (by kernel_rfl) Tryd.func3
    (ChangeSpec.witness_shaped (enc := enc) (C := Tryd.checked) (os := os) (X := fun w _ => laidMetH Tryd.prog Rows.mutateTextsRow.laid w) false (World.laidAll Tryd.prog os Rows.mutateTextsRow.laid) #[.agg #[.int .i64 0, .int .i64 0, .int .i64 0, .int .i64 0]] 8 (World.laidAll_os _ _ _)
      (World.shaped_of_ZipB (by kernel_rfl) (by kernel_rfl)) (by kernel_rfl) (by kernel_rfl) (by kernel_rfl)
      (by rw [MakeChecks.laidMetH_plain _ _ _ (by kernel_rfl)]; exact laidMet_laidAll _ (by kernel_rfl) (by kernel_rfl))) ?_
  intro W base args ds gs before hval0 hW hc _ hL _
  have hval : ∀ (j : Nat) t v, Tryd.f3.params[j]? = some t → args[j]? = some v → Value.okWide Tryd.prog W .any base t v := hval0
  have hW' := hW
  obtain ⟨p, q, hA0, hV, rfl, _, _⟩ := hW
  have hA : DataW.TrodAll enc Tryd.prog W 0 (fun _ => true) true Tryd.f3.params.toList args.toList ds p := hA0
  rw [Tryd.params3] at hA hval
  obtain ⟨v0, d0, rfl, rfl, h0⟩ := trodAll_one hA
  obtain ⟨rfl, rfl⟩ := trodVars_none hV
  have hpost := fun (W' : World) (hb : Ext W W') => law_post (f := Tryd.f3) (s := Rows.mutateTextsSpec) (fresh := true) hW' rfl hb (by kernel_rfl) (by rw [Tryd.params3]; intro t ht; simp at ht; subst ht; exact ⟨by kernel_rfl, of_decide_eq_true (by kernel_rfl)⟩) rfl
  obtain ⟨c0, c1, c2, c3, y0, y1, y2, y3, n, rfl, rfl, rfl, e0, e1, e2, e3⟩ := open_agg4 Tryd.underlying23 (by kernel_rfl) cellsMK (hval 0 _ v0 rfl rfl) h0
  obtain ⟨m0, f0, _, b0⟩ := DataW.trod_int Tryd.underlying3 e0
  obtain ⟨m1, f1, _, b1⟩ := DataW.trod_int Tryd.underlying3 e1
  obtain ⟨m2, f2, _, b2⟩ := DataW.trod_int Tryd.underlying3 e2
  obtain ⟨m3, f3, _, b3⟩ := DataW.trod_int Tryd.underlying3 e3
  simp only [List.cons.injEq, and_true] at f0 f1 f2 f3
  subst f0 f1 f2 f3
  refine (texts_any m0 m1 m2 m3 W ?_ (pow_of_laid hL)).mono fun e W' ⟨he, hb⟩ => ?_
  · intro m hm
    simp only [List.mem_cons, List.mem_nil_iff, or_false] at hm
    rcases hm with rfl | rfl | rfl
    · exact wf_i64 b1
    · exact wf_i64 b2
    · exact wf_i64 b3
  · subst he
    exact ⟨_, rfl, hpost W' hb⟩

theorem mutateTexts_holds : Rows.MutateTextsSaid :=
  OpenClaim.holds_of_wide 3 Tryd.f3 rfl rfl rfl rfl rfl rfl rfl ⟨rfl, rfl, rfl, rfl, rfl⟩ rfl rfl rfl rfl rfl (by kernel_rfl) Tryd.func3 (by kernel_rfl)
    (of_decide_eq_true (by kernel_rfl)) (by unfold Func.isWrapper; first | (rw [if_pos (by decide +kernel)]; kernel_rfl) | (rw [if_neg (by decide +kernel)]; exact ⟨rfl, rfl⟩))
    (fun os started H enc _ => mutateTexts_lifted os started H enc)
theorem mutateTexts_card : Rows.MutateTextsCardSaid :=
  Claim7.holds_tied_plain_at .later [] [.data, .data, .data, .data, .sentinel, .sentinel, .pinned] true (true, "91086aa497f7e31433fbcf7b77c08744dea0d47ab51b439b9bafd2f3c3399910") true
    mutateTexts_holds (fun _ h => by cases h) (by kernel_rfl) (fun _ h => by cases h) mutateTexts_row_tie rfl ⟨rfl, rfl⟩ (by kernel_rfl) rfl
    (fun f fn hf hfn => by
      obtain rfl : f = 3 := Option.some.inj ((show Tryd.prog.funcNamed "cheval/chevallaw23.MutateTexts" = some 3 by kernel_rfl).symm.trans hf) |>.symm
      obtain rfl : fn = Tryd.f3 := (Option.some.inj (Tryd.func3.symm.trans hfn)).symm
      exact ⟨by kernel_rfl, fun j t ht => by
        rw [Tryd.params3] at ht
        have hm : t ∈ [23] := by simpa using Array.mem_of_getElem? ht
        have hall : ([23].all fun u => !Tryd.prog.wantsStandIn u) = true := by kernel_rfl
        exact (show Tryd.prog.wantsStandIn t = false by simpa using List.all_eq_true.1 hall t hm)⟩)
    (by kernel_rfl)
#print axioms mutateTexts_card
end Go.Proofs.YtaigmkpeaenpmaaDoor
