/- near.All's closure: all neighbours are told, each once, in order; over the yield of a range over a function. -/
import Derived.Test.YtokfmfgnjhapiaaNearEachIn
import Derived.Test.YtokfmfgnjhapiaaNearAll
namespace Go.Proofs.Ytokfmfgnjhapiaa
open Go.RowKit Go.Shelf
attribute [local go_sem] Oper.semAt_some
set_option linter.unusedVariables false
set_option linter.unusedSimpArgs false

theorem wideIn_call {P : Program} {f : FuncId} {args : Array Value} {w : World} {R K : Ending → World → Prop} {m m' : Nat} (h : CallsIn Fence.wide m' P f args w R) (hk : ∀ e w', R e w' → K e w') :
    Fence.wide.fn f ∧ (Fence.wide.depth.isSome = true → 1 ≤ m) ∧ CallsIn Fence.wide (m - 1) P f args w K := ⟨trivial, fun h => (by cases h), callsIn_wide.2 ((callsIn_wide.1 h).mono hk)⟩

set_option maxHeartbeats 1000000 in
theorem all_in (l m : Nat) (J : List (List Int) → (Nat → Prop) → World → Prop) (Jx : List (List Int) → World → Prop) (hJ : Steady J) (cb : Nat) (A : Option Addr) (xs : List Int) (n c : Nat)
    (hx : xs.length = n) (hc : n ≤ c) (hcm : c ≤ maxLen) (hr : ∀ x ∈ xs, -9223372036854775808 ≤ x ∧ x ≤ 9223372036854775807)
    (hJl : ∀ pre T W, J pre T W → W.cell? ⟨cb, 0, none⟩ = some (.slice A n c) ∧ IS W A xs)
    (hY : ∀ pre T W e, J pre T W → pre ++ [e.xs] <+: toldL xs → Fresh 0 W e → (∀ b, blk e = some b → T b) → (∀ b, T b → b < W.heap.size) → YieldAt Fence.wide m Try.prog l #[e.val] W (YPost J Jx pre T e W))
    (w : World) (h0 : J [] (fun _ => False) w) :
    CallsIn Fence.wide m Try.prog 33 #[.func (.yield l) #[] #[], .pointer (some ⟨cb, 0, none⟩)] w (APost J Jx (toldL xs)) := by
  refine of_postIn fun R hR => ?_
  obtain ⟨hcell, hIS⟩ := hJl _ _ _ h0
  have HM := Lib.hid (may_near A xs n c w hIS hx (Nat.le_trans hc hcm))
  have HJL := fun pre T W h => Lib.hid (hJl pre T W h)
  have HJ := Lib.hid hJ
  have H0 := Lib.hid h0
  have Hx := Lib.hid hx
  have Hr := Lib.hid hr
  have HEACH := fun r T v H p0 D w a b d e f g h => Lib.hid (each_in l m J Jx (toldL xs) hJ hY r T v H p0 D w a b d e f g h)
  clear hJl hJ h0 hx hr hIS hY
  cases hmay : mayL xs with
  | false =>
    have HT := Lib.hid (told_no hmay)
    rw [hmay] at HM
    clear hmay HEACH
    refine callsIn_of_wp Try.func33 rfl trivial ?_ rfl
    simp only [Try.ntmps33, List.size_toArray, List.length_cons, List.length_nil, Nat.reduceAdd, Nat.reduceSub, Array.replicate_succ, Array.replicate_zero, List.push_toArray, List.append_toArray, List.nil_append, List.cons_append]
    gi_wp2_with fail
    refine wide_call HM.out ?_
    rintro e w1 ⟨rfl, rfl⟩
    gi_wp2_with fail
    refine bodyPost_ret (results_none rfl _ _ _) rfl ?_
    exact hR.out _ _ ⟨⟨_, rfl⟩, .inl ⟨fun _ => False, by rw [HT.out]; exact H0.out, fun _ h => h.elim⟩⟩
  | true =>
    have hn : n ≤ 128 := by rw [← Hx.out]; exact may_len hmay
    rw [hmay] at HM
    have HMY := Lib.hid hmay
    clear hmay
    refine callsIn_of_wp Try.func33 rfl trivial ?_ rfl
    simp only [Try.ntmps33, List.size_toArray, List.length_cons, List.length_nil, Nat.reduceAdd, Nat.reduceSub, Array.replicate_succ, Array.replicate_zero, List.push_toArray, List.append_toArray, List.nil_append, List.cons_append]
    gi_wp2_with fail
    refine wide_call HM.out ?_
    rintro e w1 ⟨rfl, rfl⟩
    gi_wp2_with fail
    gi_loopw [3] (fun mv wr => ∃ (k : Nat) (T : Nat → Prop), mv = .int .i64 k ∧ k ≤ n ∧ Hid (J (phases xs k) T wr ∧ ∀ b, T b → b < wr.heap.size)) (fun mv _ => (intOf mv).toNat)
    case atStart => exact ⟨n, fun _ => False, rfl, Nat.le_refl _, Lib.hid ⟨by rw [← Hx.out, phases_top]; exact H0.out, fun _ h => h.elim⟩⟩
    case round =>
      obtain ⟨k, T, rfl, hk, HS⟩ := hrel
      have hcl := (HJL _ _ _ HS.out.1).out.1
      have HB0 := Lib.hid (Built.nil wr)
      have HISr := Lib.hid (HJL _ _ _ HS.out.1).out.2
      have hcl2 := ((Ext.refl' wr).alloc' (.cells #[.slice none 0 0] 63)).cell' hcl
      by_cases hk0 : k = 0
      · subst hk0
        have HCH := Lib.hid (changes_near A xs n c _ _ _ _ wr _ HB0.out HISr.out Hx.out (by omega) Hr.out (by simp))
        gi_wp2_with fail
        refine wide_call HCH.out ?_
        rintro e w2 ⟨⟨u2, rfl⟩, v2, H2, hb2⟩
        have hb3 : Built wr w2 wr.heap.size v2 H2 (changesL xs) := by unfold changesL; rw [Hx.out]; simpa using hb2
        have HE := HEACH wr.heap.size _ v2 H2 (phases xs 0) (setOf (changesL xs)) w2 (hb3.held HS.out.2) (rising_setOf _) hb3.inv (by rw [told_yes HMY.out]; exact List.prefix_rfl) (HJ.out.built hb3 HS.out.1)
          (by rw [hb3.few]; have := changesL_few xs; rw [Hx.out] at this; omega) (fun y hy => by rw [changesL_length (mem_setOf.1 hy), Hx.out]; omega)
        rw [← told_yes HMY.out] at HE
        clear hb2 hb3 hcl hcl2
        gi_wp2_with fail
        refine wideIn_call HE.out ?_
        rintro e w3 (⟨rfl, T', hj⟩ | ⟨rfl, pre, hj⟩)
        · have HP : Hid (APost J Jx (toldL xs) (.returned (.tuple #[])) w3) := Lib.hid ⟨⟨_, rfl⟩, .inl ⟨T', hj⟩⟩
          clear hj
          gi_wp2_with fail
          go_end0
          exact hR.out _ _ ⟨⟨_, rfl⟩, HP.out.2⟩
        · have HP : Hid (APost J Jx (toldL xs) (.returned (.tuple #[])) w3) := Lib.hid ⟨⟨_, rfl⟩, .inr ⟨pre, hj⟩⟩
          clear hj
          gi_wp2_with fail
          go_end0
          exact hR.out _ _ ⟨⟨_, rfl⟩, HP.out.2⟩
      · have hkp : (0 : Int) < k := by omega
        have HSP := Lib.hid (spans_near A xs n c k _ _ _ _ wr _ HB0.out HISr.out Hx.out (by omega) hc hcm hk (by simp))
        gi_wp2_with fail
        refine wide_call HSP.out ?_
        rintro e w2 ⟨⟨u2, rfl⟩, v2, H2, hb2⟩
        have hb3 : Built wr w2 wr.heap.size v2 H2 (spansL xs k) := by unfold spansL; rw [Hx.out]; simpa using hb2
        have hst : phases xs k ++ setOf (spansL xs k) = phases xs (k - 1) := by
          have := phases_step xs (k := k - 1) (by rw [Hx.out]; omega)
          rw [show k - 1 + 1 = k by omega] at this
          exact this.symm
        have HE := HEACH wr.heap.size _ v2 H2 (phases xs k) (setOf (spansL xs k)) w2 (hb3.held HS.out.2) (rising_setOf _) hb3.inv (by rw [hst]; exact phases_told HMY.out _) (HJ.out.built hb3 HS.out.1)
          (by rw [hb3.few]; unfold spansL; simp; rw [Hx.out]; omega) (fun y hy => by rw [spansL_length (by rw [Hx.out]; exact hk) (mem_setOf.1 hy), Hx.out]; omega)
        rw [hst] at HE
        clear hb2 hb3 hcl hcl2 hst
        gi_wp2_with fail
        refine wideIn_call HE.out ?_
        rintro e w3 (⟨rfl, T', hj⟩ | ⟨rfl, pre, hj⟩)
        · have HN : Hid (J (phases xs (k - 1)) T' w3 ∧ ∀ b, T' b → b < w3.heap.size) := Lib.hid hj
          clear hj
          have hk1 : (k : Int) - 1 = ((k - 1 : Nat) : Int) := by omega
          gi_wp2_with fail
          go_roundw
          case rel => exact ⟨k - 1, T', by go_num, by omega, HN⟩
          case measure => simp [intOf]; omega
        · have HP : Hid (APost J Jx (toldL xs) (.returned (.tuple #[])) w3) := Lib.hid ⟨⟨_, rfl⟩, .inr ⟨pre, hj⟩⟩
          clear hj
          gi_wp2_with fail
          refine bodyPost_ret (results_none rfl _ _ _) rfl ?_
          exact hR.out _ _ ⟨⟨_, rfl⟩, HP.out.2⟩
end Go.Proofs.Ytokfmfgnjhapiaa
