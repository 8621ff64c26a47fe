/- near.All's closure: all neighbours are told, each once, in order; over a plain closure. -/
import Derived.Test.YtokfmfgnjhapiaaNearEach
import Derived.Test.YtokfmfgnjhapiaaToldLaw
namespace Go.Proofs.Ytokfmfgnjhapiaa
open Go.RowKit
set_option linter.unusedVariables false
set_option linter.unusedSimpArgs false

/-- What All's closure leaves. -/
def APost (J : List (List Int) → (Nat → Prop) → World → Prop) (Jx : List (List Int) → World → Prop) (ALL : List (List Int)) (e : Ending) (W' : World) : Prop :=
  (∃ u, e = .returned u) ∧ ((∃ T', J ALL T' W' ∧ ∀ b, T' b → b < W'.heap.size) ∨ (∃ pre, pre <+: ALL ∧ Jx pre W'))

theorem told_no {xs : List Int} (h : mayL xs = false) : toldL xs = [] := by simp [toldL, h]
theorem told_yes {xs : List Int} (h : mayL xs = true) : toldL xs = phases xs 0 ++ setOf (changesL xs) := by simp [toldL, h]
theorem phases_told {xs : List Int} (h : mayL xs = true) (k : Nat) : phases xs k <+: toldL xs := by
  rw [told_yes h]; exact (phases_prefix xs (Nat.zero_le k)).trans (List.prefix_append _ _)
theorem may_len {xs : List Int} (h : mayL xs = true) : xs.length ≤ 128 := by
  unfold mayL at h
  simp only [Bool.and_eq_true, decide_eq_true_eq] at h
  exact h.1

set_option maxHeartbeats 1000000 in
theorem all_any (fy : FuncId) (lb : Array Value) (J : List (List Int) → (Nat → Prop) → World → Prop) (Jx : List (List Int) → World → Prop) (hJ : Steady J) (hent : Enters Try.prog fy) (cb : Nat) (A : Option Addr) (xs : List Int) (n c : Nat)
    (hx : xs.length = n) (hc : n ≤ c) (hcm : c ≤ maxLen) (hr : ∀ x ∈ xs, -9223372036854775808 ≤ x ∧ x ≤ 9223372036854775807)
    (hJl : ∀ pre T W, J pre T W → W.cell? ⟨cb, 0, none⟩ = some (.slice A n c) ∧ IS W A xs)
    (hY : ∀ pre T W e, J pre T W → pre ++ [e.xs] <+: toldL xs → Fresh 0 W e → (∀ b, blk e = some b → T b) → (∀ b, T b → b < W.heap.size) → Calls Try.prog fy (#[e.val] ++ lb) W (YPost J Jx pre T e W))
    (w : World) (h0 : J [] (fun _ => False) w) :
    Calls Try.prog 33 #[.func (.func fy) #[] lb, .pointer (some ⟨cb, 0, none⟩)] w (APost J Jx (toldL xs)) := by
  refine of_post fun R hR => ?_
  obtain ⟨hcell, hIS⟩ := hJl _ _ _ h0
  have HM := Lib.hid (may_near A xs n c w hIS hx (Nat.le_trans hc hcm))
  have HJL := fun pre T W h => Lib.hid (hJl pre T W h)
  have HJ := Lib.hid hJ
  have H0 := Lib.hid h0
  have Hx := Lib.hid hx
  have Hr := Lib.hid hr
  have HEACH := fun r T v H p0 D w a b d e f g h => Lib.hid (each_any fy lb J Jx (toldL xs) hJ hent hY r T v H p0 D w a b d e f g h)
  clear hJl hJ h0 hx hr hIS hY
  cases hmay : mayL xs with
  | false =>
    have HT := Lib.hid (told_no hmay)
    rw [hmay] at HM
    clear hmay HEACH
    go_enter Try.func33, Try.ntmps33
    go_wp2_with fail
    refine HM.out.mono ?_
    rintro e w1 ⟨rfl, rfl⟩
    go_wp2_with fail
    refine bodyPost_ret (results_none rfl _ _ _) rfl ?_
    exact hR.out _ _ ⟨⟨_, rfl⟩, .inl ⟨fun _ => False, by rw [HT.out]; exact H0.out, fun _ h => h.elim⟩⟩
  | true =>
    have hn : n ≤ 128 := by rw [← Hx.out]; exact may_len hmay
    rw [hmay] at HM
    have HMY := Lib.hid hmay
    clear hmay
    go_enter Try.func33, Try.ntmps33
    go_wp2_with fail
    refine HM.out.mono ?_
    rintro e w1 ⟨rfl, rfl⟩
    go_wp2_with fail
    go_loopw [3] (fun mv wr => ∃ (k : Nat) (T : Nat → Prop), mv = .int .i64 k ∧ k ≤ n ∧ Hid (J (phases xs k) T wr ∧ ∀ b, T b → b < wr.heap.size)) (fun mv _ => (intOf mv).toNat)
    case atStart => exact ⟨n, fun _ => False, rfl, Nat.le_refl _, Lib.hid ⟨by rw [← Hx.out, phases_top]; exact H0.out, fun _ h => h.elim⟩⟩
    case round =>
      obtain ⟨k, T, rfl, hk, HS⟩ := hrel
      have hcl := (HJL _ _ _ HS.out.1).out.1
      have HB0 := Lib.hid (Built.nil wr)
      have HISr := Lib.hid (HJL _ _ _ HS.out.1).out.2
      have hcl2 := ((Ext.refl' wr).alloc' (.cells #[.slice none 0 0] 63)).cell' hcl
      by_cases hk0 : k = 0
      · subst hk0
        have HCH := Lib.hid (changes_near A xs n c _ _ _ _ wr _ HB0.out HISr.out Hx.out (by omega) Hr.out (by simp))
        go_wp2_with fail
        refine HCH.out.mono ?_
        rintro e w2 ⟨⟨u2, rfl⟩, v2, H2, hb2⟩
        have hb3 : Built wr w2 wr.heap.size v2 H2 (changesL xs) := by unfold changesL; rw [Hx.out]; simpa using hb2
        have HE := HEACH wr.heap.size _ v2 H2 (phases xs 0) (setOf (changesL xs)) w2 (hb3.held HS.out.2) (rising_setOf _) hb3.inv (by rw [told_yes HMY.out]; exact List.prefix_rfl) (HJ.out.built hb3 HS.out.1)
          (by rw [hb3.few]; have := changesL_few xs; rw [Hx.out] at this; omega) (fun y hy => by rw [changesL_length (mem_setOf.1 hy), Hx.out]; omega)
        rw [← told_yes HMY.out] at HE
        clear hb2 hb3 hcl hcl2
        go_wp2_with fail
        refine HE.out.mono ?_
        rintro e w3 (⟨rfl, T', hj⟩ | ⟨rfl, pre, hj⟩)
        · have HP : Hid (APost J Jx (toldL xs) (.returned (.tuple #[])) w3) := Lib.hid ⟨⟨_, rfl⟩, .inl ⟨T', hj⟩⟩
          clear hj
          go_wp2_with fail
          go_end0
          exact hR.out _ _ ⟨⟨_, rfl⟩, HP.out.2⟩
        · have HP : Hid (APost J Jx (toldL xs) (.returned (.tuple #[])) w3) := Lib.hid ⟨⟨_, rfl⟩, .inr ⟨pre, hj⟩⟩
          clear hj
          go_wp2_with fail
          go_end0
          exact hR.out _ _ ⟨⟨_, rfl⟩, HP.out.2⟩
      · have hkp : (0 : Int) < k := by omega
        have HSP := Lib.hid (spans_near A xs n c k _ _ _ _ wr _ HB0.out HISr.out Hx.out (by omega) hc hcm hk (by simp))
        go_wp2_with fail
        refine HSP.out.mono ?_
        rintro e w2 ⟨⟨u2, rfl⟩, v2, H2, hb2⟩
        have hb3 : Built wr w2 wr.heap.size v2 H2 (spansL xs k) := by unfold spansL; rw [Hx.out]; simpa using hb2
        have hst : phases xs k ++ setOf (spansL xs k) = phases xs (k - 1) := by
          have := phases_step xs (k := k - 1) (by rw [Hx.out]; omega)
          rw [show k - 1 + 1 = k by omega] at this
          exact this.symm
        have HE := HEACH wr.heap.size _ v2 H2 (phases xs k) (setOf (spansL xs k)) w2 (hb3.held HS.out.2) (rising_setOf _) hb3.inv (by rw [hst]; exact phases_told HMY.out _) (HJ.out.built hb3 HS.out.1)
          (by rw [hb3.few]; unfold spansL; simp; rw [Hx.out]; omega) (fun y hy => by rw [spansL_length (by rw [Hx.out]; exact hk) (mem_setOf.1 hy), Hx.out]; omega)
        rw [hst] at HE
        clear hb2 hb3 hcl hcl2 hst
        go_wp2_with fail
        refine HE.out.mono ?_
        rintro e w3 (⟨rfl, T', hj⟩ | ⟨rfl, pre, hj⟩)
        · have HN : Hid (J (phases xs (k - 1)) T' w3 ∧ ∀ b, T' b → b < w3.heap.size) := Lib.hid hj
          clear hj
          have hk1 : (k : Int) - 1 = ((k - 1 : Nat) : Int) := by omega
          go_wp2_with fail
          go_roundw
          case rel => exact ⟨k - 1, T', by go_num, by omega, HN⟩
          case measure => simp [intOf]; omega
        · have HP : Hid (APost J Jx (toldL xs) (.returned (.tuple #[])) w3) := Lib.hid ⟨⟨_, rfl⟩, .inr ⟨pre, hj⟩⟩
          clear hj
          go_wp2_with fail
          refine bodyPost_ret (results_none rfl _ _ _) rfl ?_
          exact hR.out _ _ ⟨⟨_, rfl⟩, HP.out.2⟩
end Go.Proofs.Ytokfmfgnjhapiaa
