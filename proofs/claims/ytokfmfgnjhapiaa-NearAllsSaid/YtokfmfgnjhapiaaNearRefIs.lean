/- The document's All and Is, whole. -/
import Derived.Test.YtokfmfgnjhapiaaNearRefAll2
namespace Go.Proofs.Ytokfmfgnjhapiaa
open Go.RowKit
set_option linter.unusedVariables false
set_option linter.unusedSimpArgs false

theorem gapsTo_all (xs : List Int) : gapsTo xs xs.length = gapsL xs := rfl

theorem refall_no (A : Option Addr) (xs : List Int) (n c : Nat) (w : World) (hA : IS w A xs) (hx : xs.length = n) (hn : n ≤ maxLen) (hmay : mayL xs = false) :
    Calls Try.prog 18 #[.slice A n c] w fun e w' => e = .returned (.slice none 0 0) ∧ w' = w := by
  refine of_post fun R hR => ?_
  have HM := Lib.hid (ref_may A xs n c w hA hx hn)
  rw [hmay] at HM
  clear hA hx hmay
  go_enter Try.func18, Try.ntmps18
  go_wp2_with fail
  refine HM.out.mono ?_
  rintro e w1 ⟨rfl, rfl⟩
  go_wp2_with fail
  exact hR.out _ _ ⟨rfl, rfl⟩

/-- The document's row, as a value. -/
def AllOf (w w' : World) (v : Value) (L : List (List Int)) : Prop := ∃ rows, Out w' v rows ∧ rows.map IRow.xs = L ∧ Ext w w'

theorem refall_any (A : Option Addr) (xs : List Int) (n c : Nat) (w : World) (hA : IS w A xs) (hx : xs.length = n) (hc : n ≤ c) (hcm : c ≤ maxLen) (hr : ∀ x ∈ xs, -9223372036854775808 ≤ x ∧ x ≤ 9223372036854775807) :
    Calls Try.prog 18 #[.slice A n c] w fun e w' => ∃ v, e = .returned v ∧ AllOf w w' v (toldL xs) := by
  cases hmay : mayL xs with
  | false =>
    refine (refall_no A xs n c w hA hx (Nat.le_trans hc hcm) hmay).mono ?_
    rintro e w' ⟨rfl, rfl⟩
    exact ⟨_, rfl, [], Out.nil _, by rw [told_no hmay]; rfl, Ext.refl' _⟩
  | true =>
    refine (refall_yes A xs n c w hA hx hc hcm hr hmay).mono ?_
    rintro e w' ⟨v, rfl, hx', rows, ho, hm⟩
    refine ⟨v, rfl, rows, ho, ?_, hx'⟩
    rw [hm, ← told_ref hmay, ← gapsTo_all, hx]

theorem told_len_le (xs : List Int) : (toldL xs).length ≤ 20000 := by
  cases hmay : mayL xs with
  | false => rw [told_no hmay]; simp
  | true =>
    rw [← told_ref hmay, ← gapsTo_all]
    have h1 := setOf_length (gapsTo xs xs.length ++ changesL xs)
    have h2 := gapsTo_length xs xs.length
    have h3 := changesL_few xs
    have h4 := may_len hmay
    have h5 : xs.length * xs.length ≤ 128 * 128 := Nat.mul_le_mul h4 h4
    rw [List.length_append] at h1
    omega

theorem mem_take_succ {l : List IRow} {k : Nat} (hk : k < l.length) {ys : List Int} (h : ys ∉ (l.take k).map IRow.xs) (hn : ¬ l[k].xs = ys) : ys ∉ (l.take (k + 1)).map IRow.xs := by
  rw [List.take_succ_eq_append_getElem hk, List.map_append]
  simp only [List.mem_append, not_or]
  exact ⟨h, by simpa using fun e => hn e.symm⟩

set_option maxHeartbeats 1000000 in
theorem refis_any (A B : Option Addr) (xs ys : List Int) (n c m d : Nat) (w : World) (hA : IS w A xs) (hB : IS w B ys) (hx : xs.length = n) (hy : ys.length = m) (hc : n ≤ c) (hcm : c ≤ maxLen) (hd : m ≤ maxLen) (hr : ∀ x ∈ xs, -9223372036854775808 ≤ x ∧ x ≤ 9223372036854775807) :
    Calls Try.prog 23 #[.slice A n c, .slice B m d] w fun e w' => e = .returned (.bool (decide (ys ∈ toldL xs))) ∧ Ext w w' := by
  refine of_post fun R hR => ?_
  have HALL := Lib.hid (refall_any A xs n c w hA hx hc hcm hr)
  have HB := Lib.hid hB
  have Hy := Lib.hid hy
  have hTL := told_len_le xs
  have Hd := Lib.hid hd
  clear hA hx hr hB hy hd
  go_enter Try.func23, Try.ntmps23
  go_wp2_with fail
  refine HALL.out.mono ?_
  rintro e w1 ⟨v, rfl, rows, ⟨A1, c1, rfl, hc1, hcm1, hcell, hfr⟩, hm, hx1⟩
  have hN : rows.length ≤ 20000 := by
    have := congrArg List.length hm
    rw [List.length_map] at this
    omega
  have HC := Lib.hid hcell
  have HF := Lib.hid hfr
  have HM := Lib.hid hm
  have HX := Lib.hid hx1
  clear hcell hfr hm hx1 hTL
  unfold maxLen at hcm1
  generalize hNn : rows.length = N at *
  have HN := Lib.hid hNn
  clear hNn
  go_wp2_with fail
  go_loopw [6, 11] (fun _ i wr => ∃ k : Nat, i = .int .i64 k ∧ k ≤ N ∧ Hid (Ext w1 wr) ∧ Hid (ys ∉ (rows.take k).map IRow.xs)) (fun _ i _ => N - (intOf i).toNat)
  case atStart => exact ⟨0, rfl, Nat.zero_le _, Lib.hid (Ext.refl' _), Lib.hid (by simp)⟩
  case round =>
    obtain ⟨k, rfl, hk, HXW, HNO⟩ := hrel
    by_cases hlt : k < N
    · have hkr : k < rows.length := by rw [HN.out]; exact hlt
      obtain ⟨b, o, hAe, hc0⟩ := HC.out.at_ (k := k) (by simpa using hkr)
      subst hAe
      simp only [List.getElem_map] at hc0
      have hc2 := HXW.out.cell' hc0
      clear hc0
      have HFK := Lib.hid ((HF.out _ (List.getElem_mem hkr)).on HXW.out)
      have HSTEP := fun h => Lib.hid (mem_take_succ hkr HNO.out h)
      have HMEM : Hid (rows[k].xs ∈ toldL xs) := Lib.hid (by rw [← HM.out]; exact List.mem_map.2 ⟨_, List.getElem_mem hkr, rfl⟩)
      generalize rows[k] = r at *
      have hval : r.val = .slice r.A r.xs.length r.c := rfl
      rw [hval] at hc2
      have HEQ := Lib.hid (same_any r.A B r.xs ys r.c d wr (IS_of_cells HFK.out.ok) (HB.out.ext (HX.out.trans' HXW.out)) (Nat.le_trans HFK.out.le HFK.out.cap) (by rw [Hy.out]; exact Hd.out))
      rw [Hy.out] at HEQ
      clear hval
      generalize r.xs.length = rn at *
      go_wp2_with fail
      refine HEQ.out.mono ?_
      rintro e w3 ⟨rfl, nq, rfl⟩
      by_cases hs : r.xs = ys
      · rw [decide_eq_true hs]
        have HT : Hid (ys ∈ toldL xs) := Lib.hid (hs ▸ HMEM.out)
        clear hs
        go_wp2_with fail
        exact hR.out _ _ ⟨ret_bb rfl (decide_eq_true HT.out).symm, (HX.out.trans' HXW.out).drewN' _⟩
      · rw [decide_eq_false hs]
        have HNN := HSTEP hs
        clear hs HSTEP
        go_wp2_with fail
        go_roundw
        case rel => exact ⟨k + 1, by go_num, by omega, Lib.hid (HXW.out.drewN' _), HNN⟩
        case measure => simp [intOf]; omega
    · obtain rfl : k = N := by omega
      have HT : Hid (¬ ys ∈ toldL xs) := Lib.hid (by
        have h1 := HNO.out
        rwa [List.take_of_length_le (by rw [HN.out]; exact Nat.le_refl _), HM.out] at h1)
      go_wp2_with fail
      exact hR.out _ _ ⟨ret_bb rfl (decide_eq_false HT.out).symm, HX.out.trans' HXW.out⟩
end Go.Proofs.Ytokfmfgnjhapiaa
