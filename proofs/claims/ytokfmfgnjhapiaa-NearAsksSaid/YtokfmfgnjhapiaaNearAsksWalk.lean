/- NearAsks: whether any numbers are a neighbour of any others is the document's. -/
import Derived.Test.YtokfmfgnjhapiaaNearRefIs
namespace Go.Proofs.Ytokfmfgnjhapiaa
open Go.RowKit
set_option linter.unusedVariables false
set_option linter.unusedSimpArgs false

theorem asks_long (A B : Option Addr) (n c m d : Nat) (x : Int) (w : World) (hn : n ≤ maxLen) (hm : m ≤ maxLen) (h : 12 < n ∨ 14 < m) :
    Calls Try.prog 6 #[.slice A n c, .slice B m d, .int .u8 x] w fun e w' => e = .returned (.bool true) ∧ Ext w w' := by
  refine of_post fun R hR => ?_
  have HA := fun W => Lib.hid (awake_near W)
  by_cases h1 : 12 < n
  · have h' : (12 : Int) < n := by omega
    clear h
    go_enter Try.func6, Try.ntmps6
    go_wp2_with fail
    refine (HA _).out.mono ?_
    rintro e w1 ⟨rfl, hx⟩
    have HX := Lib.hid hx
    clear hx
    go_wp2_with fail
    refine (HA _).out.mono ?_
    rintro e w2 ⟨rfl, hx⟩
    have HX2 := Lib.hid (HX.out.trans' hx)
    clear hx
    go_wp2_with fail
    exact hR.out _ _ ⟨rfl, HX2.out⟩
  · have h2 : 14 < m := by omega
    have h' : (14 : Int) < m := by omega
    have h1' : (n : Int) ≤ 12 := by omega
    clear h
    go_enter Try.func6, Try.ntmps6
    go_wp2_with fail
    refine (HA _).out.mono ?_
    rintro e w1 ⟨rfl, hx⟩
    have HX := Lib.hid hx
    clear hx
    go_wp2_with fail
    refine (HA _).out.mono ?_
    rintro e w2 ⟨rfl, hx⟩
    have HX2 := Lib.hid (HX.out.trans' hx)
    clear hx
    go_wp2_with fail
    exact hR.out _ _ ⟨rfl, HX2.out⟩

set_option maxHeartbeats 1000000 in
theorem asks_short (A B : Option Addr) (xs ys : List Int) (n c m d : Nat) (x : Nat) (w : World) (hA : IS w A xs) (hB : IS w B ys) (hx : xs.length = n) (hy : ys.length = m) (hc : n ≤ c) (hcm : c ≤ maxLen) (hn : n ≤ 12) (hm : m ≤ 14) (hx8 : x ≤ 255)
    (hr : ∀ x ∈ xs, -9223372036854775808 ≤ x ∧ x ≤ 9223372036854775807) :
    Calls Try.prog 6 #[.slice A n c, .slice B m d, .int .u8 x] w fun e w' => e = .returned (.bool true) ∧ Ext w w' := by
  refine of_post fun R hR => ?_
  have HW := fun W => Lib.hid (awake_near W)
  have HALL := fun W (hX : Ext w W) => Lib.hid (refall_any A xs n c W (hA.ext hX) hx hc hcm hr)
  have HIS := fun W (hX : Ext w W) => Lib.hid (is_any A B xs ys n c m d W (hA.ext hX) (hB.ext hX) hx hy hc hcm (by unfold maxLen; omega) hr)
  have HRI := fun W (hX : Ext w W) => Lib.hid (refis_any A B xs ys n c m d W (hA.ext hX) (hB.ext hX) hx hy hc hcm (by unfold maxLen; omega) hr)
  have HIR := fun W (hX : Ext w W) (r : IRow) (hf : Fresh 0 W r) => Lib.hid (is_any A r.A xs r.xs n c r.xs.length r.c W (hA.ext hX) (IS_of_cells hf.ok) hx rfl hc hcm (Nat.le_trans hf.le hf.cap) hr)
  have hTL := told_len_le xs
  have hn' : (n : Int) ≤ 12 := by omega
  have hm' : (m : Int) ≤ 14 := by omega
  clear hA hB hx hy hr
  go_enter Try.func6, Try.ntmps6
  go_wp2_with fail
  refine (HW _).out.mono ?_
  rintro e w1 ⟨rfl, hx1⟩
  have HX1 := Lib.hid hx1
  clear hx1
  go_wp2_with fail
  refine (HALL w1 HX1.out).out.mono ?_
  rintro e w2 ⟨v, rfl, rows, ⟨A1, c1, rfl, hc1, hcm1, hcell, hfr⟩, hmm, hx2⟩
  have hN : rows.length ≤ 20000 := by
    have := congrArg List.length hmm
    rw [List.length_map] at this
    omega
  have HC := Lib.hid hcell
  have HF := Lib.hid hfr
  have HM := Lib.hid hmm
  have HX2 := Lib.hid (HX1.out.trans' hx2)
  clear hcell hfr hmm hx2 hTL HALL HW
  unfold maxLen at hcm1
  generalize hNn : rows.length = N at *
  have HN := Lib.hid hNn
  clear hNn
  by_cases h0 : N = 0
  · subst h0
    go_wp2_with fail
    refine (HIS w2 HX2.out).out.mono ?_
    rintro e w3 ⟨rfl, hx3⟩
    have HX3 := Lib.hid (HX2.out.trans' hx3)
    clear hx3
    generalize decide (ys ∈ toldL xs) = b at *
    go_wp2_with fail
    refine (HRI w3 HX3.out).out.mono ?_
    rintro e w4 ⟨rfl, hx4⟩
    have HX4 := Lib.hid (HX3.out.trans' hx4)
    clear hx4
    go_wp2_with fail
    exact hR.out _ _ ⟨by simp, HX4.out⟩
  · obtain ⟨q, hq⟩ : ∃ q, x % N = q := ⟨_, rfl⟩
    have hqN : q < N := by rw [← hq]; exact Nat.mod_lt _ (by omega)
    have hq1 : (x : Int).tmod (N : Nat) = (q : Nat) := by rw [← Int.ofNat_tmod, hq]
    clear hq
    have hN0 : (0 : Int) < N := by omega
    have hz : ((N : Int) == 0) = false := by simp; omega
    have hkr : q < rows.length := by rw [HN.out]; exact hqN
    obtain ⟨b, o, hAe, hc0⟩ := HC.out.at_ (k := q) (by simpa using hkr)
    subst hAe
    simp only [List.getElem_map] at hc0
    have HFK := Lib.hid ((HF.out _ (List.getElem_mem hkr)))
    have HMEM : Hid (rows[q].xs ∈ toldL xs) := Lib.hid (by rw [← HM.out]; exact List.mem_map.2 ⟨_, List.getElem_mem hkr, rfl⟩)
    generalize rows[q] = r at *
    have hval : r.val = .slice r.A r.xs.length r.c := rfl
    rw [hval] at hc0
    have HEQ := HIR w2 HX2.out r HFK.out
    clear hval HIR
    generalize r.xs.length = rn at *
    go_wp2_with fail
    refine HEQ.out.mono ?_
    rintro e w3 ⟨rfl, hx3⟩
    rw [decide_eq_true HMEM.out]
    have HX3 := Lib.hid (HX2.out.trans' hx3)
    clear hx3
    go_wp2_with fail
    refine (HIS w3 HX3.out).out.mono ?_
    rintro e w4 ⟨rfl, hx4⟩
    have HX4 := Lib.hid (HX3.out.trans' hx4)
    clear hx4
    generalize decide (ys ∈ toldL xs) = b at *
    go_wp2_with fail
    refine (HRI w4 HX4.out).out.mono ?_
    rintro e w5 ⟨rfl, hx5⟩
    have HX5 := Lib.hid (HX4.out.trans' hx5)
    clear hx5
    go_wp2_with fail
    exact hR.out _ _ ⟨by simp, HX5.out⟩

theorem near_asks (A : Option Addr) (xs : List Int) (c : Nat) (B : Option Addr) (ys : List Int) (d : Nat) (x : Nat) (w : World) (hA : IS w A xs) (hc : xs.length ≤ c) (hcm : c ≤ maxLen) (hr : ∀ n ∈ xs, -9223372036854775808 ≤ n ∧ n ≤ 9223372036854775807)
    (hB : IS w B ys) (hd : ys.length ≤ d) (hdm : d ≤ maxLen) (hr' : ∀ n ∈ ys, -9223372036854775808 ≤ n ∧ n ≤ 9223372036854775807) (hx : x ≤ 255) :
    Calls Try.prog 6 #[.slice A xs.length c, .slice B ys.length d, .int .u8 x] w fun e w' => e = .returned (.bool true) ∧ Ext w w' := by
  by_cases h : 12 < xs.length ∨ 14 < ys.length
  · exact asks_long A B _ c _ d x w (Nat.le_trans hc hcm) (Nat.le_trans hd hdm) h
  · exact asks_short A B xs ys _ c _ d x w hA hB rfl rfl hc hcm (by omega) (by omega) hx hr
end Go.Proofs.Ytokfmfgnjhapiaa
