/- NearOnce: numbers that are all the same, and 0, have as many neighbours as there are of them; such as are 1 have twice as many. -/
import Derived.Test.YtokfmfgnjhapiaaNearLongsWalk
import Derived.Deep.DeepCutAuto
import Derived.BigRegion
namespace Go.Proofs.Ytokfmfgnjhapiaa
open Go.RowKit
set_option linter.unusedVariables false
set_option linter.unusedSimpArgs false

theorem ones_step (N k : Nat) (hk : k < N) : (List.replicate k (1 : Int) ++ List.replicate (N - k) 0).set k 1 = List.replicate (k + 1) 1 ++ List.replicate (N - (k + 1)) 0 := by
  have h1 : N - k = (N - (k + 1)) + 1 := by omega
  rw [h1, List.replicate_succ, List.set_append_right _ _ (by simp), List.length_replicate, Nat.sub_self, List.set_cons_zero, List.replicate_succ', List.append_assoc]
  rfl

set_option maxHeartbeats 1000000 in
theorem near_once (x : Nat) (w : World) (hx : x ≤ 255) : Calls Try.prog 8 #[.int .u8 x] w fun e w' => e = .returned (.bool true) ∧ Ext w w' := by
  refine of_post fun R hR => ?_
  have HW := fun W => Lib.hid (awake_near W)
  obtain ⟨N, hq⟩ : ∃ q, x % 20 = q := ⟨_, rfl⟩
  have hq1 : (x : Int).tmod 20 = (N : Nat) := by
    show ((x : Int).tmod ((20 : Nat) : Int)) = _
    rw [← Int.ofNat_tmod, hq]
  have hN : N < 20 := by omega
  clear hq
  have hmk := run_make_row' (P := Try.prog) 24 3 (.int .i64 0) 8 Try.underlying24 infoInt' rfl .i64 .i64 N (by omega) (by omega)
  go_enter Try.func8, Try.ntmps8
  go_wp2_with fail
  refine (HW _).out.mono ?_
  rintro e w1 ⟨rfl, hx1⟩
  have HX := Lib.hid hx1
  clear hx1 HW
  go_upto_region 4 with fail
  go_cut [4, 5] (fun s4 s5 wx => ∃ gA gB : Nat, s4 = .slice (some ⟨gA, 0, none⟩) N N ∧ s5 = .slice (some ⟨gB, 0, none⟩) N N ∧ gA ≠ gB ∧ Hid (IS wx (some ⟨gA, 0, none⟩) (List.replicate N 0)) ∧ Hid (wx.ownsRow w1.heap.size 3 1 (.slice (some ⟨gB, 0, none⟩) N N) N ((List.replicate N (0 : Int)).map I64)) ∧ Hid (Ext w1 wx))
  case first =>
    go_region
    all_goals (go_wp2_with fail)
    · go_meet
      have o1 := own_made w1 N (by unfold maxLen; omega)
      have o2 := own_made (w1.alloc (.cells (madeCells #[Value.int .i64 0] N) 3)) N (by unfold maxLen; omega)
      rw [World.size_alloc] at o2
      refine ⟨_, _, rfl, rfl, by omega, Lib.hid (IS_own (own_ext o1 (((Ext.refl' _).alloc' _).drewN' 1))), Lib.hid (own_mono (own_ext o2 ((Ext.refl' _).drewN' 1)) (by omega)), Lib.hid ((((Ext.refl' w1).alloc' _).alloc' _).drewN' 1)⟩
    · go_meet
      have o1 := own_made w1 N (by unfold maxLen; omega)
      have o2 := own_made (w1.alloc (.cells (madeCells #[Value.int .i64 0] N) 3)) N (by unfold maxLen; omega)
      rw [World.size_alloc] at o2
      refine ⟨_, _, rfl, rfl, by omega, Lib.hid (IS_own (own_ext o2 ((Ext.refl' _).drewN' 1))), Lib.hid (own_ext o1 (((Ext.refl' _).alloc' _).drewN' 1)), Lib.hid ((((Ext.refl' w1).alloc' _).alloc' _).drewN' 1)⟩
  case rest =>
    obtain ⟨gA, gB, rfl, rfl, hAB, HA, HB, HXc⟩ := hcut
    go_wp2_with fail
    go_loopw [6, 18] (fun _ i wr => ∃ k : Nat, k ≤ N ∧ i = .int .i64 k ∧ Hid (IS wr (some ⟨gA, 0, none⟩) (List.replicate N 0)) ∧ Hid (wr.ownsRow w1.heap.size 3 1 (.slice (some ⟨gB, 0, none⟩) N N) N ((List.replicate k (1 : Int) ++ List.replicate (N - k) 0).map I64)) ∧ Hid (Ext w1 wr)) (fun _ i _ => N - (intOf i).toNat)
    case atStart => exact ⟨0, Nat.zero_le _, rfl, HA, Lib.hid (by simpa using HB.out), HXc⟩
    case round =>
      obtain ⟨k, hk, rfl, HA1, HB1, HX1⟩ := hrel
      by_cases hlt : k < N
      · have cw := HB1.out.cellAt k (by omega)
        have cz : ((List.replicate k (1 : Int) ++ List.replicate (N - k) 0).map I64)[k]? = some (.int .i64 0) := by
          rw [List.getElem?_map, List.getElem?_append_right (by simp), List.length_replicate, Nat.sub_self, List.getElem?_replicate, if_pos (by omega)]; rfl
        rw [cz] at cw
        have fw := HB1.out.frozenAt k
        have hst := HB1.out.stored k (I64 1)
        rw [← List.map_set, ones_step N k hlt] at hst
        have HST := Lib.hid hst
        have hlb := (World.ownsRow.lt HB1.out gB rfl).1
        clear hst cz
        have hkp : Keeps (fun b => b = gB) wr (wr.setCell ⟨gB, k, none⟩ (I64 1)) := (Keeps.refl (fun b => b = gB) wr).setCell (p := ⟨gB, k, none⟩) rfl _
        have HN : Hid (IS (wr.setCell ⟨gB, k, none⟩ (I64 1)) (some ⟨gA, 0, none⟩) (List.replicate N 0) ∧ Ext w1 (wr.setCell ⟨gB, k, none⟩ (I64 1))) := Lib.hid ⟨fun hne => by
          obtain ⟨b, o, e1, hc⟩ := HA1.out hne
          cases e1
          exact ⟨gA, 0, rfl, fun j hj => hkp.cell (p := ⟨gA, 0 + j, none⟩) hAB (hc j hj)⟩, Keeps.below HX1.out hkp fun b hb q => by omega⟩
        clear hkp
        unfold I64 at HST HN
        go_wp2_with fail
        go_roundw
        case rel => exact ⟨k + 1, by omega, by go_num, Lib.hid HN.out.1, Lib.hid HST.out.1, Lib.hid HN.out.2⟩
        case measure => simp [intOf]; omega
      · obtain rfl : k = N := by omega
        have HIA := Lib.hid HA1.out
        have HIB : Hid (IS wr (some ⟨gB, 0, none⟩) (List.replicate k 1)) := Lib.hid (IS_own (by simpa using HB1.out))
        have HT0 : Hid ((toldL (List.replicate k (0 : Int))).length = k) := Lib.hid (by rw [told_zeros (by omega)]; simp)
        have HT1 : Hid ((toldL (List.replicate k (1 : Int))).length = 2 * k) := Lib.hid (told_ones k hN)
        have hr0 : ∀ z ∈ List.replicate k (0 : Int), -9223372036854775808 ≤ z ∧ z ≤ 9223372036854775807 := fun z hz => by rw [(List.mem_replicate.1 hz).2]; omega
        have hr1 : ∀ z ∈ List.replicate k (1 : Int), -9223372036854775808 ≤ z ∧ z ≤ 9223372036854775807 := fun z hz => by rw [(List.mem_replicate.1 hz).2]; omega
        have HC0 := Lib.hid (count_any _ _ k k wr HIA.out (by simp) (Nat.le_refl _) (by unfold maxLen; omega) hr0 (by rw [HT0.out]; omega))
        have HC1 := fun W (hx : Ext wr W) => Lib.hid (count_any _ _ k k W (HIB.out.ext hx) (by simp) (Nat.le_refl _) (by unfold maxLen; omega) hr1 (by rw [HT1.out]; omega))
        rw [HT0.out] at HC0
        rw [HT1.out] at HC1
        have hbe : ((k : Int) == k) = true := by simp
        have hbe2 : (((2 * k : Nat) : Int) == 2 * (k : Int)) = true := by simp
        clear hr0 hr1
        go_wp2_with fail
        refine HC0.out.mono ?_
        rintro e w2 ⟨rfl, hx2⟩
        have HX2 := Lib.hid hx2
        clear hx2
        go_wp2_with fail
        refine (HC1 _ HX2.out).out.mono ?_
        rintro e w3 ⟨rfl, hx3⟩
        have HX3 := Lib.hid (HX.out.trans' (HX1.out.trans' (HX2.out.trans' hx3)))
        clear hx3
        go_wp2_with fail
        exact hR.out _ _ ⟨rfl, HX3.out⟩
end Go.Proofs.Ytokfmfgnjhapiaa
