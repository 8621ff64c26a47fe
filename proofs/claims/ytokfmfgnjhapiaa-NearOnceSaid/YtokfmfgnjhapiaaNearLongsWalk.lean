/- NearLongs: as many numbers as may be have neighbours, one more have none; nor have such as are below 0. -/
import Derived.Test.YtokfmfgnjhapiaaToldZeros
namespace Go.Proofs.Ytokfmfgnjhapiaa
open Go.RowKit
set_option linter.unusedVariables false
set_option linter.unusedSimpArgs false

theorem infoInt' : (Try.prog.info? 3).map (fun i => (i.zero, i.size, i.bytes)) = some (some (.int .i64 0), 1, 8) := by kernel_rfl
theorem made_eq (n : Nat) : madeCells #[Value.int .i64 0] n = ((List.replicate n (0 : Int)).map I64).toArray := by
  apply Array.toList_inj.1
  rw [toList_madeCells_one]
  simp [I64]
theorem own_made (w : World) (n : Nat) (hn : n ≤ maxLen) : (w.alloc (.cells (madeCells #[Value.int .i64 0] n) 3)).ownsRow w.heap.size 3 1 (.slice (some ⟨w.heap.size, 0, none⟩) n n) n ((List.replicate n (0 : Int)).map I64) := by
  rw [made_eq]
  refine ⟨by simp, .inr ⟨w.heap.size, n, _, rfl, Nat.le_refl _, heap_alloc_new w _, Nat.le_refl _, hn, by simp, ?_⟩⟩
  rw [List.take_of_length_le (by simp)]
theorem IS_own {w : World} {base n c : Nat} {A : Option Addr} {xs : List Int} (h : w.ownsRow base 3 1 (.slice A n c) n (xs.map I64)) : IS w A xs := IS_of_cells (cellsAt_of_own h)
theorem IS.take {w : World} {A : Option Addr} {xs : List Int} (h : IS w A xs) (k : Nat) : IS w A (xs.take k) := by
  have := (cells_of_IS h).take k
  rw [← List.map_take] at this
  exact IS_of_cells this

theorem is_made (w : World) (n : Nat) (hn : n ≤ maxLen) : IS (w.alloc (.cells (madeCells #[Value.int .i64 0] n) 3)) (some ⟨w.heap.size, 0, none⟩) (List.replicate n 0) := IS_own (own_made w n hn)
theorem is_below (w : World) (n k : Nat) : IS (w.alloc (.cells ((madeCells #[Value.int .i64 0] n).setIfInBounds k (.int .i64 (-1))) 3)) (some ⟨w.heap.size, 0, none⟩) ((List.replicate n 0).set k (-1)) := by
  have h : (madeCells #[Value.int .i64 0] n).setIfInBounds k (.int .i64 (-1)) = ((((List.replicate n (0 : Int)).set k (-1)).map I64).toArray) := by
    apply Array.toList_inj.1
    rw [Array.toList_setIfInBounds, toList_madeCells_one, List.map_set]
    simp [I64]
  rw [h]
  exact IS_of_cells (cellsAt_new w _ _)

set_option maxHeartbeats 1000000 in
theorem near_longs (x : Nat) (b : Bool) (w : World) (hx : x ≤ 255) : Calls Try.prog 9 #[.int .u8 x, .bool b] w fun e w' => e = .returned (.bool true) ∧ Ext w w' := by
  refine of_post fun R hR => ?_
  have HW := fun W => Lib.hid (awake_near W)
  obtain ⟨q, hq⟩ : ∃ q, x % 16 = q := ⟨_, rfl⟩
  have hq1 : (x : Int).tmod 16 = (q : Nat) := by
    show ((x : Int).tmod ((16 : Nat) : Int)) = _
    rw [← Int.ofNat_tmod, hq]
  have hq2 : q < 16 := by omega
  clear hq
  obtain ⟨N, hN⟩ : ∃ N, 120 + q = N := ⟨_, rfl⟩
  have hN1 : (120 : Int) + (q : Nat) = (N : Nat) := by omega
  have hN2 : 120 ≤ N := by omega
  have hN3 : N ≤ 135 := by omega
  have hmk := run_make_row' (P := Try.prog) 24 3 (.int .i64 0) 8 Try.underlying24 infoInt' rfl .i64 .i64 N (by omega) (by omega)
  have HO := fun W => Lib.hid (own_made W N (by unfold maxLen; omega))
  clear hN
  go_enter Try.func9, Try.ntmps9
  go_wp2_with fail
  refine (HW _).out.mono ?_
  rintro e w1 ⟨rfl, hx1⟩
  have HX := Lib.hid hx1
  clear hx1 HW
  have hwr : ∀ z ∈ List.replicate N (0 : Int), -9223372036854775808 ≤ z ∧ z ≤ 9223372036854775807 := fun z hz => by rw [(List.mem_replicate.1 hz).2]; omega
  have hwb : ∀ z ∈ (List.replicate N (0 : Int)).set (N / 2) (-1), -9223372036854775808 ≤ z ∧ z ≤ 9223372036854775807 := fun z hz => by
    rcases List.mem_or_eq_of_mem_set hz with h | h
    · exact hwr z h
    · rw [h]; omega
  have Hwr := Lib.hid hwr
  have Hwb := Lib.hid hwb
  clear hwr hwb
  cases b with
  | true =>
    have ho := (HO w1).out
    have cw := ho.cellAt (N / 2) (by omega)
    have cz : ((List.replicate N (0 : Int)).map I64)[N / 2]? = some (.int .i64 0) := by
      rw [List.map_replicate, List.getElem?_replicate, if_pos (by omega)]; rfl
    rw [cz] at cw
    have fw := ho.frozenAt (N / 2)
    clear ho cz
    have HIS := Lib.hid (is_below w1 N (N / 2))
    have HT : Hid (toldL ((List.replicate N 0).set (N / 2) (-1)) = []) := Lib.hid (told_below (by simp; omega))
    generalize hcs : (madeCells #[Value.int .i64 0] N).setIfInBounds (N / 2) (.int .i64 (-1)) = cs at *
    go_wp2_with fail
    refine (count_any _ ((List.replicate N (0 : Int)).set (N / 2) (-1)) N N _ HIS.out (by simp) (Nat.le_refl _) (by unfold maxLen; omega) Hwb.out (by rw [HT.out]; simp)).mono ?_
    rintro e w2 ⟨rfl, hx2⟩
    rw [HT.out]
    have HX2 := Lib.hid hx2
    have HX3 := Lib.hid ((HX.out.alloc' _).trans' hx2)
    clear hx2
    go_wp2_with fail
    refine (is_any _ _ ((List.replicate N (0 : Int)).set (N / 2) (-1)) (((List.replicate N (0 : Int)).set (N / 2) (-1)).take (N - 1)) N N (N - 1) N _ (HIS.out.ext HX2.out) ((HIS.out.take (N - 1)).ext HX2.out) (by simp) (by simp) (Nat.le_refl _) (by unfold maxLen; omega) (by unfold maxLen; omega) Hwb.out).mono ?_
    rintro e w3 ⟨rfl, hx3⟩
    rw [decide_eq_false (by rw [HT.out]; simp)]
    have HX4 := Lib.hid (HX3.out.trans' hx3)
    clear hx3
    go_wp2_with fail
    exact hR.out _ _ ⟨rfl, HX4.out⟩
  | false =>
    have HIS := Lib.hid (is_made w1 N (by unfold maxLen; omega))
    by_cases h128 : 128 < N
    · have h128' : (128 : Int) < N := by omega
      have HT : Hid (toldL (List.replicate N 0) = []) := Lib.hid (told_many h128)
      go_wp2_with fail
      refine (count_any _ (List.replicate N (0 : Int)) N N _ HIS.out (by simp) (Nat.le_refl _) (by unfold maxLen; omega) Hwr.out (by rw [HT.out]; simp)).mono ?_
      rintro e w2 ⟨rfl, hx2⟩
      rw [HT.out]
      have HX2 := Lib.hid hx2
      have HX3 := Lib.hid ((HX.out.alloc' _).trans' hx2)
      clear hx2
      go_wp2_with fail
      refine (is_any _ _ (List.replicate N (0 : Int)) ((List.replicate N (0 : Int)).take (N - 1)) N N (N - 1) N _ (HIS.out.ext HX2.out) ((HIS.out.take (N - 1)).ext HX2.out) (by simp) (by simp) (Nat.le_refl _) (by unfold maxLen; omega) (by unfold maxLen; omega) Hwr.out).mono ?_
      rintro e w3 ⟨rfl, hx3⟩
      rw [decide_eq_false (by rw [HT.out]; simp)]
      have HX4 := Lib.hid (HX3.out.trans' hx3)
      clear hx3
      go_wp2_with fail
      exact hR.out _ _ ⟨rfl, HX4.out⟩
    · have h128' : ¬ (128 : Int) < N := by omega
      have HT : Hid (toldL (List.replicate N 0) = (List.range N).map fun i => List.replicate i 0) := Lib.hid (told_zeros (by omega))
      go_wp2_with fail
      refine (count_any _ (List.replicate N (0 : Int)) N N _ HIS.out (by simp) (Nat.le_refl _) (by unfold maxLen; omega) Hwr.out (by rw [HT.out]; simp; omega)).mono ?_
      rintro e w2 ⟨rfl, hx2⟩
      rw [HT.out]
      have HX2 := Lib.hid hx2
      have HX3 := Lib.hid ((HX.out.alloc' _).trans' hx2)
      clear hx2
      have hlen : ((List.range N).map fun i => List.replicate i (0 : Int)).length = N := by simp
      rw [hlen]
      clear hlen
      have hbe : ((N : Int) == N) = true := by simp
      go_wp2_with fail
      refine (is_any _ _ (List.replicate N (0 : Int)) ((List.replicate N (0 : Int)).take (N - 1)) N N (N - 1) N _ (HIS.out.ext HX2.out) ((HIS.out.take (N - 1)).ext HX2.out) (by simp) (by simp) (Nat.le_refl _) (by unfold maxLen; omega) (by unfold maxLen; omega) Hwr.out).mono ?_
      rintro e w3 ⟨rfl, hx3⟩
      rw [decide_eq_true (by rw [HT.out, List.take_replicate]; exact List.mem_map.2 ⟨N - 1, by simp; omega, by congr 1; omega⟩)]
      have HX4 := Lib.hid (HX3.out.trans' hx3)
      clear hx3
      go_wp2_with fail
      exact hR.out _ _ ⟨rfl, HX4.out⟩
end Go.Proofs.Ytokfmfgnjhapiaa
