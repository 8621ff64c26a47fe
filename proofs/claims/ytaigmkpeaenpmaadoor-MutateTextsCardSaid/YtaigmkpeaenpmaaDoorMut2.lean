/- The program's mutations, one by one: duplicate, cut, turn, perturb. -/
import Derived.Test.YtaigmkpeaenpmaaDoorMut
import Derived.Test.YtaigmkpeaenpmaaDoorRev
namespace Go.Proofs.YtaigmkpeaenpmaaDoor
set_option maxRecDepth 100000
open Go.RowKit
set_option linter.unusedVariables false
set_option linter.unusedSimpArgs false

set_option maxHeartbeats 400000 in
theorem dup_yes (m0 : Int) (i k d : Nat) (A B : Option Addr) (xs : List Int) (n m c b : Nat) (w : World) (hA : CellsAt w A (xs.map I64)) (hx : xs.length = n) (hn : n ≤ 1000) (hc : n ≤ c) (hik : i ≤ k) (hk : k ≤ n) (hd : d ≤ n) :
    Calls Tryd.prog 28 #[.agg #[.int .i64 m0, .int .i64 i, .int .i64 k, .int .i64 d], .slice A n c, .slice B m b] w (Made w (xs.take d ++ ((xs.drop i).take (k - i) ++ xs.drop d))) := by
  obtain ⟨zs, hz⟩ : ∃ zs, zs = xs.take d ++ ((xs.drop i).take (k - i) ++ xs.drop d) := ⟨_, rfl⟩
  rw [← hz]
  have Hz := Lib.hid hz
  clear hz
  refine of_post fun R hR => ?_
  have HS := fun o => Lib.hid (spans_any m0 i k d A n c (w.alloc o) (by unfold maxLen; omega))
  have e1 : (0 : Int) ≤ i := by omega
  have e2 : (i : Int) ≤ k := by omega
  have e3 : (k : Int) ≤ n := by omega
  have e4 : (0 : Int) ≤ d := by omega
  have e5 : (d : Int) ≤ n := by omega
  have e6 : (d : Int) ≤ c := by omega
  have e7 : (k : Int) ≤ c := by omega
  have hb : decide (0 ≤ (i : Int) ∧ (i : Int) ≤ k ∧ (k : Int) ≤ (n : Int)) = true := by simpa using And.intro hik hk
  have c1 := hA.cut i c (by simp; omega)
  have c2 := hA.cut d c (by simp; omega)
  obtain ⟨A1, h1⟩ : ∃ A1, (if c = i then A else Option.map (fun x => x.add i) A) = A1 := ⟨_, rfl⟩
  obtain ⟨A2, h2⟩ : ∃ A2, (if c = d then A else Option.map (fun x => x.add d) A) = A2 := ⟨_, rfl⟩
  rw [h1] at c1
  rw [h2] at c2
  have HA := Lib.hid hA
  have HC1 := Lib.hid c1
  have HC2 := Lib.hid c2
  have Hx := Lib.hid hx
  clear hA c1 c2 hx
  go_enter Tryd.func28, Tryd.ntmps28
  go_wp2_with fail
  refine (HS _).out.mono ?_
  rintro e w1 ⟨rfl, hxt⟩
  rw [hb]
  have q1 := hxt.cell' (p := ⟨w.heap.size, 1, none⟩) (v := .int .i64 i) (by simp)
  have q2 := hxt.cell' (p := ⟨w.heap.size, 2, none⟩) (v := .int .i64 k) (by simp)
  have q3 := hxt.cell' (p := ⟨w.heap.size, 3, none⟩) (v := .int .i64 d) (by simp)
  have HX := Lib.hid (((Ext.refl' w).alloc' _).trans' hxt)
  clear hxt HS
  go_wp2_with fail
  refine wp_region_tail 14 (by kernel_rfl) (by kernel_rfl) ?_
  simp only [List.take_succ_cons, List.take_zero, List.drop_succ_cons, List.drop_zero]
  repeat still_step
  refine wpStill_nil ?_
  go_wp2_with fail
  have l1 : (xs.take d).length = d := by rw [List.length_take, Hx.out]; omega
  have l2 : ((xs.drop i).take (k - i)).length = k - i := by rw [List.length_take, List.length_drop, Hx.out]; omega
  have l3 : (xs.drop d).length = n - d := by rw [List.length_drop, Hx.out]
  refine (made_made _ [⟨A, c, xs.take d⟩, ⟨A1, c - i, (xs.drop i).take (k - i)⟩, ⟨A2, c - d, xs.drop d⟩] zs 3 3 _ ?_ ?_ rfl (by omega) (by rw [Hz.out]; simp [flat]) (by rw [Hz.out, List.length_append, List.length_append]; omega)).mono ?_
  · simp only [List.map_cons, List.map_nil, IRow.val, l1, l2, l3]
    exact (cellsAt_new w1 _ _).drew
  · intro r hr
    simp only [List.mem_cons, List.not_mem_nil, or_false] at hr
    rcases hr with rfl | rfl | rfl
    · rw [IRow.ok, List.map_take]
      exact (HA.out.take d).ext ((HX.out.alloc' _).drewN' 1)
    · rw [IRow.ok, List.map_take, List.map_drop]
      exact (HC1.out.take (k - i)).ext ((HX.out.alloc' _).drewN' 1)
    · rw [IRow.ok, List.map_drop]
      exact HC2.out.ext ((HX.out.alloc' _).drewN' 1)
  · rintro e w' ⟨⟨g, cp, rfl, ho⟩, hx⟩
    have HM := Lib.hid (hR.out _ _ (Made.from ⟨⟨g, cp, rfl, ho⟩, hx⟩ ((HX.out.alloc' _).drewN' 1)))
    clear ho hx l1 l2 l3
    go_wp2
    exact HM.out

theorem cut_no (m0 m1 m2 m3 : Int) (A B : Option Addr) (n m c d : Nat) (w : World) (hn : n ≤ 1000) (h : ¬ (0 ≤ m1 ∧ m1 ≤ m2 ∧ m2 ≤ n)) :
    Calls Tryd.prog 30 #[.agg #[.int .i64 m0, .int .i64 m1, .int .i64 m2, .int .i64 m3], .slice A n c, .slice B m d] w (Undone w) := by
  refine of_post fun R hR => ?_
  have HS := fun o => Lib.hid (spans_any m0 m1 m2 m3 A n c (w.alloc o) (by unfold maxLen; omega))
  have hb : decide (0 ≤ m1 ∧ m1 ≤ m2 ∧ m2 ≤ (n : Int)) = false := by simpa using h
  clear h
  go_enter Tryd.func30, Tryd.ntmps30
  go_wp2_with fail
  refine (HS _).out.mono ?_
  rintro e w1 ⟨rfl, hx⟩
  rw [hb]
  have HX := Lib.hid hx
  clear hx
  go_wp2
  exact hR.out _ _ ⟨rfl, ((Ext.refl' w).alloc' _).trans' HX.out⟩

theorem turn_no (m0 m1 m2 m3 : Int) (A B : Option Addr) (n m c d : Nat) (w : World) (hn : n ≤ 1000) (h : ¬ (0 ≤ m1 ∧ m1 ≤ m2 ∧ m2 ≤ n)) :
    Calls Tryd.prog 31 #[.agg #[.int .i64 m0, .int .i64 m1, .int .i64 m2, .int .i64 m3], .slice A n c, .slice B m d] w (Undone w) := by
  refine of_post fun R hR => ?_
  have HS := fun o => Lib.hid (spans_any m0 m1 m2 m3 A n c (w.alloc o) (by unfold maxLen; omega))
  have hb : decide (0 ≤ m1 ∧ m1 ≤ m2 ∧ m2 ≤ (n : Int)) = false := by simpa using h
  clear h
  go_enter Tryd.func31, Tryd.ntmps31
  go_wp2_with fail
  refine (HS _).out.mono ?_
  rintro e w1 ⟨rfl, hx⟩
  rw [hb]
  have HX := Lib.hid hx
  clear hx
  go_wp2
  exact hR.out _ _ ⟨rfl, ((Ext.refl' w).alloc' _).trans' HX.out⟩

theorem perturb_no (m0 m1 m2 m3 : Int) (A B : Option Addr) (n m c d : Nat) (w : World) (hn : n ≤ 1000) (h : ¬ (0 ≤ m1 ∧ m1 < n ∧ 0 ≤ m3 ∧ m3 < 4294967296)) :
    Calls Tryd.prog 22 #[.agg #[.int .i64 m0, .int .i64 m1, .int .i64 m2, .int .i64 m3], .slice A n c, .slice B m d] w (Undone w) := by
  refine of_post fun R hR => ?_
  have hc : m1 < 0 ∨ (0 ≤ m1 ∧ (n : Int) ≤ m1) ∨ (0 ≤ m1 ∧ m1 < n ∧ m3 < 0) ∨ (0 ≤ m1 ∧ m1 < n ∧ 0 ≤ m3 ∧ 4294967296 ≤ m3) := by omega
  clear h
  rcases hc with h1 | ⟨h1, h2⟩ | ⟨h1, h2, h3⟩ | ⟨h1, h2, h3, h4⟩
  all_goals
    go_enter Tryd.func22, Tryd.ntmps22
    go_wp2
    exact hR.out _ _ ⟨rfl, (Ext.refl' w).alloc' _⟩

theorem cut_yes (m0 m3 : Int) (i k : Nat) (A B : Option Addr) (xs : List Int) (n m c b : Nat) (w : World) (hA : CellsAt w A (xs.map I64)) (hx : xs.length = n) (hn : n ≤ 1000) (hc : n ≤ c) (hik : i ≤ k) (hk : k ≤ n) :
    Calls Tryd.prog 30 #[.agg #[.int .i64 m0, .int .i64 i, .int .i64 k, .int .i64 m3], .slice A n c, .slice B m b] w (Made w (xs.take i ++ xs.drop k)) := by
  obtain ⟨zs, hz⟩ : ∃ zs, zs = xs.take i ++ xs.drop k := ⟨_, rfl⟩
  rw [← hz]
  have Hz := Lib.hid hz
  clear hz
  refine of_post fun R hR => ?_
  have HS := fun o => Lib.hid (spans_any m0 i k m3 A n c (w.alloc o) (by unfold maxLen; omega))
  have e1 : (0 : Int) ≤ i := by omega
  have e2 : (i : Int) ≤ k := by omega
  have e3 : (k : Int) ≤ n := by omega
  have e7 : (i : Int) ≤ c := by omega
  have hb : decide (0 ≤ (i : Int) ∧ (i : Int) ≤ k ∧ (k : Int) ≤ (n : Int)) = true := by simpa using And.intro hik hk
  have c1 := hA.cut k c (by simp; omega)
  obtain ⟨A1, h1⟩ : ∃ A1, (if c = k then A else Option.map (fun x => x.add k) A) = A1 := ⟨_, rfl⟩
  rw [h1] at c1
  have HA := Lib.hid hA
  have HC1 := Lib.hid c1
  have Hx := Lib.hid hx
  clear hA c1 hx
  go_enter Tryd.func30, Tryd.ntmps30
  go_wp2_with fail
  refine (HS _).out.mono ?_
  rintro e w1 ⟨rfl, hxt⟩
  rw [hb]
  have q1 := hxt.cell' (p := ⟨w.heap.size, 1, none⟩) (v := .int .i64 i) (by simp)
  have q2 := hxt.cell' (p := ⟨w.heap.size, 2, none⟩) (v := .int .i64 k) (by simp)
  have HX := Lib.hid (((Ext.refl' w).alloc' _).trans' hxt)
  clear hxt HS
  go_wp2_with fail
  refine wp_region_tail 8 (by kernel_rfl) (by kernel_rfl) ?_
  simp only [List.take_succ_cons, List.take_zero, List.drop_succ_cons, List.drop_zero]
  repeat still_step
  refine wpStill_nil ?_
  go_wp2_with fail
  have l1 : (xs.take i).length = i := by rw [List.length_take, Hx.out]; omega
  have l3 : (xs.drop k).length = n - k := by rw [List.length_drop, Hx.out]
  refine (made_made _ [⟨A, c, xs.take i⟩, ⟨A1, c - k, xs.drop k⟩] zs 2 2 _ ?_ ?_ rfl (by omega) (by rw [Hz.out]; simp [flat]) (by rw [Hz.out, List.length_append]; omega)).mono ?_
  · simp only [List.map_cons, List.map_nil, IRow.val, l1, l3]
    exact (cellsAt_new w1 _ _).drew
  · intro r hr
    simp only [List.mem_cons, List.not_mem_nil, or_false] at hr
    rcases hr with rfl | rfl
    · rw [IRow.ok, List.map_take]
      exact (HA.out.take i).ext ((HX.out.alloc' _).drewN' 1)
    · rw [IRow.ok, List.map_drop]
      exact HC1.out.ext ((HX.out.alloc' _).drewN' 1)
  · rintro e w' ⟨⟨g, cp, rfl, ho⟩, hx⟩
    have HM := Lib.hid (hR.out _ _ (Made.from ⟨⟨g, cp, rfl, ho⟩, hx⟩ ((HX.out.alloc' _).drewN' 1)))
    clear ho hx l1 l3
    go_wp2
    exact HM.out
end Go.Proofs.YtaigmkpeaenpmaaDoor
