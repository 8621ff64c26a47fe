/- The program's mutations, one by one. -/
import Derived.Test.YtaigmkpeaenpmaaDoorConcat
import Derived.Test.YtaigmkpeaenpmaaDoorRegion
namespace Go.Proofs.YtaigmkpeaenpmaaDoor
set_option maxRecDepth 100000
open Go.RowKit

/-- What the program's mutations hand back: new numbers, their address not nil. -/
def Made (w : World) (zs : List Int) (e : Ending) (w' : World) : Prop :=
  (∃ g cp, e = .returned (.slice (some ⟨g, 0, none⟩) zs.length cp) ∧ w'.ownsRow w.heap.size 3 1 (.slice (some ⟨g, 0, none⟩) zs.length cp) zs.length (zs.map I64)) ∧ Ext w w'
theorem Made.from {w w1 w' : World} {zs : List Int} {e : Ending} (h : Made w1 zs e w') (hx : Ext w w1) : Made w zs e w' :=
  let ⟨⟨g, cp, he, ho⟩, hx'⟩ := h
  ⟨⟨g, cp, he, own_mono ho hx.size⟩, hx.trans' hx'⟩
theorem made_made (A : Option Addr) (rows : List IRow) (zs : List Int) (n c : Nat) (w : World) (h : CellsAt w A (rows.map IRow.val)) (hr : ∀ r ∈ rows, r.ok w) (hn : rows.length = n) (hnm : n ≤ 1000000) (hz : flat rows = zs) (hb : zs.length ≤ 10000) :
    Calls Tryd.prog 38 #[.slice A n c] w (Made w zs) := by
  subst hz
  exact made_any A rows n c w h hr hn hnm (by omega)
set_option linter.unusedVariables false
set_option linter.unusedSimpArgs false

theorem spans_any (m0 m1 m2 m3 : Int) (A : Option Addr) (n c : Nat) (w : World) (hn : n ≤ maxLen) :
    Calls Tryd.prog 39 #[.agg #[.int .i64 m0, .int .i64 m1, .int .i64 m2, .int .i64 m3], .slice A n c] w fun e w' =>
      e = .returned (.bool (decide (0 ≤ m1 ∧ m1 ≤ m2 ∧ m2 ≤ n))) ∧ Ext w w' := by
  refine of_post fun R hR => ?_
  unfold maxLen at hn
  go_enter Tryd.func39, Tryd.ntmps39
  go_wp2
  all_goals exact hR.out _ _ ⟨ret_b rfl (by simp; try omega), (Ext.refl' w).alloc' _⟩

theorem splice_yes (m0 m3 : Int) (i k : Nat) (A B : Option Addr) (xs ys : List Int) (n m c d : Nat) (w : World) (hA : CellsAt w A (xs.map I64)) (hB : CellsAt w B (ys.map I64))
    (hx : xs.length = n) (hy : ys.length = m) (hn : n ≤ 1000) (hm : m ≤ 1000) (hc : n ≤ c) (hd : m ≤ d) (hi : i ≤ n) (hk : k ≤ m) :
    Calls Tryd.prog 24 #[.agg #[.int .i64 m0, .int .i64 i, .int .i64 k, .int .i64 m3], .slice A n c, .slice B m d] w (Made w (xs.take i ++ ys.drop k)) := by
  obtain ⟨zs, hz⟩ : ∃ zs, zs = xs.take i ++ ys.drop k := ⟨_, rfl⟩
  rw [← hz]
  have Hz := Lib.hid hz
  clear hz
  refine of_post fun R hR => ?_
  have HA := Lib.hid hA
  have HB := Lib.hid hB
  have Hx := Lib.hid hx
  have Hy := Lib.hid hy
  clear hA hB hx hy
  have e1 : (0 : Int) ≤ i := by omega
  have e2 : (0 : Int) ≤ k := by omega
  have e3 : (i : Int) ≤ n := by omega
  have e4 : (k : Int) ≤ m := by omega
  have e5 : (i : Int) ≤ c := by omega
  go_enter Tryd.func24, Tryd.ntmps24
  go_wp2
  refine wp_region_tail 8 (by kernel_rfl) (by kernel_rfl) ?_
  simp only [List.take_succ_cons, List.take_zero, List.drop_succ_cons, List.drop_zero]
  repeat still_step
  refine wpStill_nil ?_
  go_wp2_with fail
  · have hdk : d = k := by assumption
    have hmk : m = k := by omega
    have l1 : (xs.take i).length = i := by rw [List.length_take, Hx.out]; omega
    have l2 : (ys.drop k).length = m - k := by rw [List.length_drop, Hy.out]
    have hnil : ys.drop k = [] := List.eq_nil_of_length_eq_zero (by omega)
    refine (made_made _ [⟨A, c, xs.take i⟩, ⟨B, 0, ys.drop k⟩] zs 2 2 _ ?_ ?_ rfl (by omega) (by rw [Hz.out]; simp [flat]) (by rw [Hz.out, List.length_append]; omega)).mono ?_
    · simp only [List.map_cons, List.map_nil, IRow.val, l1, l2]
      exact (cellsAt_new2 w _ _ _).drew
    · intro r hr
      simp only [List.mem_cons, List.not_mem_nil, or_false] at hr
      rcases hr with rfl | rfl
      · rw [IRow.ok, List.map_take]
        exact (HA.out.take i).ext ((((Ext.refl' w).alloc' _).alloc' _).drewN' 1)
      · rw [IRow.ok, hnil]
        exact CellsAt.nil _ _
    · rintro e w' ⟨⟨g, cp, rfl, ho⟩, hx⟩
      have HM := Lib.hid (hR.out _ _ (Made.from ⟨⟨g, cp, rfl, ho⟩, hx⟩ ((((Ext.refl' w).alloc' _).alloc' _).drewN' 1)))
      clear ho hx l1 l2
      go_wp2
      exact HM.out
  · have hdk : ¬ d = k := by assumption
    have l1 : (xs.take i).length = i := by rw [List.length_take, Hx.out]; omega
    have l2 : (ys.drop k).length = m - k := by rw [List.length_drop, Hy.out]
    refine (made_made _ [⟨A, c, xs.take i⟩, ⟨B.map (·.add k), d - k, ys.drop k⟩] zs 2 2 _ ?_ ?_ rfl (by omega) (by rw [Hz.out]; simp [flat]) (by rw [Hz.out, List.length_append]; omega)).mono ?_
    · simp only [List.map_cons, List.map_nil, IRow.val, l1, l2]
      exact (cellsAt_new2 w _ _ _).drew
    · intro r hr
      simp only [List.mem_cons, List.not_mem_nil, or_false] at hr
      rcases hr with rfl | rfl
      · rw [IRow.ok, List.map_take]
        exact (HA.out.take i).ext ((((Ext.refl' w).alloc' _).alloc' _).drewN' 1)
      · rw [IRow.ok, List.map_drop]
        exact (HB.out.drop k).ext ((((Ext.refl' w).alloc' _).alloc' _).drewN' 1)
    · rintro e w' ⟨⟨g, cp, rfl, ho⟩, hx⟩
      have HM := Lib.hid (hR.out _ _ (Made.from ⟨⟨g, cp, rfl, ho⟩, hx⟩ ((((Ext.refl' w).alloc' _).alloc' _).drewN' 1)))
      clear ho hx l1 l2
      go_wp2
      exact HM.out
/-- Not done: nil. -/
def Undone (w : World) (e : Ending) (w' : World) : Prop := e = .returned (.slice none 0 0) ∧ Ext w w'

theorem splice_no (m0 m1 m2 m3 : Int) (A B : Option Addr) (n m c d : Nat) (w : World) (hn : n ≤ 1000) (hm : m ≤ 1000) (h : ¬ (0 ≤ m1 ∧ m1 ≤ n ∧ 0 ≤ m2 ∧ m2 ≤ m)) :
    Calls Tryd.prog 24 #[.agg #[.int .i64 m0, .int .i64 m1, .int .i64 m2, .int .i64 m3], .slice A n c, .slice B m d] w (Undone w) := by
  refine of_post fun R hR => ?_
  have hc : m1 < 0 ∨ (0 ≤ m1 ∧ (n : Int) < m1) ∨ (0 ≤ m1 ∧ m1 ≤ n ∧ m2 < 0) ∨ (0 ≤ m1 ∧ m1 ≤ n ∧ 0 ≤ m2 ∧ (m : Int) < m2) := by omega
  clear h
  rcases hc with h1 | ⟨h1, h2⟩ | ⟨h1, h2, h3⟩ | ⟨h1, h2, h3, h4⟩
  all_goals
    go_enter Tryd.func24, Tryd.ntmps24
    go_wp2
    exact hR.out _ _ ⟨rfl, (Ext.refl' w).alloc' _⟩

theorem cross_any (m0 m1 m2 m3 : Int) (A B : Option Addr) (n m c d : Nat) (w : World) (Ψ : World → Ending → World → Prop)
    (h : ∀ o, Calls Tryd.prog 24 #[.agg #[.int .i64 m0, .int .i64 m1, .int .i64 m1, .int .i64 m3], .slice A n c, .slice B m d] (w.alloc o) (Ψ (w.alloc o)))
    (hret : ∀ w1 e w', Ψ w1 e w' → ∃ v, e = .returned v) :
    Calls Tryd.prog 26 #[.agg #[.int .i64 m0, .int .i64 m1, .int .i64 m2, .int .i64 m3], .slice A n c, .slice B m d] w (fun e w' => ∃ o, Ψ (w.alloc o) e w') := by
  refine of_post fun R hR => ?_
  have H := fun o => Lib.hid (h o)
  have HR := Lib.hid hret
  clear h hret
  go_enter Tryd.func26, Tryd.ntmps26
  go_wp2_with fail
  refine (H _).out.mono ?_
  intro e w' hp
  obtain ⟨v, rfl⟩ := HR.out _ _ _ hp
  have HP := Lib.hid (hR.out _ _ ⟨_, hp⟩)
  clear hp
  go_wp2_with fail
  exact HP.out

theorem dup_no (m0 m1 m2 m3 : Int) (A B : Option Addr) (n m c d : Nat) (w : World) (hn : n ≤ 1000) (h : ¬ (0 ≤ m1 ∧ m1 ≤ m2 ∧ m2 ≤ n ∧ 0 ≤ m3 ∧ m3 ≤ n)) :
    Calls Tryd.prog 28 #[.agg #[.int .i64 m0, .int .i64 m1, .int .i64 m2, .int .i64 m3], .slice A n c, .slice B m d] w (Undone w) := by
  refine of_post fun R hR => ?_
  have hs := fun o => spans_any m0 m1 m2 m3 A n c (w.alloc o) (by unfold maxLen; omega)
  have HS := fun o => Lib.hid (hs o)
  clear hs
  by_cases h1 : 0 ≤ m1 ∧ m1 ≤ m2 ∧ m2 ≤ n
  · have hc : m3 < 0 ∨ (0 ≤ m3 ∧ (n : Int) < m3) := by omega
    have hb : decide (0 ≤ m1 ∧ m1 ≤ m2 ∧ m2 ≤ (n : Int)) = true := by simpa using h1
    clear h h1
    rcases hc with h1 | ⟨h1, h2⟩
    all_goals
      go_enter Tryd.func28, Tryd.ntmps28
      go_wp2_with fail
      refine (HS _).out.mono ?_
      rintro e w1 ⟨rfl, hx⟩
      rw [hb]
      have hcell := hx.cell' (p := ⟨w.heap.size, 3, none⟩) (v := .int .i64 m3) (by simp)
      have HX := Lib.hid hx
      clear hx
      go_wp2
      exact hR.out _ _ ⟨rfl, ((Ext.refl' w).alloc' _).trans' HX.out⟩
  · have hb : decide (0 ≤ m1 ∧ m1 ≤ m2 ∧ m2 ≤ (n : Int)) = false := by simpa using h1
    clear h h1
    go_enter Tryd.func28, Tryd.ntmps28
    go_wp2_with fail
    refine (HS _).out.mono ?_
    rintro e w1 ⟨rfl, hx⟩
    rw [hb]
    have HX := Lib.hid hx
    clear hx
    go_wp2
    exact hR.out _ _ ⟨rfl, ((Ext.refl' w).alloc' _).trans' HX.out⟩
end Go.Proofs.YtaigmkpeaenpmaaDoor
