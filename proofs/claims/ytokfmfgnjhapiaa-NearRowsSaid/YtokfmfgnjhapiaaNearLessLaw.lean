/- NearLess: each neighbour of as many numbers as may have some is ahead of them, and rises from the one told ahead; it is theirs alone. -/
import Derived.Test.YtokfmfgnjhapiaaNearLessWalk
namespace Go.Proofs.Ytokfmfgnjhapiaa
open Go.RowKit
set_option linter.unusedVariables false
set_option linter.unusedSimpArgs false

theorem told_nil {xs : List Int} (h : toldL xs = []) : xs.length = 0 ∨ mayL xs = false := by
  cases hm : mayL xs with
  | false => exact .inr rfl
  | true =>
    refine .inl ?_
    rcases Nat.eq_zero_or_pos xs.length with h0 | h0
    · exact h0
    · have h1 : (xs.take 0 ++ xs.drop (0 + 1 + 0)) ∈ toldL xs := by
        rw [← told_ref hm, mem_setOf, List.mem_append]
        refine .inl (List.mem_flatMap.2 ⟨0, List.mem_range.2 h0, List.mem_map.2 ⟨0, List.mem_range.2 (by omega), rfl⟩⟩)
      rw [h] at h1; cases h1

theorem new_soft (w : World) (v : Value) (t : TypeId) : (w.alloc (.cells #[v] t)).frozen? ⟨w.heap.size, 0, none⟩ = false := by simp

theorem lessN_long (A : Option Addr) (n c : Nat) (x : Int) (w : World) (hn : n ≤ maxLen) (h : 140 < n) :
    Calls Try.prog 7 #[.slice A n c, .int .u8 x] w fun e w' => e = .returned (.bool true) ∧ Ext w w' := by
  refine of_post fun R hR => ?_
  have HA := fun W => Lib.hid (awake_near W)
  have h' : (140 : Int) < n := by omega
  have q1 := new_cell w (.slice A n c) 24
  go_enter Try.func7, Try.ntmps7
  go_wp2_with fail
  refine (HA _).out.mono ?_
  rintro e w1 ⟨rfl, hx⟩
  have q2 := hx.cell' (((Ext.refl' _).alloc' _).cell' q1)
  have HX := Lib.hid ((((Ext.refl' w).alloc' _).alloc' _).trans' hx)
  clear hx
  go_wp2_with fail
  refine (HA _).out.mono ?_
  rintro e w2 ⟨rfl, hx⟩
  have HX2 := Lib.hid (HX.out.trans' hx)
  clear hx
  go_wp2_with fail
  exact hR.out _ _ ⟨rfl, HX2.out⟩

set_option maxHeartbeats 1000000 in
theorem lessN_short (A : Option Addr) (xs : List Int) (n c : Nat) (x : Nat) (w : World) (hA : IS w A xs) (hx : xs.length = n) (hc : n ≤ c) (hcm : c ≤ maxLen) (hn : n ≤ 140) (hx8 : x ≤ 255)
    (hr : ∀ x ∈ xs, -9223372036854775808 ≤ x ∧ x ≤ 9223372036854775807) :
    Calls Try.prog 7 #[.slice A n c, .int .u8 x] w fun e w' => e = .returned (.bool true) ∧ Ext w w' := by
  refine of_post fun R hR => ?_
  have HW := fun W => Lib.hid (awake_near W)
  have hTL := told_len_le xs
  have HA := Lib.hid hA
  have Hx := Lib.hid hx
  have Hr := Lib.hid hr
  have hn' : (n : Int) ≤ 140 := by omega
  have HMAY := fun W (hX : Ext w W) => Lib.hid (ref_may A xs n c W (hA.ext hX) hx (by unfold maxLen; omega))
  clear hA hx hr
  have q1 := new_cell w (.slice A n c) 24
  have q0 := new_cell (w.alloc (.cells #[.slice A n c] 24)) (.int .u8 x) 5
  rw [World.size_alloc] at q0
  go_enter Try.func7, Try.ntmps7
  go_wp2_with fail
  refine (HW _).out.mono ?_
  rintro e w4 ⟨rfl, hx1⟩
  have HX4 := Lib.hid ((((Ext.refl' w).alloc' _).alloc' _).trans' hx1)
  have cl4 := hx1.cell' (((Ext.refl' _).alloc' _).cell' q1)
  have cm4 := hx1.cell' q0
  have hb4 := lt_of_cell cl4
  have hb5 := lt_of_cell cm4
  simp only at hb4 hb5
  have cal := fun o1 o2 o3 => ((((Ext.refl' w4).alloc' o1).alloc' o2).alloc' o3).cell' cl4
  clear hx1 HW q1 q0
  go_wp2_with fail
  refine (all_made A n c _).mono ?_
  rintro e w3 ⟨rfl, rfl⟩
  go_wp2_with fail
  obtain ⟨W0, hW0⟩ : ∃ W0, (((w4.alloc (.cells #[.slice none 0 0] 24)).alloc (.cells #[.int .i64 0] 3)).alloc (.cells #[.bool true] 4)).alloc (.cells #[.slice A n c] 24) = W0 := ⟨_, rfl⟩
  have hS0 : LSt w4 (w4.heap.size + 1 + 1) (w4.heap.size + 1) w4.heap.size (w4.heap.size + 4) (w4.heap.size + 1 + 1 + 1) A n c [] (fun _ => False) W0 := by
    rw [← hW0]
    have n0 := new_cell w4 (.slice none 0 0) 24
    have n1 := new_cell (w4.alloc (.cells #[.slice none 0 0] 24)) (.int .i64 0) 3
    have n2 := new_cell ((w4.alloc (.cells #[.slice none 0 0] 24)).alloc (.cells #[.int .i64 0] 3)) (.bool true) 4
    have n3 := new_cell (((w4.alloc (.cells #[.slice none 0 0] 24)).alloc (.cells #[.int .i64 0] 3)).alloc (.cells #[.bool true] 4)) (.slice A n c) 24
    have z0 : (w4.alloc (.cells #[.slice none 0 0] 24)).heap.size = w4.heap.size + 1 := by simp
    have z1 : ((w4.alloc (.cells #[.slice none 0 0] 24)).alloc (.cells #[.int .i64 0] 3)).heap.size = w4.heap.size + 1 + 1 := by simp
    have z2 : (((w4.alloc (.cells #[.slice none 0 0] 24)).alloc (.cells #[.int .i64 0] 3)).alloc (.cells #[.bool true] 4)).heap.size = w4.heap.size + 1 + 1 + 1 := by simp
    have f0 : (w4.alloc (.cells #[.slice none 0 0] 24)).frozen? ⟨w4.heap.size, 0, none⟩ = false := by simp
    have f1 : ((w4.alloc (.cells #[.slice none 0 0] 24)).alloc (.cells #[.int .i64 0] 3)).frozen? ⟨w4.heap.size + 1, 0, none⟩ = false := by rw [← z0]; simp
    have f2 : (((w4.alloc (.cells #[.slice none 0 0] 24)).alloc (.cells #[.int .i64 0] 3)).alloc (.cells #[.bool true] 4)).frozen? ⟨w4.heap.size + 1 + 1, 0, none⟩ = false := by
      have h := new_soft ((w4.alloc (.cells #[.slice none 0 0] 24)).alloc (.cells #[.int .i64 0] 3)) (.bool true) 4
      rwa [z1] at h
    rw [z0] at n1
    rw [z1] at n2
    rw [z2] at n3
    exact ⟨((((Ext.refl' w4).alloc' _).alloc' _).alloc' _).alloc' _, ((Ext.refl' _).alloc' _).cell' n2, (((Ext.refl' _).alloc' _).alloc' _).cell' n1,
      (World.frozen?_of_block (((Ext.refl' _).alloc' _).block _ (by rw [z2]; simp))).trans f2, (World.frozen?_of_block ((((Ext.refl' _).alloc' _).alloc' _).block _ (by rw [z1]; simp))).trans f1,
      (World.frozen?_of_block (((((Ext.refl' _).alloc' _).alloc' _).alloc' _).block _ (by rw [z0]; simp))).trans f0,
      ⟨⟨none, 0, []⟩, ((((Ext.refl' _).alloc' _).alloc' _).alloc' _).cell' n0, ⟨CellsAt.nil _ _, Nat.le_refl _, Nat.zero_le _, fun _ _ => Nat.zero_le _, fun b hb => by simp [blk] at hb⟩, fun b hb => by simp [blk] at hb, fun h => absurd rfl h⟩,
      n3, fun b hb => hb.elim, by simp⟩
  rw [hW0]
  clear hW0
  have HALLC := Lib.hid (all_any 24 #[.pointer (some ⟨w4.heap.size + 1 + 1, 0, none⟩), .pointer (some ⟨w.heap.size, 0, none⟩), .pointer (some ⟨w4.heap.size + 1, 0, none⟩), .pointer (some ⟨w4.heap.size, 0, none⟩), .pointer (some ⟨w.heap.size + 1, 0, none⟩)]
    (LSt w4 (w4.heap.size + 1 + 1) (w4.heap.size + 1) w4.heap.size (w4.heap.size + 4) (w4.heap.size + 1 + 1 + 1) A n c) (LEnd w4 (w4.heap.size + 1 + 1) (w4.heap.size + 1)) (LSt.steady (by omega) (by omega) (by omega) (by omega) (by omega)) (enters_of Try.func24 (by kernel_rfl) rfl) (w4.heap.size + 1 + 1 + 1) A xs n c Hx.out hc hcm Hr.out
    (fun pre T W h => ⟨h.box, HA.out.ext (HX4.out.trans' h.ext)⟩)
    (fun pre T W e h hp hf hb hlt => less1 w4 (w4.heap.size + 1 + 1) w.heap.size (w4.heap.size + 1) w4.heap.size (w.heap.size + 1) (w4.heap.size + 4) (w4.heap.size + 1 + 1 + 1) A n c x xs hx8 (by omega) (by omega) (by omega) (by omega) (by omega) (by omega) (by omega) (by omega) (by omega) (by omega) (by omega) (by omega) (by omega) (by omega) (HA.out.ext HX4.out) Hx.out (by unfold maxLen; omega) hn cl4 cm4 pre T W e h hp hf hb hlt)
    W0 hS0)
  refine HALLC.out.mono ?_
  have HFIN : ∀ (e : Ending) W, APost (LSt w4 (w4.heap.size + 1 + 1) (w4.heap.size + 1) w4.heap.size (w4.heap.size + 4) (w4.heap.size + 1 + 1 + 1) A n c) (LEnd w4 (w4.heap.size + 1 + 1) (w4.heap.size + 1)) (toldL xs) e W →
      (∃ u, e = .returned u) ∧ Ext w4 W ∧ W.cell? ⟨w4.heap.size + 1 + 1, 0, none⟩ = some (.bool true) ∧ ∃ k : Nat, W.cell? ⟨w4.heap.size + 1, 0, none⟩ = some (.int .i64 k) ∧ (k = 0 → n = 0 ∨ mayL xs = false) := by
    rintro e W ⟨⟨u, rfl⟩, h⟩
    refine ⟨⟨u, rfl⟩, ?_⟩
    rcases h with ⟨T', h, _⟩ | ⟨pre, hp, h⟩
    · refine ⟨h.ext, h.ok, _, h.num, fun h0 => ?_⟩
      have := told_nil (List.eq_nil_of_length_eq_zero h0)
      rwa [Hx.out] at this
    · exact ⟨h.ext, h.ok, _, h.num, fun h0 => absurd (List.eq_nil_of_length_eq_zero h0) h.one⟩
  rintro e W h
  obtain ⟨⟨u, rfl⟩, hxW, ck, k, cn, hk⟩ := HFIN e W h
  clear h HFIN HALLC hS0
  have cl := hxW.cell' cl4
  have HXW := Lib.hid (HX4.out.trans' hxW)
  have HK := Lib.hid hk
  have HM := HMAY W HXW.out
  clear hxW cl4 cm4 hk HMAY
  by_cases hk0 : k = 0
  · have HKK := Lib.hid (HK.out hk0)
    have hkd : ¬ (0 : Int) < k := by omega
    clear HK
    subst hk0
    by_cases hn0 : n = 0
    · subst hn0
      go_wp2_with fail
      exact hR.out _ _ ⟨rfl, HXW.out⟩
    · have hz : ((n : Int) == 0) = false := by simp; omega
      rw [HKK.out.resolve_left hn0] at HM
      go_wp2_with fail
      refine HM.out.mono ?_
      rintro e w5 ⟨rfl, rfl⟩
      go_wp2_with fail
      exact hR.out _ _ ⟨rfl, HXW.out⟩
  · have hkd : (0 : Int) < k := by omega
    go_wp2_with fail
    exact hR.out _ _ ⟨rfl, HXW.out⟩

theorem near_less (A : Option Addr) (xs : List Int) (c : Nat) (x : Nat) (w : World) (hA : IS w A xs) (hc : xs.length ≤ c) (hcm : c ≤ maxLen) (hr : ∀ n ∈ xs, -9223372036854775808 ≤ n ∧ n ≤ 9223372036854775807) (hx : x ≤ 255) :
    Calls Try.prog 7 #[.slice A xs.length c, .int .u8 x] w fun e w' => e = .returned (.bool true) ∧ Ext w w' := by
  by_cases h : 140 < xs.length
  · exact lessN_long A _ c x w (Nat.le_trans hc hcm) h
  · exact lessN_short A xs _ c x w hA rfl hc hcm (by omega) hx hr
end Go.Proofs.Ytokfmfgnjhapiaa
