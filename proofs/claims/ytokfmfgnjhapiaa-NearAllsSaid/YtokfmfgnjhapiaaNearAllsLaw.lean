/- NearAlls: the neighbours of any numbers, each once, in order, and how many there are, are the document's; as far as it is asked. -/
import Derived.Test.YtokfmfgnjhapiaaNearAllsWalk
import Derived.Test.YtokfmfgnjhapiaaMutTurns
import Derived.Deep.DrawnRows
namespace Go.Proofs.Ytokfmfgnjhapiaa
open Go.RowKit
attribute [local go_sem] min2_i max2_i max_two_i min_two_i
attribute [local go_sem ↓] Go.wp_at_zero Go.wp_at_succ
set_option linter.unusedVariables false
set_option linter.unusedSimpArgs false

theorem Ext.drew1 {a w : World} (h : Ext a w) : Ext a w.drew := ⟨h.os, h.tape, h.output, h.size, h.block⟩

theorem alls_long (A : Option Addr) (n c : Nat) (x : Int) (w : World) (hn : n ≤ maxLen) (h : 14 < n) :
    Calls Try.prog 5 #[.slice A n c, .int .u8 x] w fun e w' => e = .returned (.bool true) ∧ Ext w w' := by
  refine of_post fun R hR => ?_
  have HA := fun W => Lib.hid (awake_near W)
  have h' : (14 : Int) < n := by omega
  go_enter Try.func5, Try.ntmps5
  go_wp2_with fail
  refine (HA _).out.mono ?_
  rintro e w1 ⟨rfl, hx⟩
  have HX := Lib.hid (((Ext.refl' w).alloc' _).trans' hx)
  clear hx
  go_wp2_with fail
  refine (HA _).out.mono ?_
  rintro e w2 ⟨rfl, hx⟩
  have HX2 := Lib.hid (HX.out.trans' hx)
  clear hx
  go_wp2_with fail
  exact hR.out _ _ ⟨rfl, HX2.out⟩

set_option maxHeartbeats 1000000 in
theorem alls_short (A : Option Addr) (xs : List Int) (n c : Nat) (x : Nat) (w : World) (hA : IS w A xs) (hx : xs.length = n) (hc : n ≤ c) (hcm : c ≤ maxLen) (hn : n ≤ 14) (hx8 : x ≤ 255)
    (hr : ∀ x ∈ xs, -9223372036854775808 ≤ x ∧ x ≤ 9223372036854775807) :
    Calls Try.prog 5 #[.slice A n c, .int .u8 x] w fun e w' => e = .returned (.bool true) ∧ Ext w w' := by
  refine of_post fun R hR => ?_
  have HW := fun W => Lib.hid (awake_near W)
  have hTL := told_len_le xs
  have HALL := fun W (hX : Ext w W) => Lib.hid (refall_any A xs n c W (hA.ext hX) hx hc hcm hr)
  have HCT := fun W (hX : Ext w W) => Lib.hid (count_any A xs n c W (hA.ext hX) hx hc hcm hr (by omega))
  have HA := Lib.hid hA
  have Hx := Lib.hid hx
  have Hr := Lib.hid hr
  have hn' : (n : Int) ≤ 14 := by omega
  clear hA hx hr
  go_enter Try.func5, Try.ntmps5
  go_wp2_with fail
  refine (HW _).out.mono ?_
  rintro e w1 ⟨rfl, hx1⟩
  have HX1 := Lib.hid (((Ext.refl' w).alloc' _).trans' hx1)
  have cm1 := hx1.cell' (new_cell w (.int .u8 x) 5)
  clear hx1
  go_wp2_with fail
  refine (HALL w1 HX1.out).out.mono ?_
  rintro e w2 ⟨v, rfl, rows, ⟨A1, c1, rfl, hc1, hcm1, hcell, hfr⟩, hmm, hx2⟩
  have hN : rows.length = (toldL xs).length := by rw [← hmm, List.length_map]
  have HC := Lib.hid hcell
  have HF := Lib.hid hfr
  have HM := Lib.hid hmm
  have HX2 := Lib.hid (HX1.out.trans' hx2)
  have cm2 := hx2.cell' cm1
  clear hcell hfr hmm hx2 HALL HW cm1
  have hNs : rows.length ≤ 20000 := by omega
  generalize hNn : rows.length = N at *
  have HN := Lib.hid hNn
  have HTN := Lib.hid hN
  clear hNn hN
  go_wp2_with fail
  refine (all_made A n c _).mono ?_
  rintro e w3 ⟨rfl, rfl⟩
  go_wp2_with fail
  obtain ⟨w4, hw4⟩ : ∃ w4, w2.alloc (.cells #[.slice A1 N c1] 41) = w4 := ⟨_, rfl⟩
  have hx24 : Ext w2 w4 := by rw [← hw4]; exact (Ext.refl' w2).alloc' _
  have cw4 : w4.cell? ⟨w2.heap.size, 0, none⟩ = some (.slice A1 N c1) := by rw [← hw4]; exact new_cell _ _ _
  have cm4 := hx24.cell' cm2
  have s4 : w4.heap.size = w2.heap.size + 1 := by rw [← hw4]; simp
  have HX4 := Lib.hid (HX2.out.trans' hx24)
  rw [hw4]
  obtain ⟨W0, hW0⟩ : ∃ W0, ((w4.alloc (.cells #[.int .i64 0] 3)).alloc (.cells #[.bool true] 4)).alloc (.cells #[.slice A n c] 24) = W0 := ⟨_, rfl⟩
  have hS0 : ASt w4 (w2.heap.size + 1 + 1) (w2.heap.size + 1) (w2.heap.size + 4) (w2.heap.size + 1 + 1 + 1) A n c x [] (fun _ => False) W0 := by
    rw [← hW0]
    have n1 := new_cell w4 (.int .i64 0) 3
    have n2 := new_cell (w4.alloc (.cells #[.int .i64 0] 3)) (.bool true) 4
    have n3 := new_cell ((w4.alloc (.cells #[.int .i64 0] 3)).alloc (.cells #[.bool true] 4)) (.slice A n c) 24
    have z1 : (w4.alloc (.cells #[.int .i64 0] 3)).heap.size = w2.heap.size + 1 + 1 := by simp [s4]
    have z2 : ((w4.alloc (.cells #[.int .i64 0] 3)).alloc (.cells #[.bool true] 4)).heap.size = w2.heap.size + 1 + 1 + 1 := by simp [s4]
    have f1 : (w4.alloc (.cells #[.int .i64 0] 3)).frozen? ⟨w2.heap.size + 1, 0, none⟩ = false := by rw [← s4]; simp
    have f2 : ((w4.alloc (.cells #[.int .i64 0] 3)).alloc (.cells #[.bool true] 4)).frozen? ⟨w2.heap.size + 1 + 1, 0, none⟩ = false := by rw [← z1]; simp
    rw [s4] at n1
    rw [z1] at n2
    rw [z2] at n3
    exact ⟨(((Ext.refl' w4).alloc' _).alloc' _).alloc' _, ((Ext.refl' _).alloc' _).cell' n2, (((Ext.refl' _).alloc' _).alloc' _).cell' n1,
      (World.frozen?_of_block (((Ext.refl' _).alloc' _).block _ (by rw [z2]; simp))).trans f2, (World.frozen?_of_block ((((Ext.refl' _).alloc' _).alloc' _).block _ (by rw [z1]; simp))).trans f1, n3, fun b hb => hb.elim, by simp [s4], .inl rfl⟩
  rw [hW0]
  clear hw4 hW0
  have HALLC := Lib.hid (all_any 20 #[.pointer (some ⟨w2.heap.size + 1 + 1, 0, none⟩), .pointer (some ⟨w2.heap.size + 1, 0, none⟩), .pointer (some ⟨w2.heap.size, 0, none⟩), .pointer (some ⟨w.heap.size, 0, none⟩)]
    (ASt w4 (w2.heap.size + 1 + 1) (w2.heap.size + 1) (w2.heap.size + 4) (w2.heap.size + 1 + 1 + 1) A n c x) (AEnd w4 (w2.heap.size + 1 + 1) (w2.heap.size + 1) x) (ASt.steady (by omega) (by omega) (by omega) (by omega)) (enters_of Try.func20 (by kernel_rfl) rfl) (w2.heap.size + 1 + 1 + 1) A xs n c Hx.out hc hcm Hr.out
    (fun pre T W h => ⟨h.box, HA.out.ext (HX4.out.trans' h.ext)⟩)
    (fun pre T W e h hp hf hb hlt => alls1 w4 (w2.heap.size + 1 + 1) (w2.heap.size + 1) w2.heap.size w.heap.size (w2.heap.size + 4) (w2.heap.size + 1 + 1 + 1) A n c x hx8 (by omega) (by omega) (by omega) (by omega) (by omega) (by omega) (by omega) (by omega) A1 rows N c1 (toldL xs) HN.out hNs hc1 hcm1 (HC.out.ext hx24) (fun r hr => (HF.out r hr).on hx24) HM.out cw4 cm4 pre T W e h hp hf)
    W0 hS0)
  refine HALLC.out.mono ?_
  have HFIN : ∀ (e : Ending) W, APost (ASt w4 (w2.heap.size + 1 + 1) (w2.heap.size + 1) (w2.heap.size + 4) (w2.heap.size + 1 + 1 + 1) A n c x) (AEnd w4 (w2.heap.size + 1 + 1) (w2.heap.size + 1) x) (toldL xs) e W →
      (∃ u, e = .returned u) ∧ Ext w4 W ∧ W.cell? ⟨w2.heap.size + 1 + 1, 0, none⟩ = some (.bool true) ∧ ∃ k : Nat, W.cell? ⟨w2.heap.size + 1, 0, none⟩ = some (.int .i64 k) ∧ minI N (maxI x 1) = k := by
    rintro e W ⟨⟨u, rfl⟩, h⟩
    refine ⟨⟨u, rfl⟩, ?_⟩
    rcases h with ⟨T', h, _⟩ | ⟨pre, hp, h⟩
    · refine ⟨h.ext, h.ok, _, h.num, ?_⟩
      rw [← HTN.out]
      have := h.few
      rcases h.few with h1 | h1
      · have h2 : N = 0 := by rw [HTN.out, h1]; rfl
        unfold minI maxI; split <;> split <;> omega
      · rw [← HTN.out] at h1
        unfold minI maxI; split <;> split <;> omega
    · refine ⟨h.ext, h.ok, _, h.num, ?_⟩
      have h1 := h.few
      have h2 : pre.length ≠ 0 := fun q => h.one (List.eq_nil_of_length_eq_zero q)
      have h3 := h.was
      have h4 := hp.length_le
      rw [← HTN.out] at h4
      unfold minI maxI; split <;> split <;> omega
  rintro e W h
  obtain ⟨⟨u, rfl⟩, hxW, ck, k, cn, hk⟩ := HFIN e W h
  clear h HFIN HALLC hS0
  have cw := hxW.cell' cw4
  have cm := hxW.cell' cm4
  have HXW := Lib.hid (HX4.out.trans' hxW)
  have hz : ((k : Int) == k) = true := by simp
  have hwx : IntKind.i64.wrap (x : Int) = x := by rw [IntKind.wrap_i64]; omega
  have hz2 : ((N : Int) == N) = true := by simp
  rw [← HTN.out] at HCT
  clear hxW cw4 cm4 cm2
  go_wp2_with fail
  go_region_held3 (fun X => X.cell? ⟨w2.heap.size + 1 + 1, 0, none⟩ = some (.bool true) ∧ X.cell? ⟨w2.heap.size + 1, 0, none⟩ = some (.int .i64 k) ∧ X.cell? ⟨w2.heap.size, 0, none⟩ = some (.slice A1 N c1) ∧ X.cell? ⟨w.heap.size, 0, none⟩ = some (.int .u8 x)) (first | go_keep | exact ⟨q1, q2, q3, q4⟩)
    ((go_at_call 21; (with_reducible refine (HCT _ (HXW.out.drew1)).out.mono ?_); rintro u t5 ⟨rfl, hx5⟩; have HX5 := Lib.hid ((HXW.out.drew1).trans' hx5); have q1 := hx5.cell' ck; have q2 := hx5.cell' cn; have q3 := hx5.cell' cw; have q4 := hx5.cell' cm; clear hx5))
  go_wp2_with fail
  exact hR.out _ _ ⟨rfl, HX5.out⟩

theorem near_alls (A : Option Addr) (xs : List Int) (c : Nat) (x : Nat) (w : World) (hA : IS w A xs) (hc : xs.length ≤ c) (hcm : c ≤ maxLen) (hr : ∀ n ∈ xs, -9223372036854775808 ≤ n ∧ n ≤ 9223372036854775807) (hx : x ≤ 255) :
    Calls Try.prog 5 #[.slice A xs.length c, .int .u8 x] w fun e w' => e = .returned (.bool true) ∧ Ext w w' := by
  by_cases h : 14 < xs.length
  · exact alls_long A _ c x w (Nat.le_trans hc hcm) h
  · exact alls_short A xs _ c x w hA rfl hc hcm (by omega) hx hr
end Go.Proofs.Ytokfmfgnjhapiaa
