/- NearRows: from neighbour to neighbour, whichever one goes on to, each is ahead of the one that is left; no numbers at all, and they alone, have none. -/
import Derived.Test.YtokfmfgnjhapiaaNearRowsWalk
import Derived.Test.YtokfmfgnjhapiaaNearLessLaw
namespace Go.Proofs.Ytokfmfgnjhapiaa
open Go.RowKit
set_option linter.unusedVariables false
set_option linter.unusedSimpArgs false

def U8 (x : Nat) : Value := .int .u8 x

theorem few_of_may {xs : List Int} (hn : xs.length ≤ 8) (hm : mayL xs = true) (hr : ∀ x ∈ xs, -9223372036854775808 ≤ x ∧ x ≤ 9223372036854775807) : Few xs := by
  refine ⟨hn, fun v hv => ⟨?_, (hr v hv).2⟩⟩
  unfold mayL negs at hm
  simp only [Bool.and_eq_true, decide_eq_true_eq, Bool.not_eq_true', List.any_eq_false] at hm
  have := hm.2 v hv
  simpa using this

theorem rows_long (A B : Option Addr) (xs : List Int) (n c m d : Nat) (w : World) (hA : IS w A xs) (hx : xs.length = n) (hn : n ≤ maxLen) (hm : m ≤ maxLen) (h : 8 < n ∨ 40 < m ∨ mayL xs = false) :
    Calls Try.prog 10 #[.slice A n c, .slice B m d] w fun e w' => e = .returned (.bool true) ∧ Ext w w' := by
  refine of_post fun R hR => ?_
  have HA := fun W => Lib.hid (awake_near W)
  have HM := fun W (hX : Ext w W) => Lib.hid (ref_may A xs n c W (hA.ext hX) hx hn)
  by_cases h1 : 8 < n
  · have h' : (8 : Int) < n := by omega
    clear h HM hA hx
    go_enter Try.func10, Try.ntmps10
    go_wp2_with fail
    refine (HA _).out.mono ?_
    rintro e w1 ⟨rfl, hx⟩
    have HX := Lib.hid hx
    clear hx
    go_wp2_with fail
    refine (HA _).out.mono ?_
    rintro e w2 ⟨rfl, hx⟩
    have HX2 := Lib.hid (HX.out.trans' hx)
    clear hx
    go_wp2_with fail
    exact hR.out _ _ ⟨rfl, HX2.out⟩
  · have h1' : (n : Int) ≤ 8 := by omega
    by_cases h2 : 40 < m
    · have h' : (40 : Int) < m := by omega
      clear h HM hA hx
      go_enter Try.func10, Try.ntmps10
      go_wp2_with fail
      refine (HA _).out.mono ?_
      rintro e w1 ⟨rfl, hx⟩
      have HX := Lib.hid hx
      clear hx
      go_wp2_with fail
      refine (HA _).out.mono ?_
      rintro e w2 ⟨rfl, hx⟩
      have HX2 := Lib.hid (HX.out.trans' hx)
      clear hx
      go_wp2_with fail
      exact hR.out _ _ ⟨rfl, HX2.out⟩
    · have h2' : (m : Int) ≤ 40 := by omega
      have hf : mayL xs = false := by rcases h with h | h | h; · omega
                                      · omega
                                      · exact h
      rw [hf] at HM
      clear h hf hA hx
      go_enter Try.func10, Try.ntmps10
      go_wp2_with fail
      refine (HA _).out.mono ?_
      rintro e w1 ⟨rfl, hx⟩
      have HX := Lib.hid hx
      clear hx
      go_wp2_with fail
      refine (HM w1 HX.out).out.mono ?_
      rintro e w2 ⟨rfl, rfl⟩
      go_wp2_with fail
      refine (HA _).out.mono ?_
      rintro e w3 ⟨rfl, hx⟩
      have HX2 := Lib.hid (HX.out.trans' hx)
      clear hx
      go_wp2_with fail
      exact hR.out _ _ ⟨rfl, HX2.out⟩

set_option maxHeartbeats 2000000 in
theorem rows_short (A B : Option Addr) (xs : List Int) (ps : List Nat) (n c m d : Nat) (w : World) (hA : IS w A xs) (hB : CellsAt w B (ps.map U8)) (hx : xs.length = n) (hp : ps.length = m) (hp8 : ∀ p ∈ ps, p ≤ 255) (hn : n ≤ 8) (hm : m ≤ 40) (hmay : mayL xs = true)
    (hr : ∀ x ∈ xs, -9223372036854775808 ≤ x ∧ x ≤ 9223372036854775807) :
    Calls Try.prog 10 #[.slice A n c, .slice B m d] w fun e w' => e = .returned (.bool true) ∧ Ext w w' := by
  refine of_post fun R hR => ?_
  have HW := fun W => Lib.hid (awake_near W)
  have HM := fun W (hX : Ext w W) => Lib.hid (ref_may A xs n c W (hA.ext hX) hx (by unfold maxLen; omega))
  rw [hmay] at HM
  have HFEW := Lib.hid (few_of_may (by omega) hmay hr)
  have HA := Lib.hid hA
  have HB := Lib.hid hB
  have Hx := Lib.hid hx
  have Hp := Lib.hid hp
  have HP8 := Lib.hid hp8
  have hn' : (n : Int) ≤ 8 := by omega
  have hm' : (m : Int) ≤ 40 := by omega
  obtain ⟨i0, hi0, hz0, hz1, hz2⟩ := info_parts infoInt
  have hb1 : (0 + n) * 8 ≤ 140737488355328 := by omega
  have hb2 : 0 + n ≤ maxLen := by unfold maxLen; omega
  clear hA hB hx hp hr hmay hp8
  go_enter Try.func10, Try.ntmps10
  go_wp2_with fail
  refine (HW _).out.mono ?_
  rintro e w1 ⟨rfl, hx1⟩
  have HX1 := Lib.hid hx1
  clear hx1 HW
  go_wp2_with fail
  refine (HM w1 HX1.out).out.mono ?_
  rintro e w2 ⟨rfl, rfl⟩
  have HC := Lib.hid (CellsAt.ext (cells_of_IS HA.out) (HX1.out.alloc' (.cells #[] 3)))
  have HO := Lib.hid (own_empty w2 3 1)
  clear HM
  go_wp2_with (at_builtin; go_must (refine wpList_append_src _ rfl _ _ 24 rfl w2.heap.size 3 i0 (.int .i64 0) 1 8 Try.underlying24 hi0 hz0 hz1 hz2 rfl (by decide) (.slice (some ⟨w2.heap.size, 0, none⟩) 0 0) 0 [] rfl HO.out A n c (xs.map I64) rfl (by simp [Hx.out]) HC.out (oneCells_I64 xs) hb1 hb2 (by simp) ?_); intro u' w3 hO1 hG1 hB1; simp only [Nat.zero_add, List.nil_append] at hO1; have hx3 : Ext w2 w3 := (ext_grown_from ((Ext.refl' w2).alloc' _) hG1 (fun k e => by simp [Value.ownBlock] at e; omega)); obtain ⟨r, hru, hrx, hrf⟩ := fresh_of_own hO1 Hx.out; subst hru; have hrv : r.val = .slice r.A n r.c := (by unfold IRow.val; rw [hrx, Hx.out]); rw [hrv]; have HX3 := Lib.hid (HX1.out.trans' hx3); have HR0 : Hid (r.xs.length = n ∧ Few r.xs ∧ Fresh 0 w3 r) := Lib.hid ⟨by rw [hrx, Hx.out], by rw [hrx]; exact HFEW.out, hrf.ok, hrf.le, hrf.cap, fun b _ => Nat.zero_le b, hrf.soft⟩; clear hO1 hG1 hB1 hx3 hrx hrf hrv HO HC)
  go_loopw [5, 35] (fun nv iv wr => ∃ (k : Nat) (r : IRow) (rn : Nat), nv = .slice r.A rn r.c ∧ iv = .int .i64 k ∧ k ≤ m ∧ Hid (Ext w wr) ∧ Hid (r.xs.length = rn ∧ Few r.xs ∧ Fresh 0 wr r)) (fun _ iv _ => m - (intOf iv).toNat)
  case atStart => exact ⟨0, r, n, rfl, rfl, Nat.zero_le _, HX3, HR0⟩
  case round =>
    obtain ⟨k, r, rn, rfl, rfl, hk, HXW, HR1⟩ := hrel
    by_cases hlt : k < m
    · obtain ⟨b, o, hAe, hc0⟩ := HB.out.at_ (k := k) (by simpa [Hp.out] using hlt)
      subst hAe
      simp only [List.getElem_map, U8] at hc0
      have hkp : k < ps.length := by rw [Hp.out]; exact hlt
      have hx8 := HP8.out _ (List.getElem_mem hkp)
      have hc1 := HXW.out.cell' hc0
      clear hc0
      generalize ps[k] = x at *
      have hTL := told_len_le r.xs
      have hrn8 : rn ≤ 8 := by rw [← HR1.out.1]; exact HR1.out.2.1.1
      have HCT := Lib.hid (count_any r.A r.xs rn r.c wr (IS_of_cells HR1.out.2.2.ok) HR1.out.1 (by rw [← HR1.out.1]; exact HR1.out.2.2.le) HR1.out.2.2.cap HR1.out.2.1.range (by omega))
      have HTOLD := Lib.hid (fun h => told_nil (xs := r.xs) h)
      obtain ⟨N, hN⟩ : ∃ N, (toldL r.xs).length = N := ⟨_, rfl⟩
      rw [hN] at hTL HCT
      have HNN := Lib.hid hN
      clear hN
      go_wp2_with fail
      refine HCT.out.mono ?_
      rintro e w5 ⟨rfl, hx5⟩
      have HX5 := Lib.hid hx5
      have HXX := Lib.hid (HXW.out.trans' hx5)
      clear hx5 HCT
      by_cases h0 : N = 0
      · have hr0 : rn = 0 := by
          have h1 := HTOLD.out (List.eq_nil_of_length_eq_zero (by rw [HNN.out]; exact h0))
          rw [HR1.out.1, HR1.out.2.1.may] at h1
          simpa using h1
        subst h0
        subst hr0
        go_wp2_with fail
        exact hR.out _ _ ⟨rfl, HXX.out⟩
      · have hz : ((N : Int) == 0) = false := by simp; omega
        obtain ⟨q, hq⟩ : ∃ q, x % N = q := ⟨_, rfl⟩
        have hqN : q < N := by rw [← hq]; exact Nat.mod_lt _ (by omega)
        have hq1 : (x : Int).tmod (N : Nat) = (q : Nat) := by rw [← Int.ofNat_tmod, hq]
        have hN0 : (0 : Int) < N := by omega
        have hx8' : (x : Int) ≤ 255 := by omega
        clear hq
        go_wp2_with fail
        refine (all_made r.A rn r.c _).mono ?_
        rintro e w6 ⟨rfl, rfl⟩
        go_wp2_with fail
        obtain ⟨W0, hW0⟩ : ∃ W0, (((w5.alloc (.cells #[.int .i64 q] 3)).alloc (.cells #[.int .i64 0] 3)).alloc (.cells #[.slice none 0 0] 24)).alloc (.cells #[.slice r.A rn r.c] 24) = W0 := ⟨_, rfl⟩
        have hS0 : RSt w5 w5.heap.size (w5.heap.size + 1) (w5.heap.size + 1 + 1) (w5.heap.size + 4) (w5.heap.size + 1 + 1 + 1) r.A rn r.c q [] (fun _ => False) W0 := by
          rw [← hW0]
          have n0 := new_cell w5 (.int .i64 q) 3
          have n1 := new_cell (w5.alloc (.cells #[.int .i64 q] 3)) (.int .i64 0) 3
          have n2 := new_cell ((w5.alloc (.cells #[.int .i64 q] 3)).alloc (.cells #[.int .i64 0] 3)) (.slice none 0 0) 24
          have n3 := new_cell (((w5.alloc (.cells #[.int .i64 q] 3)).alloc (.cells #[.int .i64 0] 3)).alloc (.cells #[.slice none 0 0] 24)) (.slice r.A rn r.c) 24
          have f1 := new_soft (w5.alloc (.cells #[.int .i64 q] 3)) (.int .i64 0) 3
          have f2 := new_soft ((w5.alloc (.cells #[.int .i64 q] 3)).alloc (.cells #[.int .i64 0] 3)) (.slice none 0 0) 24
          have z0 : (w5.alloc (.cells #[.int .i64 q] 3)).heap.size = w5.heap.size + 1 := by simp
          have z1 : ((w5.alloc (.cells #[.int .i64 q] 3)).alloc (.cells #[.int .i64 0] 3)).heap.size = w5.heap.size + 1 + 1 := by simp
          have z2 : (((w5.alloc (.cells #[.int .i64 q] 3)).alloc (.cells #[.int .i64 0] 3)).alloc (.cells #[.slice none 0 0] 24)).heap.size = w5.heap.size + 1 + 1 + 1 := by simp
          rw [z0] at n1 f1
          rw [z1] at n2 f2
          rw [z2] at n3
          exact ⟨((((Ext.refl' w5).alloc' _).alloc' _).alloc' _).alloc' _, ((((Ext.refl' _).alloc' _).alloc' _).alloc' _).cell' n0, (((Ext.refl' _).alloc' _).alloc' _).cell' n1,
            (World.frozen?_of_block ((((Ext.refl' _).alloc' _).alloc' _).block _ (by rw [z1]; simp))).trans f1, (World.frozen?_of_block (((Ext.refl' _).alloc' _).block _ (by rw [z2]; simp))).trans f2,
            ⟨_, ((Ext.refl' _).alloc' _).cell' n2⟩, n3, fun b hb => hb.elim, by simp, Nat.zero_le _⟩
        rw [hW0]
        clear hW0
        have HALLC := Lib.hid (all_any 27 #[.pointer (some ⟨w5.heap.size + 1 + 1, 0, none⟩), .pointer (some ⟨w5.heap.size + 1, 0, none⟩), .pointer (some ⟨w5.heap.size, 0, none⟩)]
          (RSt w5 w5.heap.size (w5.heap.size + 1) (w5.heap.size + 1 + 1) (w5.heap.size + 4) (w5.heap.size + 1 + 1 + 1) r.A rn r.c q) (REnd w5 (w5.heap.size + 1 + 1)) (RSt.steady (by omega) (by omega) (by omega) (by omega) (by omega)) (enters_of Try.func27 (by kernel_rfl) rfl) (w5.heap.size + 1 + 1 + 1) r.A r.xs rn r.c HR1.out.1 (by rw [← HR1.out.1]; exact HR1.out.2.2.le) HR1.out.2.2.cap HR1.out.2.1.range
          (fun pre T W h => ⟨h.box, IS_of_cells (HR1.out.2.2.on (HX5.out.trans' h.ext)).ok⟩)
          (fun pre T W e h hp hf hb hlt => rows1 w5 w5.heap.size (w5.heap.size + 1) (w5.heap.size + 1 + 1) (w5.heap.size + 4) (w5.heap.size + 1 + 1 + 1) r.A rn r.c q (by omega) (by omega) (by omega) (by omega) (by omega) (by omega) (by omega) (by omega) (by omega) (by omega) (by omega) (by omega) (by omega) pre T W e h hf hb)
          W0 hS0)
        refine HALLC.out.mono ?_
        have HFIN : ∀ (e : Ending) W, APost (RSt w5 w5.heap.size (w5.heap.size + 1) (w5.heap.size + 1 + 1) (w5.heap.size + 4) (w5.heap.size + 1 + 1 + 1) r.A rn r.c q) (REnd w5 (w5.heap.size + 1 + 1)) (toldL r.xs) e W →
            (∃ u, e = .returned u) ∧ Ext w5 W ∧ ∃ e' : IRow, W.cell? ⟨w5.heap.size + 1 + 1, 0, none⟩ = some e'.val ∧ Fresh 0 W e' ∧ e'.xs ∈ toldL r.xs := by
          rintro e W ⟨⟨u, rfl⟩, h⟩
          refine ⟨⟨u, rfl⟩, ?_⟩
          rcases h with ⟨T', h, _⟩ | ⟨pre, hp, h⟩
          · have := h.few; rw [HNN.out] at this; omega
          · obtain ⟨e', h1, h2, h3⟩ := h.next
            exact ⟨h.ext, e', h1, h2, hp.subset (List.mem_of_getLast? h3)⟩
        rintro e W h
        obtain ⟨⟨u, rfl⟩, hxW, e', ce, hfe, hme⟩ := HFIN e W h
        have hev : e'.val = .slice e'.A e'.xs.length e'.c := rfl
        rw [hev] at ce
        have HXF := Lib.hid (HXX.out.trans' hxW)
        have HRW := Lib.hid (HR1.out.2.2.on (HX5.out.trans' hxW))
        have hef : e'.xs.length ≤ 8 := (HR1.out.2.1.told hme).1
        have HLS := Lib.hid (less_any e'.A r.A e'.xs r.xs e'.c r.c W (IS_of_cells hfe.ok) (IS_of_cells HRW.out.ok) (Nat.le_trans hfe.le hfe.cap) (Nat.le_trans HRW.out.le HRW.out.cap))
        rw [told_less hme, HR1.out.1] at HLS
        have HIS := fun nq => Lib.hid (refis_any r.A e'.A r.xs e'.xs rn r.c e'.xs.length e'.c (W.drewN nq) (IS_of_cells HRW.out.ok) (IS_of_cells hfe.ok) HR1.out.1 rfl (by rw [← HR1.out.1]; exact HRW.out.le) HRW.out.cap (by unfold maxLen; omega) HR1.out.2.1.range)
        rw [decide_eq_true hme] at HIS
        have HNEXT : Hid (Few e'.xs ∧ Fresh 0 W e') := Lib.hid ⟨HR1.out.2.1.told hme, hfe⟩
        clear h HFIN HALLC hS0 hxW hev hfe hme
        obtain ⟨en, hen⟩ : ∃ en, e'.xs.length = en := ⟨_, rfl⟩
        have HEN := Lib.hid hen
        rw [hen] at ce hef HLS HIS
        clear hen
        go_wp2_with fail
        refine HLS.out.mono ?_
        rintro u2 w7 ⟨rfl, nq, rfl⟩
        go_wp2_with fail
        refine (HIS nq).out.mono ?_
        rintro u2 w8 ⟨rfl, hx8⟩
        have HX8 := Lib.hid (((Ext.refl' W).drewN' nq).trans' hx8)
        have ce8 := hx8.cell' ce
        clear hx8
        go_wp2_with fail
        go_roundw
        case rel => exact ⟨k + 1, e', en, rfl, by go_num, by omega, Lib.hid (HXF.out.trans' HX8.out), Lib.hid ⟨HEN.out, HNEXT.out.1, HNEXT.out.2.on HX8.out⟩⟩
        case measure => simp [intOf]; omega
    · obtain rfl : k = m := by omega
      go_wp2_with fail
      exact hR.out _ _ ⟨rfl, HXW.out⟩

theorem near_rows (A : Option Addr) (xs : List Int) (c : Nat) (B : Option Addr) (ps : List Nat) (d : Nat) (w : World) (hA : IS w A xs) (hc : xs.length ≤ c) (hcm : c ≤ maxLen) (hr : ∀ n ∈ xs, -9223372036854775808 ≤ n ∧ n ≤ 9223372036854775807)
    (hB : CellsAt w B (ps.map U8)) (hd : ps.length ≤ d) (hdm : d ≤ maxLen) (hp : ∀ p ∈ ps, p ≤ 255) :
    Calls Try.prog 10 #[.slice A xs.length c, .slice B ps.length d] w fun e w' => e = .returned (.bool true) ∧ Ext w w' := by
  by_cases h : 8 < xs.length ∨ 40 < ps.length ∨ mayL xs = false
  · exact rows_long A B xs _ c _ d w hA rfl (Nat.le_trans hc hcm) (Nat.le_trans hd hdm) h
  · have hm : mayL xs = true := by
      cases hm : mayL xs with
      | true => rfl
      | false => exact absurd (.inr (.inr hm)) h
    exact rows_short A B xs ps _ c _ d w hA hB rfl rfl hp (by omega) (by omega) hm hr
end Go.Proofs.Ytokfmfgnjhapiaa
