/- slices.Grow, slices.Concat at []int, and the program's made. -/
import Derived.Test.YtaigmkpeaenpmaaDoorOwn
namespace Go.Proofs.YtaigmkpeaenpmaaDoor
set_option maxRecDepth 100000
open Go.RowKit
set_option linter.unusedVariables false
set_option linter.unusedSimpArgs false

theorem infoInt : (Tryd.prog.info? 3).map (fun i => (i.zero, i.size, i.bytes)) = some (some (.int .i64 0), 1, 8) := by kernel_rfl

theorem grow_nil (n : Nat) (w : World) (hn : n * 8 ≤ 140737488355328) :
    Calls Tryd.prog 69 #[.slice none 0 0, .int .i64 n] w fun e w' =>
      (∃ v, e = .returned v ∧ w'.ownsRow w.heap.size 3 1 v 0 [] ∧ ((v = .slice none 0 0) ∨ ∃ g c, v = .slice (some ⟨g, 0, none⟩) 0 c)) ∧ Ext w w' := by
  refine of_post fun R hR => ?_
  obtain ⟨i0, hi, hz0, hz1, hz2⟩ := info_parts infoInt
  by_cases h0 : n = 0
  · subst h0
    go_enter Tryd.func69, Tryd.ntmps69
    go_wp2
    exact hR.out _ _ ⟨⟨_, rfl, World.ownsRow_nil _ _ _ _, .inl rfl⟩, Ext.refl' w⟩
  · have hp : 0 < n := by omega
    clear h0
    go_enter Tryd.func69, Tryd.ntmps69
    go_wp2_with (at_builtin; refine wpList_append_zeros_nil _ rfl _ _ 36 3 rfl 3 i0 (.int .i64 0) (k := .i64) (kx := .i64) Tryd.underlying36 Tryd.underlying3 hi hz0 (by rw [hz1]; rfl) (by omega) n hp (by rw [hz2]; exact hn) (by omega) rfl rfl ?_; intro cap cur h1 h2 h3; rw [hz1] at h3; have H3 := Lib.hid h3; clear h3; unfold maxLen at h2)
    refine hR.out _ _ ⟨⟨_, rfl, World.ownsRow_made (w := w.drew) cur cap (Nat.le_refl _) h2 H3.out, .inr ⟨_, _, rfl⟩⟩, ?_⟩
    exact (((Ext.refl' w).drewN' 1).alloc' _)
/-- A slice value of ints, by its address, its capacity, its numbers. -/
structure IRow where
  A : Option Addr
  c : Nat
  xs : List Int
def IRow.val (r : IRow) : Value := .slice r.A r.xs.length r.c
def IRow.ok (w : World) (r : IRow) : Prop := CellsAt w r.A (r.xs.map I64)
def flat (l : List IRow) : List Int := l.flatMap (·.xs)

theorem flat_succ {l : List IRow} {k : Nat} (hk : k < l.length) : flat (l.take (k + 1)) = flat (l.take k) ++ l[k].xs := by
  rw [List.take_succ_eq_append_getElem hk, flat, List.flatMap_append]; simp [flat]
theorem flat_le (l : List IRow) (k : Nat) : (flat (l.take k)).length ≤ (flat l).length := by
  conv => rhs; rw [← List.take_append_drop k l, flat, List.flatMap_append, List.length_append]
  exact Nat.le_add_right _ _

set_option maxHeartbeats 400000 in
theorem concat_any (A : Option Addr) (rows : List IRow) (n c : Nat) (w : World) (h : CellsAt w A (rows.map IRow.val)) (hr : ∀ r ∈ rows, r.ok w) (hn : rows.length = n) (hnm : n ≤ 1000000) (hb : (flat rows).length * 8 ≤ 140737488355328) :
    Calls Tryd.prog 52 #[.slice A n c] w fun e w' =>
      (∃ v, e = .returned v ∧ w'.ownsRow w.heap.size 3 1 v (flat rows).length ((flat rows).map I64)) ∧ Ext w w' := by
  refine of_post fun R hR => ?_
  obtain ⟨i0, hi, hz0, hz1, hz2⟩ := info_parts infoInt
  have Hn := Lib.hid hn
  have Hc := Lib.hid h
  have Hr := Lib.hid hr
  clear hn h hr
  have hfl := flat_le rows
  have Hfl := Lib.hid hfl
  clear hfl
  go_enter Tryd.func52, Tryd.ntmps52
  go_wp2
  go_loop [3, 5, 11] (fun s _ i => ∃ k : Nat, k ≤ n ∧ i = .int .i64 k ∧ s = .int .i64 (flat (rows.take k)).length) (fun _ _ i => n - (intOf i).toNat)
  case atStart => exact ⟨0, Nat.zero_le _, rfl, rfl⟩
  case round =>
    obtain ⟨k, hk, rfl, rfl⟩ := hrel
    by_cases hlt : k < n
    · have hkl : k < rows.length := by rw [Hn.out]; exact hlt
      obtain ⟨b, o, rfl, hc⟩ := Hc.out.at_ (k := k) (by simpa using hkl)
      have hs := flat_succ hkl
      have hle := Hfl.out (k + 1)
      rw [hs, List.length_append] at hle
      rw [List.getElem_map] at hc
      generalize rows[k] = r at *
      obtain ⟨A', c', xs⟩ := r
      simp only [IRow.val] at hc hs hle
      have HS := Lib.hid hs
      clear hs
      generalize hm : (flat (rows.take k)).length = m at *
      have Hm := Lib.hid hm
      clear hm
      generalize hx : xs.length = x at *
      have Hx := Lib.hid hx
      clear hx
      go_wp2
      go_round
      case rel => exact ⟨k + 1, by omega, by go_num, by rw [HS.out, List.length_append, Hm.out, Hx.out]; go_num⟩
      case measure => simp [intOf]; omega
    · obtain rfl : k = n := by omega
      have hfull : rows.take k = rows := List.take_of_length_le (by rw [Hn.out]; exact Nat.le_refl _)
      rw [hfull]
      clear hfull hlt
      go_wp2_with (go_at_call 69; refine (grow_nil _ _ hb).mono ?_; rintro e w' ⟨⟨v, rfl, hv, hv'⟩, hx⟩)
      clear hv'
      go_loopw [6, 8, 27] (fun s _ i wr => ∃ (j : Nat) (u : Value), j ≤ k ∧ i = .int .i64 j ∧ u = s ∧ Hid (wr.ownsRow w.heap.size 3 1 u (flat (rows.take j)).length ((flat (rows.take j)).map I64)) ∧ Hid (Ext w wr)) (fun _ _ i _ => k - (intOf i).toNat)
      case atStart => exact ⟨0, v, Nat.zero_le _, rfl, rfl, Lib.hid hv, Lib.hid hx⟩
      case round =>
        obtain ⟨j, u, hj, rfl, rfl, HO, HX⟩ := hrel
        by_cases hlt : j < k
        · have hkl : j < rows.length := by rw [Hn.out]; exact hlt
          obtain ⟨b, o, rfl, hc0⟩ := Hc.out.at_ (k := j) (by simpa using hkl)
          have hc := HX.out.cell' hc0
          clear hc0
          have hs := flat_succ hkl
          have hle := Hfl.out (j + 1)
          have hrow := (Hr.out rows[j] (List.getElem_mem hkl))
          rw [hs, List.length_append] at hle
          rw [List.getElem_map] at hc
          generalize rows[j] = r at *
          obtain ⟨A', c', xs⟩ := r
          simp only [IRow.val] at hc hs hle
          have hrw := hrow.ext HX.out
          have HRW := Lib.hid hrw
          simp only [IRow.ok] at hrow
          clear hrw hrow
          have HS := Lib.hid hs
          clear hs
          have hb1 : ((flat (rows.take j)).length + xs.length) * 8 ≤ 140737488355328 := by omega
          have hb2 : (flat (rows.take j)).length + xs.length ≤ maxLen := by unfold maxLen; omega
          go_wp2_with (at_builtin; go_must (refine wpList_append_src _ rfl _ _ 36 rfl w.heap.size 3 i0 (.int .i64 0) 1 8 Tryd.underlying36 hi hz0 hz1 hz2 rfl (by decide) u (flat (rows.take j)).length _ rfl HO.out A' xs.length c' (xs.map I64) rfl (by simp) HRW.out (oneCells_I64 xs) hb1 hb2 HX.out.size ?_); intro u' w1 hO1 hG1 _; have HO1 := Lib.hid hO1; have HG1 := Lib.hid hG1; clear hO1 hG1)
          go_roundw
          case rel =>
            refine ⟨j + 1, u', by omega, by go_num, rfl, Lib.hid ?_, Lib.hid (ext_grown_from HX.out HG1.out fun g hg => (HO.out.lt g hg).1)⟩
            rw [HS.out, List.map_append, List.length_append]
            exact HO1.out
          case measure => simp [intOf]; omega
        · obtain rfl : j = k := by omega
          have hfull : rows.take j = rows := List.take_of_length_le (by rw [Hn.out]; exact Nat.le_refl _)
          rw [hfull] at HO
          clear hfull hlt
          go_wp2
          exact hR.out _ _ ⟨⟨u, rfl, HO.out⟩, HX.out⟩
set_option maxHeartbeats 400000 in
theorem made_any (A : Option Addr) (rows : List IRow) (n c : Nat) (w : World) (h : CellsAt w A (rows.map IRow.val)) (hr : ∀ r ∈ rows, r.ok w) (hn : rows.length = n) (hnm : n ≤ 1000000) (hb : (flat rows).length * 8 ≤ 140737488355328) :
    Calls Tryd.prog 38 #[.slice A n c] w fun e w' =>
      (∃ g cp, e = .returned (.slice (some ⟨g, 0, none⟩) (flat rows).length cp) ∧ w'.ownsRow w.heap.size 3 1 (.slice (some ⟨g, 0, none⟩) (flat rows).length cp) (flat rows).length ((flat rows).map I64)) ∧ Ext w w' := by
  refine of_post fun R hR => ?_
  obtain ⟨i0, hi, hz0, hz1, hz2⟩ := info_parts infoInt
  have H1 := fun o => Lib.hid (concat_any A rows n c (w.alloc o) (h.ext ((Ext.refl' w).alloc' _)) (fun r hrm => (hr r hrm).ext ((Ext.refl' w).alloc' _)) hn hnm hb)
  clear h hr hn
  have hb1 : (0 + (flat rows).length) * 8 ≤ 140737488355328 := by omega
  have hb2 : 0 + (flat rows).length ≤ maxLen := by unfold maxLen; omega
  generalize flat rows = xs at *
  go_enter Tryd.func38, Tryd.ntmps38
  go_wp2_with fail
  refine (H1 _).out.mono ?_
  rintro e w1 ⟨⟨v, rfl, hv⟩, hx⟩
  obtain ⟨A', c', rfl⟩ := own_form hv
  have hcs := cellsAt_of_own hv
  have ho := own_ext (own_empty w 3 1) hx
  have hsz : w.heap.size ≤ w1.heap.size := by have := hx.size; simp at this; omega
  have HX := Lib.hid hx
  clear hx hv
  go_wp2_with (at_builtin; go_must (refine wpList_append_src _ rfl _ _ 36 rfl w.heap.size 3 i0 (.int .i64 0) 1 8 Tryd.underlying36 hi hz0 hz1 hz2 rfl (by decide) (.slice (some ⟨w.heap.size, 0, none⟩) 0 0) 0 [] rfl ho A' xs.length c' (xs.map I64) rfl (by simp) hcs (oneCells_I64 xs) hb1 hb2 hsz ?_); intro u' w2 hO1 hG1 hB1; simp only [Nat.zero_add, List.nil_append] at hO1; have HO1 := Lib.hid hO1; have HG1 := Lib.hid hG1; have HB1 := Lib.hid hB1; clear hO1 hG1 hB1 hcs ho)
  obtain ⟨g0, hg0⟩ : ∃ g0, u'.ownBlock = some g0 := by rcases HB1.out with h | h <;> exact ⟨_, h⟩
  obtain ⟨cp, rfl⟩ := own_some HO1.out hg0
  refine hR.out _ _ ⟨⟨g0, cp, rfl, HO1.out⟩, ext_grown_from (((Ext.refl' w).alloc' _).trans' HX.out) HG1.out ?_⟩
  intro k hk
  simp [Value.ownBlock] at hk
  omega
end Go.Proofs.YtaigmkpeaenpmaaDoor
