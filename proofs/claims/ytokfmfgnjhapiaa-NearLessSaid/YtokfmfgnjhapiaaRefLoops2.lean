/- The document's Do: splice and cross. -/
import Derived.Test.YtokfmfgnjhapiaaRefLoops
namespace Go.Proofs.Ytokfmfgnjhapiaa
open Go.RowKit
set_option linter.unusedVariables false
set_option linter.unusedSimpArgs false

set_option maxRecDepth 100000 in
set_option maxHeartbeats 1000000 in
theorem ref_do1 (i : Nat) (k : Nat) (d : Int) (A B : Option Addr) (xs ys : List Int) (n m c b : Nat) (w : World) (hA : IS w A xs) (hB : IS w B ys) (hx : xs.length = n) (hy : ys.length = m) (hn : n ≤ 1000) (hm : m ≤ 1000) (hin : i ≤ n) (hkm : k ≤ m) :
    Calls Try.prog 15 #[.agg #[.int .i64 1, .int .i64 i, (.int .i64 k), .int .i64 d], .slice A n c, .slice B m b] w (RefDone w (gather (fun j => [xs[j]?.getD 0]) i ++ gather (fun j => [ys[k + j]?.getD 0]) (m - k))) := by
  obtain ⟨g, hg⟩ : ∃ g : Nat → List Int, g = fun j => [xs[j]?.getD 0] := ⟨_, rfl⟩
  obtain ⟨g2, hg2⟩ : ∃ g2 : Nat → List Int, g2 = fun j => [ys[k + j]?.getD 0] := ⟨_, rfl⟩
  rw [← hg, ← hg2]
  have Hg := Lib.hid hg
  have Hg2 := Lib.hid hg2
  have Hgl := Lib.hid (gather_one_length g (fun j => by rw [hg]; simp))
  have Hgl2 := Lib.hid (gather_one_length g2 (fun j => by rw [hg2]; simp))
  clear hg hg2
  refine of_post fun R hR => ?_
  have hmay : mayP 1 i (k : Int) d n m := by unfold mayP; omega
  have HM := fun o => Lib.hid (may_any 1 i (k : Int) d n m (w.alloc o) hn hm)
  have hb : decide (mayP 1 i (k : Int) d n m) = true := by simpa using hmay
  have HA := Lib.hid hA
  have HB := Lib.hid hB
  have Hx := Lib.hid hx
  have Hy := Lib.hid hy
  clear hA hmay hx hB hy
  go_enter Try.func15, Try.ntmps15
  go_wp2_with fail
  refine (HM _).out.mono ?_
  rintro e w1 ⟨rfl, hxt⟩
  rw [hb]
  have q0 := hxt.cell' (p := ⟨w.heap.size, 0, none⟩) (v := .int .i64 1) (by simp)
  have q1 := hxt.cell' (p := ⟨w.heap.size, 1, none⟩) (v := .int .i64 i) (by simp)
  have q2 := hxt.cell' (p := ⟨w.heap.size, 2, none⟩) (v := (.int .i64 k)) (by simp)
  have HX := Lib.hid (((Ext.refl' w).alloc' _).trans' hxt)
  clear hxt HM hb
  go_wp2_with fail
  go_loopw [8, 11] (fun u t wr => ∃ k : Nat, k ≤ i ∧ t = .int .i64 k ∧ Hid (OwnI wr w1.heap.size u (gather g k)) ∧ Hid (Ext w1 wr)) (fun _ t _ => i - (intOf t).toNat)
  case atStart => exact ⟨0, Nat.zero_le _, rfl, Lib.hid (OwnI.nil _ _), Lib.hid (Ext.refl' _)⟩
  case round =>
    obtain ⟨j, hj, rfl, HO, HXr⟩ := hrel
    have p1 := HXr.out.cell' q1
    by_cases hlt : j < i
    · obtain ⟨bb, o, rfl, hc⟩ := HA.out (by intro h; have := Hx.out; simp [h] at this; omega)
      have c0 := (HX.out.trans' HXr.out).cell' (hc j (by rw [Hx.out]; omega))
      have hgk : g j = [xs[j]?.getD 0] := by rw [Hg.out]
      have hl : (gather g j).length ≤ 1000000 := by have := Hgl.out j; omega
      have HGS := Lib.hid (gather_succ g j)
      have hjn : j < n := by omega
      clear hc
      generalize xs[j]?.getD 0 = x at *
      have HGK := Lib.hid hgk
      clear hgk
      go_wp2_with (at_builtin; go_must (refine wpList_append_I rfl _ _ rfl _ _ rfl HO HXr x rfl hl ?_); intro u' w2 HO2 HX2)
      go_roundw
      case rel => exact ⟨j + 1, by omega, by go_num, by rw [HGS.out, HGK.out]; exact HO2, HX2⟩
      case measure => simp [intOf]; omega
    · obtain rfl : i = j := by omega
      clear hlt
      go_wp2_with fail
      obtain ⟨wo, rfl⟩ : ∃ wo : World, wo = wr := ⟨_, rfl⟩
      go_loopw [8, 12] (fun u t wr => ∃ k' : Nat, k + k' ≤ m ∧ t = .int .i64 (k + k' : Nat) ∧ Hid (OwnI wr w1.heap.size u (gather g i ++ gather g2 k')) ∧ Hid (Ext w1 wr)) (fun _ t _ => m - (intOf t).toNat)
      case atStart => exact ⟨0, hkm, rfl, by simpa [gather_zero] using HO, HXr⟩
      case round =>
        obtain ⟨p, hp, rfl, HO1, HX1⟩ := hrel
        by_cases hlt : k + p < m
        · obtain ⟨bb, o, rfl, hc⟩ := HB.out (by intro h; have := Hy.out; simp [h] at this; omega)
          have c0 := (HX.out.trans' HX1.out).cell' (hc (k + p) (by rw [Hy.out]; omega))
          have hgk : g2 p = [ys[k + p]?.getD 0] := by rw [Hg2.out]
          have hl : (gather g i ++ gather g2 p).length ≤ 1000000 := by have := Hgl.out i; have := Hgl2.out p; rw [List.length_append]; omega
          have HGS := Lib.hid (gather_succ g2 p)
          clear hc
          generalize ys[k + p]?.getD 0 = x at *
          have HGK := Lib.hid hgk
          have HL := Lib.hid hl
          clear hgk hl
          go_wp2_with (at_builtin; go_must (refine wpList_append_I rfl _ _ rfl _ _ rfl HO1 HX1 x rfl HL.out ?_); intro u' w2 HO2 HX2)
          go_roundw
          case rel => exact ⟨p + 1, by omega, by go_num, by rw [HGS.out, HGK.out, ← List.append_assoc]; exact HO2, HX2⟩
          case measure => simp [intOf]; omega
        · obtain rfl : p = m - k := by omega
          clear hlt
          go_wp2
          exact hR.out _ _ ⟨_, rfl, own_mono HO1.out HX.out.size, HX.out.trans' HX1.out⟩

set_option maxRecDepth 100000 in
set_option maxHeartbeats 1000000 in
theorem ref_do2 (i : Nat) (m2 : Int) (d : Int) (A B : Option Addr) (xs ys : List Int) (n m c b : Nat) (w : World) (hA : IS w A xs) (hB : IS w B ys) (hx : xs.length = n) (hy : ys.length = m) (hn : n ≤ 1000) (hm : m ≤ 1000) (hin : i ≤ n) (hkm : i ≤ m) :
    Calls Try.prog 15 #[.agg #[.int .i64 2, .int .i64 i, (.int .i64 m2), .int .i64 d], .slice A n c, .slice B m b] w (RefDone w (gather (fun j => [xs[j]?.getD 0]) i ++ gather (fun j => [ys[i + j]?.getD 0]) (m - i))) := by
  obtain ⟨g, hg⟩ : ∃ g : Nat → List Int, g = fun j => [xs[j]?.getD 0] := ⟨_, rfl⟩
  obtain ⟨g2, hg2⟩ : ∃ g2 : Nat → List Int, g2 = fun j => [ys[i + j]?.getD 0] := ⟨_, rfl⟩
  rw [← hg, ← hg2]
  have Hg := Lib.hid hg
  have Hg2 := Lib.hid hg2
  have Hgl := Lib.hid (gather_one_length g (fun j => by rw [hg]; simp))
  have Hgl2 := Lib.hid (gather_one_length g2 (fun j => by rw [hg2]; simp))
  clear hg hg2
  refine of_post fun R hR => ?_
  have hmay : mayP 2 i m2 d n m := by unfold mayP; omega
  have HM := fun o => Lib.hid (may_any 2 i m2 d n m (w.alloc o) hn hm)
  have hb : decide (mayP 2 i m2 d n m) = true := by simpa using hmay
  have HA := Lib.hid hA
  have HB := Lib.hid hB
  have Hx := Lib.hid hx
  have Hy := Lib.hid hy
  clear hA hmay hx hB hy
  go_enter Try.func15, Try.ntmps15
  go_wp2_with fail
  refine (HM _).out.mono ?_
  rintro e w1 ⟨rfl, hxt⟩
  rw [hb]
  have q0 := hxt.cell' (p := ⟨w.heap.size, 0, none⟩) (v := .int .i64 2) (by simp)
  have q1 := hxt.cell' (p := ⟨w.heap.size, 1, none⟩) (v := .int .i64 i) (by simp)
  have q2 := hxt.cell' (p := ⟨w.heap.size, 2, none⟩) (v := (.int .i64 m2)) (by simp)
  have HX := Lib.hid (((Ext.refl' w).alloc' _).trans' hxt)
  clear hxt HM hb
  go_wp2_with fail
  go_loopw [8, 11] (fun u t wr => ∃ k : Nat, k ≤ i ∧ t = .int .i64 k ∧ Hid (OwnI wr w1.heap.size u (gather g k)) ∧ Hid (Ext w1 wr)) (fun _ t _ => i - (intOf t).toNat)
  case atStart => exact ⟨0, Nat.zero_le _, rfl, Lib.hid (OwnI.nil _ _), Lib.hid (Ext.refl' _)⟩
  case round =>
    obtain ⟨j, hj, rfl, HO, HXr⟩ := hrel
    have p1 := HXr.out.cell' q1
    by_cases hlt : j < i
    · obtain ⟨bb, o, rfl, hc⟩ := HA.out (by intro h; have := Hx.out; simp [h] at this; omega)
      have c0 := (HX.out.trans' HXr.out).cell' (hc j (by rw [Hx.out]; omega))
      have hgk : g j = [xs[j]?.getD 0] := by rw [Hg.out]
      have hl : (gather g j).length ≤ 1000000 := by have := Hgl.out j; omega
      have HGS := Lib.hid (gather_succ g j)
      have hjn : j < n := by omega
      clear hc
      generalize xs[j]?.getD 0 = x at *
      have HGK := Lib.hid hgk
      clear hgk
      go_wp2_with (at_builtin; go_must (refine wpList_append_I rfl _ _ rfl _ _ rfl HO HXr x rfl hl ?_); intro u' w2 HO2 HX2)
      go_roundw
      case rel => exact ⟨j + 1, by omega, by go_num, by rw [HGS.out, HGK.out]; exact HO2, HX2⟩
      case measure => simp [intOf]; omega
    · obtain rfl : i = j := by omega
      clear hlt
      go_wp2_with fail
      obtain ⟨wo, rfl⟩ : ∃ wo : World, wo = wr := ⟨_, rfl⟩
      go_loopw [8, 12] (fun u t wr => ∃ k' : Nat, i + k' ≤ m ∧ t = .int .i64 (i + k' : Nat) ∧ Hid (OwnI wr w1.heap.size u (gather g i ++ gather g2 k')) ∧ Hid (Ext w1 wr)) (fun _ t _ => m - (intOf t).toNat)
      case atStart => exact ⟨0, hkm, rfl, by simpa [gather_zero] using HO, HXr⟩
      case round =>
        obtain ⟨p, hp, rfl, HO1, HX1⟩ := hrel
        by_cases hlt : i + p < m
        · obtain ⟨bb, o, rfl, hc⟩ := HB.out (by intro h; have := Hy.out; simp [h] at this; omega)
          have c0 := (HX.out.trans' HX1.out).cell' (hc (i + p) (by rw [Hy.out]; omega))
          have hgk : g2 p = [ys[i + p]?.getD 0] := by rw [Hg2.out]
          have hl : (gather g i ++ gather g2 p).length ≤ 1000000 := by have := Hgl.out i; have := Hgl2.out p; rw [List.length_append]; omega
          have HGS := Lib.hid (gather_succ g2 p)
          clear hc
          generalize ys[i + p]?.getD 0 = x at *
          have HGK := Lib.hid hgk
          have HL := Lib.hid hl
          clear hgk hl
          go_wp2_with (at_builtin; go_must (refine wpList_append_I rfl _ _ rfl _ _ rfl HO1 HX1 x rfl HL.out ?_); intro u' w2 HO2 HX2)
          go_roundw
          case rel => exact ⟨p + 1, by omega, by go_num, by rw [HGS.out, HGK.out, ← List.append_assoc]; exact HO2, HX2⟩
          case measure => simp [intOf]; omega
        · obtain rfl : p = m - i := by omega
          clear hlt
          go_wp2
          exact hR.out _ _ ⟨_, rfl, own_mono HO1.out HX.out.size, HX.out.trans' HX1.out⟩
end Go.Proofs.Ytokfmfgnjhapiaa
