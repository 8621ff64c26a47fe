/- The document's Do: cut and turn; what may not be done. -/
import Derived.Test.YtokfmfgnjhapiaaRefLoops
namespace Go.Proofs.Ytokfmfgnjhapiaa
open Go.RowKit
set_option linter.unusedVariables false
set_option linter.unusedSimpArgs false

set_option maxRecDepth 100000 in
set_option maxHeartbeats 2000000 in
theorem ref_do4 (i k : Nat) (d : Int) (A B : Option Addr) (xs : List Int) (n m c b : Nat) (w : World) (hA : IS w A xs) (hx : xs.length = n) (hn : n ≤ 1000) (hm : m ≤ 1000) (hik : i ≤ k) (hkn : k ≤ n) :
    Calls Try.prog 15 #[.agg #[.int .i64 4, .int .i64 i, .int .i64 k, .int .i64 d], .slice A n c, .slice B m b] w (RefDone w (gather (fun j => if j < i ∨ k ≤ j then [xs[j]?.getD 0] else []) n)) := by
  obtain ⟨g, hg⟩ : ∃ g : Nat → List Int, g = fun j => if j < i ∨ k ≤ j then [xs[j]?.getD 0] else [] := ⟨_, rfl⟩
  rw [← hg]
  have hgd : ∀ j, g j = if j < i ∨ k ≤ j then [xs[j]?.getD 0] else [] := by intro j; rw [hg]
  have Hgd := Lib.hid hgd
  have Hgl := Lib.hid (gather_one_length g (fun j => by rw [hg]; by_cases h : j < i ∨ k ≤ j <;> simp [h]))
  clear hg hgd
  refine of_post fun R hR => ?_
  have hmay : mayP 4 i k d n m := by unfold mayP; omega
  have HM := fun o => Lib.hid (may_any 4 i k d n m (w.alloc o) hn hm)
  have hb : decide (mayP 4 i k d n m) = true := by simpa using hmay
  have HA := Lib.hid hA
  have Hx := Lib.hid hx
  clear hA hmay hx
  go_enter Try.func15, Try.ntmps15
  go_wp2_with fail
  refine (HM _).out.mono ?_
  rintro e w1 ⟨rfl, hxt⟩
  rw [hb]
  have q0 := hxt.cell' (p := ⟨w.heap.size, 0, none⟩) (v := .int .i64 4) (by simp)
  have q1 := hxt.cell' (p := ⟨w.heap.size, 1, none⟩) (v := .int .i64 i) (by simp)
  have q2 := hxt.cell' (p := ⟨w.heap.size, 2, none⟩) (v := .int .i64 k) (by simp)
  have HX := Lib.hid (((Ext.refl' w).alloc' _).trans' hxt)
  clear hxt HM hb
  go_wp2_with fail
  go_loopw [8, 15, 35] (fun u _ t wr => ∃ j : Nat, j ≤ n ∧ t = .int .i64 j ∧ Hid (OwnI wr w1.heap.size u (gather g j)) ∧ Hid (Ext w1 wr)) (fun _ _ t _ => n - (intOf t).toNat)
  case atStart => exact ⟨0, Nat.zero_le _, rfl, Lib.hid (OwnI.nil _ _), Lib.hid (Ext.refl' _)⟩
  case round =>
    obtain ⟨j, hj, rfl, HO, HXr⟩ := hrel
    by_cases hlt : j < n
    · have HGS := Lib.hid (gather_succ g j)
      have hl : (gather g j).length ≤ 1000000 := by have := Hgl.out j; omega
      have HL := Lib.hid hl
      clear hl
      have p0 := HXr.out.cell' q0
      have p1 := HXr.out.cell' q1
      have p2 := HXr.out.cell' q2
      obtain ⟨bb, o, rfl, hc⟩ := HA.out (by intro h; have := Hx.out; simp [h] at this; omega)
      by_cases hout : j < i ∨ k ≤ j
      · have c0 := (HX.out.trans' HXr.out).cell' (hc j (by rw [Hx.out]; omega))
        have hgk : g j = [xs[j]?.getD 0] := by rw [Hgd.out, if_pos hout]
        clear hc
        generalize xs[j]?.getD 0 = x at *
        have HGK := Lib.hid hgk
        clear hgk
        rcases hout with h1 | h1
        · go_wp2_with (at_builtin; go_must (refine wpList_append_I rfl _ _ rfl _ _ rfl HO HXr x rfl HL.out ?_); intro u' w2 HO2 HX2)
          go_roundw
          case rel => exact ⟨j + 1, by omega, by go_num, by rw [HGS.out, HGK.out]; exact HO2, HX2⟩
          case measure => simp [intOf]; omega
        · have h2 : i ≤ j := by omega
          have h3 : (i : Int) ≤ j := by omega
          go_wp2_with (at_builtin; go_must (refine wpList_append_I rfl _ _ rfl _ _ rfl HO HXr x rfl HL.out ?_); intro u' w2 HO2 HX2)
          go_roundw
          case rel => exact ⟨j + 1, by omega, by go_num, by rw [HGS.out, HGK.out]; exact HO2, HX2⟩
          case measure => simp [intOf]; omega
      · have h1 : i ≤ j := by omega
        have h2 : j < k := by omega
        have h3 : (i : Int) ≤ j := by omega
        have h4 : (j : Int) < k := by omega
        have hgk : g j = [] := by rw [Hgd.out, if_neg hout]
        clear hout
        have HGK := Lib.hid hgk
        clear hgk hc
        go_wp2
        go_roundw
        case rel => exact ⟨j + 1, by omega, by go_num, by rw [HGS.out, HGK.out, List.append_nil]; exact HO, HXr⟩
        case measure => simp [intOf]; omega
    · obtain rfl : j = n := by omega
      clear hlt
      go_wp2
      exact hR.out _ _ ⟨_, rfl, own_mono HO.out HX.out.size, HX.out.trans' HXr.out⟩

set_option maxRecDepth 100000 in
set_option maxHeartbeats 2000000 in
theorem ref_do5 (i k : Nat) (d : Int) (A B : Option Addr) (xs : List Int) (n m c b : Nat) (w : World) (hA : IS w A xs) (hx : xs.length = n) (hn : n ≤ 1000) (hm : m ≤ 1000) (hik : i ≤ k) (hkn : k ≤ n) :
    Calls Try.prog 15 #[.agg #[.int .i64 5, .int .i64 i, .int .i64 k, .int .i64 d], .slice A n c, .slice B m b] w (RefDone w (gather (fun j => if j < i ∨ k ≤ j then [xs[j]?.getD 0] else [xs[i + k - 1 - j]?.getD 0]) n)) := by
  obtain ⟨g, hg⟩ : ∃ g : Nat → List Int, g = fun j => if j < i ∨ k ≤ j then [xs[j]?.getD 0] else [xs[i + k - 1 - j]?.getD 0] := ⟨_, rfl⟩
  rw [← hg]
  have hgd : ∀ j, g j = if j < i ∨ k ≤ j then [xs[j]?.getD 0] else [xs[i + k - 1 - j]?.getD 0] := by intro j; rw [hg]
  have Hgd := Lib.hid hgd
  have Hgl := Lib.hid (gather_one_length g (fun j => by rw [hg]; by_cases h : j < i ∨ k ≤ j <;> simp [h]))
  clear hg hgd
  refine of_post fun R hR => ?_
  have hmay : mayP 5 i k d n m := by unfold mayP; omega
  have HM := fun o => Lib.hid (may_any 5 i k d n m (w.alloc o) hn hm)
  have hb : decide (mayP 5 i k d n m) = true := by simpa using hmay
  have HA := Lib.hid hA
  have Hx := Lib.hid hx
  clear hA hmay hx
  go_enter Try.func15, Try.ntmps15
  go_wp2_with fail
  refine (HM _).out.mono ?_
  rintro e w1 ⟨rfl, hxt⟩
  rw [hb]
  have q0 := hxt.cell' (p := ⟨w.heap.size, 0, none⟩) (v := .int .i64 5) (by simp)
  have q1 := hxt.cell' (p := ⟨w.heap.size, 1, none⟩) (v := .int .i64 i) (by simp)
  have q2 := hxt.cell' (p := ⟨w.heap.size, 2, none⟩) (v := .int .i64 k) (by simp)
  have HX := Lib.hid (((Ext.refl' w).alloc' _).trans' hxt)
  clear hxt HM hb
  go_wp2_with fail
  go_loopw [8, 15, 35] (fun u _ t wr => ∃ j : Nat, j ≤ n ∧ t = .int .i64 j ∧ Hid (OwnI wr w1.heap.size u (gather g j)) ∧ Hid (Ext w1 wr)) (fun _ _ t _ => n - (intOf t).toNat)
  case atStart => exact ⟨0, Nat.zero_le _, rfl, Lib.hid (OwnI.nil _ _), Lib.hid (Ext.refl' _)⟩
  case round =>
    obtain ⟨j, hj, rfl, HO, HXr⟩ := hrel
    by_cases hlt : j < n
    · have HGS := Lib.hid (gather_succ g j)
      have hl : (gather g j).length ≤ 1000000 := by have := Hgl.out j; omega
      have HL := Lib.hid hl
      clear hl
      have p0 := HXr.out.cell' q0
      have p1 := HXr.out.cell' q1
      have p2 := HXr.out.cell' q2
      obtain ⟨bb, o, rfl, hc⟩ := HA.out (by intro h; have := Hx.out; simp [h] at this; omega)
      by_cases hout : j < i ∨ k ≤ j
      · have c0 := (HX.out.trans' HXr.out).cell' (hc j (by rw [Hx.out]; omega))
        have hgk : g j = [xs[j]?.getD 0] := by rw [Hgd.out, if_pos hout]
        clear hc
        generalize xs[j]?.getD 0 = x at *
        have HGK := Lib.hid hgk
        clear hgk
        rcases hout with h1 | h1
        · go_wp2_with (at_builtin; go_must (refine wpList_append_I rfl _ _ rfl _ _ rfl HO HXr x rfl HL.out ?_); intro u' w2 HO2 HX2)
          go_roundw
          case rel => exact ⟨j + 1, by omega, by go_num, by rw [HGS.out, HGK.out]; exact HO2, HX2⟩
          case measure => simp [intOf]; omega
        · have h2 : i ≤ j := by omega
          have h3 : (i : Int) ≤ j := by omega
          go_wp2_with (at_builtin; go_must (refine wpList_append_I rfl _ _ rfl _ _ rfl HO HXr x rfl HL.out ?_); intro u' w2 HO2 HX2)
          go_roundw
          case rel => exact ⟨j + 1, by omega, by go_num, by rw [HGS.out, HGK.out]; exact HO2, HX2⟩
          case measure => simp [intOf]; omega
      · have h1 : i ≤ j := by omega
        have h2 : j < k := by omega
        have h3 : (i : Int) ≤ j := by omega
        have h4 : (j : Int) < k := by omega
        have hgk : g j = [xs[i + k - 1 - j]?.getD 0] := by rw [Hgd.out, if_neg hout]
        clear hout
        obtain ⟨p, hp⟩ : ∃ p : Nat, p = i + k - 1 - j := ⟨_, rfl⟩
        have c0 := (HX.out.trans' HXr.out).cell' (hc p (by rw [Hx.out]; omega))
        rw [← hp] at hgk
        have e1 : (i : Int) + k - 1 - j = p := by omega
        have e2 : (i : Int) + k ≤ 100000 := by omega
        have e3 : (p : Int) < n := by omega
        have e4 : (0 : Int) ≤ (i : Int) + k - 1 - j := by omega
        clear hc hp
        generalize xs[p]?.getD 0 = x at *
        have HGK := Lib.hid hgk
        clear hgk
        go_wp2_with (at_builtin; go_must (refine wpList_append_I rfl _ _ rfl _ _ rfl HO HXr x rfl HL.out ?_); intro u' w2 HO2 HX2)
        go_roundw
        case rel => exact ⟨j + 1, by omega, by go_num, by rw [HGS.out, HGK.out]; exact HO2, HX2⟩
        case measure => simp [intOf]; omega
    · obtain rfl : j = n := by omega
      clear hlt
      go_wp2
      exact hR.out _ _ ⟨_, rfl, own_mono HO.out HX.out.size, HX.out.trans' HXr.out⟩

def RefNone (w : World) (code : Int) (e : Ending) (w' : World) : Prop := e = .returned (.tuple #[.slice none 0 0, .int .i64 code]) ∧ Ext w w'

set_option maxRecDepth 100000 in
theorem ref_kind (m0 m1 m2 m3 : Int) (A B : Option Addr) (n m c d : Nat) (w : World) (h : ¬ (0 ≤ m0 ∧ m0 < 6)) :
    Calls Try.prog 15 #[.agg #[.int .i64 m0, .int .i64 m1, .int .i64 m2, .int .i64 m3], .slice A n c, .slice B m d] w (RefNone w 9) := by
  refine of_post fun R hR => ?_
  have hc : m0 < 0 ∨ (0 ≤ m0 ∧ 5 < m0) := by omega
  clear h
  rcases hc with h1 | ⟨h1, h2⟩
  all_goals
    go_enter Try.func15, Try.ntmps15
    go_wp2
    exact hR.out _ _ ⟨rfl, (Ext.refl' w).alloc' _⟩

set_option maxRecDepth 100000 in
theorem ref_no (m0 m1 m2 m3 : Int) (A B : Option Addr) (n m c d : Nat) (w : World) (h1 : 0 ≤ m0) (h2 : m0 ≤ 5) (hn : n ≤ 1000) (hm : m ≤ 1000) (hmay : ¬ mayP m0 m1 m2 m3 n m) :
    Calls Try.prog 15 #[.agg #[.int .i64 m0, .int .i64 m1, .int .i64 m2, .int .i64 m3], .slice A n c, .slice B m d] w (RefNone w 8) := by
  refine of_post fun R hR => ?_
  have HM := fun o => Lib.hid (may_any m0 m1 m2 m3 n m (w.alloc o) hn hm)
  have hb : decide (mayP m0 m1 m2 m3 n m) = false := by simpa using hmay
  clear hmay
  go_enter Try.func15, Try.ntmps15
  go_wp2_with fail
  refine (HM _).out.mono ?_
  rintro e w1 ⟨rfl, hxt⟩
  rw [hb]
  have HX := Lib.hid (((Ext.refl' w).alloc' _).trans' hxt)
  clear hxt HM hb
  go_wp2
  exact hR.out _ _ ⟨rfl, HX.out⟩
end Go.Proofs.Ytokfmfgnjhapiaa
