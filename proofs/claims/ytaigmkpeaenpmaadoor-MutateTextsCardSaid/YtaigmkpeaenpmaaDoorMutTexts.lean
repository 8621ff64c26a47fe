/- MutateTexts: any mutation's text is the document's, and is read as it. -/
import Derived.Test.YtaigmkpeaenpmaaDoorMutAwake
import Derived.Deep.CutBlock
namespace Go.Proofs.YtaigmkpeaenpmaaDoor
set_option maxRecDepth 100000
open Go.RowKit
attribute [local go_sem ↓] Go.wp_at_zero Go.wp_at_succ
set_option linter.unusedVariables false
set_option linter.unusedSimpArgs false

theorem kind_nat (m : Int) : ∃ k : Nat, k < 6 ∧ wrap64 ((IntKind.u64.wrap m).tmod 6) = k := by
  have h : (0 : Int) ≤ IntKind.u64.wrap m := by rw [IntKind.wrap_u64]; omega
  obtain ⟨u, hu⟩ : ∃ u : Nat, IntKind.u64.wrap m = u := ⟨_, (Int.toNat_of_nonneg h).symm⟩
  refine ⟨u % 6, Nat.mod_lt _ (by decide), ?_⟩
  have e : ((u : Int)).tmod 6 = ((u % 6 : Nat) : Int) := by
    rw [Int.tmod_eq_emod_of_nonneg (by omega)]; omega
  have hl : u % 6 < 6 := Nat.mod_lt _ (by decide)
  rw [hu, e]
  generalize u % 6 = j at hl
  unfold wrap64; omega
/-- What a kind does not use is nought. -/
def Fit (k : Nat) (c1 c2 c3 : Int) : Prop := outC k c1 c2 c3 3 1 = c1 ∧ outC k c1 c2 c3 3 2 = c2 ∧ outC k c1 c2 c3 3 3 = c3

set_option maxHeartbeats 2000000 in
theorem texts_any (m0 m1 m2 m3 : Int) (w : World) (hb : ∀ m ∈ [m1, m2, m3], -9223372036854775808 ≤ m ∧ m ≤ 9223372036854775807) (hpow : Pow w) :
    Calls Tryd.prog 3 #[.agg #[.int .i64 m0, .int .i64 m1, .int .i64 m2, .int .i64 m3]] w fun e w' => e = .returned (.bool true) ∧ Ext w w' := by
  refine of_post fun R hR => ?_
  have HP := Lib.hid hpow
  have HB := Lib.hid hb
  clear hb hpow
  go_enter Tryd.func3, Tryd.ntmps3
  go_wp2_with fail
  refine (awake_any _).mono ?_
  rintro e w1 ⟨rfl, hx⟩
  have q0 := hx.cell' (p := ⟨w.heap.size, 0, none⟩) (v := .int .i64 m0) (by simp)
  have q1 := hx.cell' (p := ⟨w.heap.size, 1, none⟩) (v := .int .i64 m1) (by simp)
  have q2 := hx.cell' (p := ⟨w.heap.size, 2, none⟩) (v := .int .i64 m2) (by simp)
  have q3 := hx.cell' (p := ⟨w.heap.size, 3, none⟩) (v := .int .i64 m3) (by simp)
  have HX1 := Lib.hid (((Ext.refl' w).alloc' _).trans' hx)
  clear hx
  obtain ⟨k, hk, hkw⟩ := kind_nat m0
  go_upto_block 0 with fail
  rw [hkw]
  have q0 := hk
  clear hkw q0 q1 q2 q3
  go_cut [] (fun wx => ∃ c1 c2 c3 : Int, Hid (Ext w wx) ∧ wx.cell? ⟨w1.heap.size, 0, none⟩ = some (.int .i64 k) ∧ wx.cell? ⟨w1.heap.size, 1, none⟩ = some (.int .i64 c1) ∧ wx.cell? ⟨w1.heap.size, 2, none⟩ = some (.int .i64 c2) ∧ wx.cell? ⟨w1.heap.size, 3, none⟩ = some (.int .i64 c3) ∧ Hid (Fit k c1 c2 c3 ∧ ∀ m ∈ [c1, c2, c3], m = 0 ∨ m ∈ [m1, m2, m3]))
  case first =>
    have HXA := Lib.hid (fun o => HX1.out.alloc' o)
    rcases (by omega : k = 0 ∨ k = 1 ∨ k = 2 ∨ k = 3 ∨ k = 4 ∨ k = 5) with e | e | e | e | e | e <;> subst e
    · go_wp2_with fail
      go_meet
      refine ⟨outC 0 m1 m2 m3 3 1, outC 0 m1 m2 m3 3 2, outC 0 m1 m2 m3 3 3, Lib.hid ?_, by simp, by simp [outC, offsK, valAt], by simp [outC, offsK, valAt], by simp [outC, offsK, valAt], Lib.hid ⟨by simp [Fit, outC, offsK, valAt], by simp [outC, offsK, valAt]⟩⟩
      exact HXA.out _
    · go_wp2_with fail
      go_meet
      refine ⟨outC 1 m1 m2 m3 3 1, outC 1 m1 m2 m3 3 2, outC 1 m1 m2 m3 3 3, Lib.hid ?_, by simp, by simp [outC, offsK, valAt], by simp [outC, offsK, valAt], by simp [outC, offsK, valAt], Lib.hid ⟨by simp [Fit, outC, offsK, valAt], by simp [outC, offsK, valAt]⟩⟩
      exact HXA.out _
    · go_wp2_with fail
      go_meet
      refine ⟨outC 2 m1 m2 m3 3 1, outC 2 m1 m2 m3 3 2, outC 2 m1 m2 m3 3 3, Lib.hid ?_, by simp, by simp [outC, offsK, valAt], by simp [outC, offsK, valAt], by simp [outC, offsK, valAt], Lib.hid ⟨by simp [Fit, outC, offsK, valAt], by simp [outC, offsK, valAt]⟩⟩
      exact HXA.out _
    · go_wp2_with fail
      go_meet
      refine ⟨outC 3 m1 m2 m3 3 1, outC 3 m1 m2 m3 3 2, outC 3 m1 m2 m3 3 3, Lib.hid ?_, by simp, by simp [outC, offsK, valAt], by simp [outC, offsK, valAt], by simp [outC, offsK, valAt], Lib.hid ⟨by simp [Fit, outC, offsK, valAt], by simp [outC, offsK, valAt]⟩⟩
      exact HXA.out _
    · go_wp2_with fail
      go_meet
      refine ⟨outC 4 m1 m2 m3 3 1, outC 4 m1 m2 m3 3 2, outC 4 m1 m2 m3 3 3, Lib.hid ?_, by simp, by simp [outC, offsK, valAt], by simp [outC, offsK, valAt], by simp [outC, offsK, valAt], Lib.hid ⟨by simp [Fit, outC, offsK, valAt], by simp [outC, offsK, valAt]⟩⟩
      exact HXA.out _
    · go_wp2_with fail
      go_meet
      refine ⟨outC 5 m1 m2 m3 3 1, outC 5 m1 m2 m3 3 2, outC 5 m1 m2 m3 3 3, Lib.hid ?_, by simp, by simp [outC, offsK, valAt], by simp [outC, offsK, valAt], by simp [outC, offsK, valAt], Lib.hid ⟨by simp [Fit, outC, offsK, valAt], by simp [outC, offsK, valAt]⟩⟩
      exact HXA.out _
  case rest =>
    obtain ⟨c1, c2, c3, HXC, x0, x1, x2, x3, HFB⟩ := hcut
    have hbc : ∀ m ∈ [c1, c2, c3], -9223372036854775808 ≤ m ∧ m ≤ 9223372036854775807 := fun m h => by
      rcases HFB.out.2 m h with e | e
      · subst e; omega
      · exact HB.out m e
    obtain ⟨hus, hent⟩ := useK_uses k hk
    have HT := fun W hp => Lib.hid (text_run k hk c1 c2 c3 W hbc hp (useK k) (doK k) (fun w => ways_index k hk w) hus hent)
    have HRD := fun W => Lib.hid (read_good k hk c1 c2 c3 W hbc)
    have HRF := fun W => Lib.hid (text_ref k hk c1 c2 c3 W hbc)
    have HRL := fun W => Lib.hid (real_any k c1 c2 c3 W)
    clear hus hent hbc
    obtain ⟨S, hS⟩ : ∃ S : ByteArray, (⟨(textOf (wordK k) (valsK k c1 c2 c3)).toArray⟩ : ByteArray) = S := ⟨_, rfl⟩
    rw [hS] at HT HRD HRF
    clear hS HX1 hk
    have hz1 : ((k : Int) == k) = true := by simp
    have hz2 : (c1 == c1) = true := by simp
    have hz3 : (c2 == c2) = true := by simp
    have hz4 : (c3 == c3) = true := by simp
    go_wp2_with fail
    refine (HRL _).out.mono ?_
    rintro e w3 ⟨rfl, hx⟩
    have HX3 := Lib.hid (HXC.out.trans' hx)
    have y0 := hx.cell' x0
    have y1 := hx.cell' x1
    have y2 := hx.cell' x2
    have y3 := hx.cell' x3
    clear hx x0 x1 x2 x3 HXC
    go_wp2_with fail
    refine (HT _ (HP.out.on HX3.out)).out.mono ?_
    rintro e w4 ⟨rfl, hx⟩
    have HX4 := Lib.hid (HX3.out.trans' hx)
    have x0 := hx.cell' y0
    have x1 := hx.cell' y1
    have x2 := hx.cell' y2
    have x3 := hx.cell' y3
    clear hx y0 y1 y2 y3 HX3 HT
    go_wp2_with fail
    refine (HRD _).out.mono ?_
    rintro e w5 ⟨⟨d1, d2, d3, hd, rfl⟩, hx⟩
    obtain ⟨rfl, rfl, rfl⟩ : d1 = c1 ∧ d2 = c2 ∧ d3 = c3 := ⟨hd.1.trans HFB.out.1.1, hd.2.1.trans HFB.out.1.2.1, hd.2.2.trans HFB.out.1.2.2⟩
    have HX5 := Lib.hid (HX4.out.trans' hx)
    have y0 := hx.cell' x0
    have y1 := hx.cell' x1
    have y2 := hx.cell' x2
    have y3 := hx.cell' x3
    have z0 := fun o => ((Ext.refl' w5).alloc' o).cell' y0
    have z1 := fun o => ((Ext.refl' w5).alloc' o).cell' y1
    have z2 := fun o => ((Ext.refl' w5).alloc' o).cell' y2
    have z3 := fun o => ((Ext.refl' w5).alloc' o).cell' y3
    clear hx x0 x1 x2 x3 HX4 HRD hd HFB
    go_upto_region 15 with fail
    obtain ⟨W, hW⟩ : ∃ W, w5.alloc (.cells #[.int .i64 k, .int .i64 d1, .int .i64 d2, .int .i64 d3] 28) = W := ⟨_, rfl⟩
    have HXW : Hid (Ext w W) := Lib.hid (by rw [← hW]; exact HX5.out.alloc' _)
    have x0 : W.cell? ⟨w1.heap.size, 0, none⟩ = some (.int .i64 k) := by rw [← hW]; exact z0 _
    have x1 : W.cell? ⟨w1.heap.size, 1, none⟩ = some (.int .i64 d1) := by rw [← hW]; exact z1 _
    have x2 : W.cell? ⟨w1.heap.size, 2, none⟩ = some (.int .i64 d2) := by rw [← hW]; exact z2 _
    have x3 : W.cell? ⟨w1.heap.size, 3, none⟩ = some (.int .i64 d3) := by rw [← hW]; exact z3 _
    have b0 : W.cell? ⟨w5.heap.size, 0, none⟩ = some (.int .i64 k) := by rw [← hW]; simp
    have b1 : W.cell? ⟨w5.heap.size, 1, none⟩ = some (.int .i64 d1) := by rw [← hW]; simp
    have b2 : W.cell? ⟨w5.heap.size, 2, none⟩ = some (.int .i64 d2) := by rw [← hW]; simp
    have b3 : W.cell? ⟨w5.heap.size, 3, none⟩ = some (.int .i64 d3) := by rw [← hW]; simp
    rw [hW]
    clear hW z0 z1 z2 z3 y0 y1 y2 y3 HX5
    generalize w5.heap.size = gb at *
    go_region_held3 (fun X => X.cell? ⟨w1.heap.size, 0, none⟩ = some (.int .i64 k) ∧ X.cell? ⟨w1.heap.size, 1, none⟩ = some (.int .i64 d1) ∧ X.cell? ⟨w1.heap.size, 2, none⟩ = some (.int .i64 d2) ∧ X.cell? ⟨w1.heap.size, 3, none⟩ = some (.int .i64 d3) ∧ X.cell? ⟨gb, 0, none⟩ = some (.int .i64 k) ∧ X.cell? ⟨gb, 1, none⟩ = some (.int .i64 d1) ∧ X.cell? ⟨gb, 2, none⟩ = some (.int .i64 d2) ∧ X.cell? ⟨gb, 3, none⟩ = some (.int .i64 d3)) (first | go_keep | exact ⟨q60, q61, q62, q63, q64, q65, q66, q67⟩ | exact ⟨q70, q71, q72, q73, q74, q75, q76, q77⟩)
      (first
        | (go_at_call 8; (with_reducible refine (HRF _).out.mono ?_); rintro e w6 ⟨rfl, hx6⟩; have q60 := hx6.cell' (p := ⟨w1.heap.size, 0, none⟩) (v := .int .i64 k) (by go_keep); have q61 := hx6.cell' (p := ⟨w1.heap.size, 1, none⟩) (v := .int .i64 d1) (by go_keep); have q62 := hx6.cell' (p := ⟨w1.heap.size, 2, none⟩) (v := .int .i64 d2) (by go_keep); have q63 := hx6.cell' (p := ⟨w1.heap.size, 3, none⟩) (v := .int .i64 d3) (by go_keep); have q64 := hx6.cell' (p := ⟨gb, 0, none⟩) (v := .int .i64 k) (by go_keep); have q65 := hx6.cell' (p := ⟨gb, 1, none⟩) (v := .int .i64 d1) (by go_keep); have q66 := hx6.cell' (p := ⟨gb, 2, none⟩) (v := .int .i64 d2) (by go_keep); have q67 := hx6.cell' (p := ⟨gb, 3, none⟩) (v := .int .i64 d3) (by go_keep); have HY6 := Lib.hid hx6; clear hx6)
        | (go_at_call 5; (with_reducible refine (HRL _).out.mono ?_); rintro e w7 ⟨rfl, hx7⟩; have q70 := hx7.cell' (p := ⟨w1.heap.size, 0, none⟩) (v := .int .i64 k) (by go_keep); have q71 := hx7.cell' (p := ⟨w1.heap.size, 1, none⟩) (v := .int .i64 d1) (by go_keep); have q72 := hx7.cell' (p := ⟨w1.heap.size, 2, none⟩) (v := .int .i64 d2) (by go_keep); have q73 := hx7.cell' (p := ⟨w1.heap.size, 3, none⟩) (v := .int .i64 d3) (by go_keep); have q74 := hx7.cell' (p := ⟨gb, 0, none⟩) (v := .int .i64 k) (by go_keep); have q75 := hx7.cell' (p := ⟨gb, 1, none⟩) (v := .int .i64 d1) (by go_keep); have q76 := hx7.cell' (p := ⟨gb, 2, none⟩) (v := .int .i64 d2) (by go_keep); have q77 := hx7.cell' (p := ⟨gb, 3, none⟩) (v := .int .i64 d3) (by go_keep); have HY7 := Lib.hid hx7; clear hx7))
    go_wp2_with fail
    exact hR.out _ _ ⟨rfl, HXW.out.trans' (Ext.trans' ((Ext.refl' W).drewN' 1) (HY6.out.trans' HY7.out))⟩
end Go.Proofs.YtaigmkpeaenpmaaDoor
