/- The document's All, walked. -/
import Derived.Test.YtokfmfgnjhapiaaNearRefAll
import Derived.Deep.DrawnRows
namespace Go.Proofs.Ytokfmfgnjhapiaa
open Go.RowKit
attribute [local go_sem ↓] Go.wp_at_zero Go.wp_at_succ
set_option linter.unusedVariables false
set_option linter.unusedSimpArgs false

def gapsAt (xs : List Int) (a j : Nat) : List (List Int) := (List.range j).map fun j => xs.take a ++ xs.drop (a + 1 + j)
def gapsTo (xs : List Int) (a : Nat) : List (List Int) := (List.range a).flatMap fun a => gapsAt xs a (xs.length - a)
theorem gapsAt_succ (xs : List Int) (a j : Nat) : gapsAt xs a (j + 1) = gapsAt xs a j ++ [xs.take a ++ xs.drop (a + 1 + j)] := by simp [gapsAt, List.range_succ]
theorem gapsTo_succ (xs : List Int) (a : Nat) : gapsTo xs (a + 1) = gapsTo xs a ++ gapsAt xs a (xs.length - a) := by simp [gapsTo, List.range_succ]
theorem gapsTo_length (xs : List Int) : ∀ a, (gapsTo xs a).length ≤ a * xs.length
  | 0 => by simp [gapsTo]
  | a + 1 => by
    rw [gapsTo_succ, List.length_append, Nat.succ_mul]
    have := gapsTo_length xs a
    simp only [gapsAt, List.length_map, List.length_range]
    omega

theorem chg_few (xs : List Int) : ∀ k, k ≤ 128 → ((List.range k).flatMap (chgL xs)).length ≤ 512 := fun k hk => by
  have : ∀ k, ((List.range k).flatMap (chgL xs)).length ≤ 4 * k := fun k => by
    induction k with
    | zero => simp
    | succ k ih =>
      rw [List.range_succ, List.flatMap_append, List.length_append]
      have : (chgL xs k).length ≤ 4 := by
        unfold chgL downs turnsL
        split <;> split <;> simp
      simp only [List.flatMap_singleton]
      omega
  have := this k
  omega

set_option maxRecDepth 100000 in
set_option maxHeartbeats 4000000 in
theorem refall_yes (A : Option Addr) (xs : List Int) (n c : Nat) (w : World) (hA : IS w A xs) (hx : xs.length = n) (hc : n ≤ c) (hcm : c ≤ maxLen) (hr : ∀ x ∈ xs, -9223372036854775808 ≤ x ∧ x ≤ 9223372036854775807) (hmay : mayL xs = true) :
    Calls Try.prog 18 #[.slice A n c] w fun e w' => ∃ v, e = .returned v ∧ RowOf w w' v (gapsTo xs n ++ changesL xs) := by
  refine of_post fun R hR => ?_
  have hn : n ≤ 128 := by rw [← hx]; exact may_len hmay
  have HM := Lib.hid (ref_may A xs n c w hA hx (Nat.le_trans hc hcm))
  rw [hmay] at HM
  have HA := Lib.hid (cells_of_IS hA)
  have Hx := Lib.hid hx
  have Hr := Lib.hid hr
  unfold maxLen at hcm
  clear hA hx hr hmay
  have HGL : ∀ k, k ≤ n → Hid ((gapsTo xs k).length ≤ 16384) := fun k hk => Lib.hid (by
    have h1 := gapsTo_length xs k
    rw [Hx.out] at h1
    have h2 : k * n ≤ 128 * 128 := Nat.mul_le_mul (by omega) hn
    omega)
  go_enter Try.func18, Try.ntmps18
  go_wp2_with fail
  refine HM.out.mono ?_
  rintro e w1 ⟨rfl, rfl⟩
  go_wp2_with fail
  go_loopw [3, 12] (fun ov iv wr => ∃ k : Nat, iv = .int .i64 k ∧ k ≤ n ∧ Hid (RowOf w1 wr ov (gapsTo xs k))) (fun _ iv _ => n - (intOf iv).toNat)
  case atStart => exact ⟨0, rfl, Nat.zero_le _, Lib.hid (RowOf.nil _)⟩
  case round =>
    obtain ⟨k, rfl, hk, HS⟩ := hrel
    by_cases hlt : k < n
    · go_wp2_with fail
      obtain ⟨wo, hwo⟩ : ∃ wo : World, wo = wr := ⟨_, rfl⟩
      subst hwo
      go_loopw [3, 5] (fun ov2 tv wr => ∃ j : Nat, tv = .int .i64 ((k + 1 + j : Nat) : Int) ∧ j ≤ n - k ∧ Hid (RowOf w1 wr ov2 (gapsTo xs k ++ gapsAt xs k j))) (fun _ tv _ => n + 1 - (intOf tv).toNat)
      case atStart => exact ⟨0, by go_num, Nat.zero_le _, Lib.hid (by simpa [gapsAt] using HS.out)⟩
      case round =>
        obtain ⟨j, rfl, hj, HS2⟩ := hrel
        obtain ⟨t, ht⟩ : ∃ t, k + 1 + j = t := ⟨_, rfl⟩
        have HGA : Hid (gapsAt xs k (j + 1) = gapsAt xs k j ++ [xs.take k ++ xs.drop t]) := Lib.hid (by rw [gapsAt_succ, ht])
        have HGN : Hid ((gapsAt xs k j).length ≤ 128) := Lib.hid (by simp [gapsAt]; omega)
        rw [ht]
        have Ht := Lib.hid ht
        by_cases hjn : j < n - k
        · have htn : t ≤ n := by omega
          clear ht
          have i1 : (0 : Int) ≤ k := by omega
          have i2 : (k : Int) ≤ n := by omega
          have i3 : (k : Int) ≤ c := by omega
          have i4 : (0 : Int) ≤ t := by omega
          have i5 : (t : Int) ≤ n := by omega
          have i6 : (t : Int) ≤ c := by omega
          have cD := HA.out.cut t c (by simp [Hx.out]; omega)
          obtain ⟨A1, hA1⟩ : ∃ A1, (if c = t then A else Option.map (fun x => x.add t) A) = A1 := ⟨_, rfl⟩
          rw [hA1] at cD
          have HCD := Lib.hid cD
          clear cD
          go_wp2_with fail
          obtain ⟨wx, hwx⟩ : ∃ wx : World, wx = wr := ⟨_, rfl⟩
          have HWX := Lib.hid hwx
          clear hwx
          have hE1 : ∀ q, Hid (OwnI ((wr.drewN q).alloc (.cells #[] 3)) wr.heap.size (.slice (some ⟨wr.heap.size, 0, none⟩) 0 0) []) := fun q => Lib.hid (own_empty (wr.drewN q) 3 1)
          have hX1 : ∀ q o, Hid (Ext wr ((wr.drewN q).alloc o)) := fun q o => Lib.hid (((Ext.refl' wr).drewN' q).alloc' o)
          have hT : ∀ X, Hid (Ext wr X) → Hid (CellsAt X A ((xs.take k).map I64)) := fun X hX => Lib.hid (by rw [List.map_take]; exact (HA.out.take k).ext (HS2.out.ext.trans' hX.out))
          have hD : ∀ X, Hid (Ext wr X) → Hid (CellsAt X A1 ((xs.drop t).map I64)) := fun X hX => Lib.hid (by rw [List.map_drop]; exact HCD.out.ext (HS2.out.ext.trans' hX.out))
          have hTl : Hid ((xs.take k).length = k) := Lib.hid (by rw [List.length_take, Hx.out]; omega)
          have hDl : Hid ((xs.drop t).length = n - t) := Lib.hid (by rw [List.length_drop, Hx.out])
          have hs1 : Hid (([] : List Int).length + k ≤ 1000000) := Lib.hid (by simp; omega)
          have hs2 : Hid (([] ++ xs.take k).length + (n - t) ≤ 1000000) := Lib.hid (by simp; omega)
          have HGK := HGL k hk
          go_region_held3 (fun W => True) (exact trivial)
            (first
              | (refine int_step rfl _ _ rfl (.slice (some ⟨wr.heap.size, 0, none⟩) 0 0) [] rfl (hE1 _) (hX1 _ _) A k c (xs.take k) rfl hTl (hT _ (hX1 _ _)) hs1 ?_; intro v4 W4 HO4 HX4)
              | (refine int_step rfl _ _ rfl v4 _ rfl HO4 HX4 A1 (n - t) (c - t) (xs.drop t) rfl hDl (hD _ HX4) hs2 ?_; intro v7 W7 HO7 HX7; obtain ⟨e, rfl, hex, hfr⟩ := fresh_ownI HO7.out; have HEX := Lib.hid hex; have HPUT := Lib.hid ((HS2.out.on HX7.out).put e ⟨hfr.ok, hfr.le, hfr.cap, fun b _ => Nat.zero_le b, hfr.soft⟩ (by have h1 := HGK.out; have h2 := HGN.out; rw [List.length_append]; omega)); clear hex hfr)
              | (go_at_call 31; refine HPUT.out.mono ?_; rintro u w9 ⟨v9, rfl, h9⟩; have H9 := Lib.hid h9; clear h9))
          have HN : Hid (RowOf w1 w9 v9 (gapsTo xs k ++ gapsAt xs k (j + 1))) := Lib.hid (by
            have h1 := H9.out
            rw [HEX.out, List.append_assoc] at h1
            rw [HGA.out]; simpa using h1)
          go_wp2_with fail
          go_roundw
          case rel => exact ⟨j + 1, by rw [show k + 1 + (j + 1) = t + 1 by have := Ht.out; omega]; go_num, by omega, HN⟩
          case measure => simp [intOf]; omega
        · have hnt : ¬ (t : Int) ≤ n := by omega
          have HGS : Hid (gapsTo xs (k + 1) = gapsTo xs k ++ gapsAt xs k j) := Lib.hid (by
            rw [gapsTo_succ, Hx.out, show n - k = j by have := Ht.out; omega])
          rw [← HGS.out] at HS2
          go_wp2_with fail
          refine ⟨⟨k + 1, by go_num, by omega, HS2⟩, ?_⟩
          simp [intOf]; omega
    · obtain rfl : n = k := by omega
      go_wp2_with fail
      obtain ⟨wo, hwo⟩ : ∃ wo : World, wo = wr := ⟨_, rfl⟩
      subst hwo
      go_loopw [3, 37] (fun ov2 iv wr2 => ∃ k : Nat, iv = .int .i64 k ∧ k ≤ n ∧ Hid (RowOf w1 wr2 ov2 (gapsTo xs n ++ (List.range k).flatMap (chgL xs)))) (fun _ iv _ => n - (intOf iv).toNat)
      case atStart => exact ⟨0, rfl, Nat.zero_le _, Lib.hid (by simpa using HS.out)⟩
      case round =>
        obtain ⟨k, rfl, hk, HS3⟩ := hrel
        by_cases hlt : k < n
        · have hkx : k < xs.length := by rw [Hx.out]; exact hlt
          obtain ⟨b, o, hAe, hc0⟩ := HA.out.at_ (k := k) (by simpa using hkx)
          subst hAe
          have c0 : w1.cell? ⟨b, o + k, none⟩ = some (.int .i64 xs[k]) := by rw [hc0]; simp [I64]
          clear hc0
          have hb := Hr.out (xs[k]) (List.getElem_mem hkx)
          have HXK : Hid (nth xs k = xs[k]) := Lib.hid (by unfold nth; rw [List.getElem?_eq_getElem hkx]; rfl)
          generalize xs[k] = x at *
          have c1 := HS3.out.ext.cell' c0
          obtain ⟨LK, hLK⟩ : ∃ LK, gapsTo xs n ++ (List.range k).flatMap (chgL xs) = LK := ⟨_, rfl⟩
          rw [hLK] at HS3
          have HLN : Hid (LK.length ≤ 20000) := Lib.hid (by
            rw [← hLK, List.length_append]
            have h1 := (HGL n (Nat.le_refl _)).out
            have h2 := chg_few xs k (by omega)
            omega)
          have HLS : Hid (gapsTo xs n ++ (List.range (k + 1)).flatMap (chgL xs) = LK ++ downs xs k ++ turnsL xs k) := Lib.hid (by
            rw [List.range_succ, List.flatMap_append, ← List.append_assoc, hLK]; simp [chgL])
          clear hLK
          by_cases hpos : 0 < x
          · have HDN : Hid (downs xs k = [xs.set k 0, xs.set k (x / 2), xs.set k (x - 1)]) := Lib.hid (by unfold downs; rw [HXK.out, if_pos hpos])
            have HDL : Hid ((downs xs k).length ≤ 3) := Lib.hid (by rw [HDN.out]; simp)
            have hdv : x.tdiv 2 = x / 2 := Int.tdiv_eq_ediv_of_nonneg (by omega)
            obtain ⟨y, hy⟩ : ∃ y, x / 2 = y := ⟨_, rfl⟩
            have hy0 : 0 ≤ y := by omega
            have hy1 : y ≤ x := by omega
            rw [hy] at hdv HDN
            clear hy
            obtain ⟨z, hz⟩ : ∃ z, x - 1 = z := ⟨_, rfl⟩
            have hz0 : 0 ≤ z := by omega
            rw [hz] at HDN
            go_wp2_with fail
            refine (ref_with _ xs n c k 0 _ (IS_of_cells (HA.out.ext HS3.out.ext)) Hx.out (by omega) hlt).mono ?_
            rintro e v0 ⟨q0, rfl, hq0, hf0, hx0⟩
            have HP0 := Lib.hid ((HS3.out.on hx0).put q0 ⟨hf0.ok, hf0.le, hf0.cap, fun b _ => Nat.zero_le b, hf0.soft⟩ (by have := HLN.out; simp; omega))
            rw [hq0] at HP0
            clear hx0 hf0 hq0
            go_wp2_with fail
            refine HP0.out.mono ?_
            rintro e s0 ⟨o0, rfl, hr0⟩
            have HR0 := Lib.hid hr0
            have d0 := hr0.ext.cell' c0
            clear hr0
            go_wp2_with fail
            refine (ref_with _ xs n c k y _ (IS_of_cells (HA.out.ext HR0.out.ext)) Hx.out (by omega) hlt).mono ?_
            rintro e v1 ⟨q1, rfl, hq1, hf1, hx1⟩
            have HP1 := Lib.hid ((HR0.out.on hx1).put q1 ⟨hf1.ok, hf1.le, hf1.cap, fun b _ => Nat.zero_le b, hf1.soft⟩ (by have := HLN.out; simp; omega))
            rw [hq1] at HP1
            clear hx1 hf1 hq1
            go_wp2_with fail
            refine HP1.out.mono ?_
            rintro e s1 ⟨o1, rfl, hr1⟩
            have HR1 := Lib.hid hr1
            have d1 := hr1.ext.cell' c0
            clear hr1
            go_wp2_with fail
            refine (ref_with _ xs n c k z _ (IS_of_cells (HA.out.ext HR1.out.ext)) Hx.out (by omega) hlt).mono ?_
            rintro e v2 ⟨q2, rfl, hq2, hf2, hx2⟩
            have HP2 := Lib.hid ((HR1.out.on hx2).put q2 ⟨hf2.ok, hf2.le, hf2.cap, fun b _ => Nat.zero_le b, hf2.soft⟩ (by have := HLN.out; simp; omega))
            rw [hq2] at HP2
            clear hx2 hf2 hq2
            go_wp2_with fail
            refine HP2.out.mono ?_
            rintro e s2 ⟨o2, rfl, hr2⟩
            have HR2 := Lib.hid hr2
            have d2 := hr2.ext.cell' c0
            clear hr2
            have HSD : Hid (RowOf w1 s2 o2 (LK ++ downs xs k)) := Lib.hid (by rw [HDN.out]; simpa using HR2.out)
            by_cases hk0 : k = 0
            · have HTN : Hid (turnsL xs k = []) := Lib.hid (by unfold turnsL; simp [hk0])
              have HNX : Hid (gapsTo xs n ++ (List.range (k + 1)).flatMap (chgL xs) = LK ++ downs xs k) := Lib.hid (by rw [HLS.out, HTN.out, List.append_nil])
              rw [← HNX.out] at HSD
              have hk1 : decide (0 < k) = false := by simp [hk0]
              clear hk0
              go_wp2_with fail
              go_quiet (fail)
              go_wp2_with fail
              go_roundw
              case rel => exact ⟨k + 1, by go_num, by omega, Lib.hid (HSD.out.on ((Ext.refl' _).drewN' nq))⟩
              case measure => simp [intOf]; omega
            · obtain ⟨j, hj⟩ : ∃ j, k - 1 = j := ⟨_, rfl⟩
              have hjx : j < xs.length := by omega
              have hkp : (0 : Int) < k := by omega
              have hq1 : (k : Int) - 1 = (j : Nat) := by omega
              have hjn : (j : Int) < n := by have := Hx.out; omega
              have hkn : (k : Int) < n := by omega
              have hkd : decide (0 < k) = true := by simp; omega
              have hj0 : (0 : Int) ≤ j := by omega
              have hk00 : (0 : Int) ≤ k := by omega
              obtain ⟨b', o', hAe, hc0⟩ := HA.out.at_ (k := j) (by simpa using hjx)
              simp only [Option.some.injEq, Addr.mk.injEq, and_true] at hAe
              obtain ⟨rfl, rfl⟩ := hAe
              have e0 : w1.cell? ⟨b, o + j, none⟩ = some (.int .i64 xs[j]) := by rw [hc0]; simp [I64]
              clear hc0
              have HXP : Hid (nth xs (k - 1) = xs[j]) := Lib.hid (by rw [hj]; unfold nth; rw [List.getElem?_eq_getElem hjx]; rfl)
              have Hkj := Lib.hid hj
              clear hj
              generalize xs[j] = p at *
              have e1 := HSD.out.ext.cell' e0
              by_cases htp : x < p
              · have HTN : Hid (turnsL xs k = [(xs.set k p).set j x]) := Lib.hid (by unfold turnsL; rw [HXP.out, HXK.out, if_pos ⟨by omega, htp⟩, Hkj.out])
                go_wp2_with fail
                go_quiet (fail)
                go_wp2_with fail
                have HSQ := Lib.hid (HSD.out.on ((Ext.refl' _).drewN' nq))
                have g1 := HSQ.out.ext.cell' c0
                have g2 := HSQ.out.ext.cell' e0
                have hw1 : IntKind.i64.wrap (j : Int) = (j : Nat) := by rw [IntKind.wrap_i64]; omega
                have HW5 := fun W (h : Ext w1 W) => Lib.hid (ref_with _ xs n c k p W (IS_of_cells (HA.out.ext h)) Hx.out (by omega) hlt)
                have HW6 := fun W B d (h : Hid (IS W B (xs.set k p))) => Lib.hid (ref_with B (xs.set k p) n d j x W h.out (by rw [List.length_set, Hx.out]) (by omega) (by omega))
                go_region_held3 (fun W => W.cell? ⟨b, o + k, none⟩ = some (.int .i64 x) ∧ W.cell? ⟨b, o + j, none⟩ = some (.int .i64 p)) (first | go_keep | exact ⟨g7, g8⟩ | exact ⟨g5, g6⟩ | exact ⟨g3, g4⟩)
                  (first
                    | (go_at_call 32; (with_reducible refine (HW5 _ (HSD.out.ext.drewN' _)).out.mono ?_); rintro u t5 ⟨q5, rfl, hq5, hf5, hx5⟩; have g3 := ((HSD.out.ext.drewN' _).trans' hx5).cell' c0; have g4 := ((HSD.out.ext.drewN' _).trans' hx5).cell' e0; have HR5 := Lib.hid ((HSD.out.on ((Ext.refl' _).drewN' _)).on hx5); have HI5 : Hid (IS t5 q5.A (xs.set k p)) := Lib.hid (by have h := hf5.ok; unfold IRow.ok at h; rw [hq5] at h; exact IS_of_cells h); have hv5 : q5.val = .slice q5.A n q5.c := (by unfold IRow.val; rw [hq5, List.length_set, Hx.out]); rw [hv5]; clear hx5 hf5 hq5 hv5)
                    | (go_at_call 32; (with_reducible refine (HW6 _ _ _ HI5).out.mono ?_); rintro u t6 ⟨q6, rfl, hq6, hf6, hx6⟩; have g5 := hx6.cell' g3; have g6 := hx6.cell' g4; have HR6 := Lib.hid ((HR5.out.on hx6).put q6 ⟨hf6.ok, hf6.le, hf6.cap, fun b _ => Nat.zero_le b, hf6.soft⟩ (by have := HLN.out; have := HDL.out; rw [List.length_append]; omega)); have HQ6 := Lib.hid hq6; clear hx6 hf6 hq6)
                    | (go_at_call 31; (with_reducible refine HR6.out.mono ?_); rintro u s7 ⟨o7, rfl, hr7⟩; have HR7 := Lib.hid hr7; have g7 := hr7.ext.cell' c0; have g8 := hr7.ext.cell' e0; clear hr7))
                have HN : Hid (RowOf w1 s7 o7 (gapsTo xs n ++ (List.range (k + 1)).flatMap (chgL xs))) := Lib.hid (by
                  have h1 := HR7.out
                  rw [HQ6.out] at h1
                  rw [HLS.out, HTN.out]; exact h1)
                go_wp2_with fail
                go_roundw
                case rel => exact ⟨k + 1, by go_num, by omega, HN⟩
                case measure => simp [intOf]; omega
              · have HTN : Hid (turnsL xs k = []) := Lib.hid (by unfold turnsL; rw [HXP.out, HXK.out, if_neg (fun h => htp h.2)])
                have HNX : Hid (gapsTo xs n ++ (List.range (k + 1)).flatMap (chgL xs) = LK ++ downs xs k) := Lib.hid (by rw [HLS.out, HTN.out, List.append_nil])
                rw [← HNX.out] at HSD
                have htp' : ¬ x < p := htp
                clear htp
                go_wp2_with fail
                go_quiet (fail)
                go_wp2_with fail
                go_roundw
                case rel => exact ⟨k + 1, by go_num, by omega, Lib.hid (HSD.out.on ((Ext.refl' _).drewN' nq))⟩
                case measure => simp [intOf]; omega
          · have HDN : Hid (downs xs k = []) := Lib.hid (by unfold downs; rw [HXK.out, if_neg hpos])
            have HDL : Hid ((downs xs k).length ≤ 3) := Lib.hid (by rw [HDN.out]; simp)
            have HSD := HS3
            rw [← List.append_nil LK, ← HDN.out] at HSD
            have hpos' : ¬ (0 : Int) < x := hpos
            by_cases hk0 : k = 0
            · have HTN : Hid (turnsL xs k = []) := Lib.hid (by unfold turnsL; simp [hk0])
              have HNX : Hid (gapsTo xs n ++ (List.range (k + 1)).flatMap (chgL xs) = LK ++ downs xs k) := Lib.hid (by rw [HLS.out, HTN.out, List.append_nil])
              rw [← HNX.out] at HSD
              have hk1 : decide (0 < k) = false := by simp [hk0]
              clear hk0
              go_wp2_with fail
              go_quiet (fail)
              go_wp2_with fail
              go_roundw
              case rel => exact ⟨k + 1, by go_num, by omega, Lib.hid (HSD.out.on ((Ext.refl' _).drewN' nq))⟩
              case measure => simp [intOf]; omega
            · obtain ⟨j, hj⟩ : ∃ j, k - 1 = j := ⟨_, rfl⟩
              have hjx : j < xs.length := by omega
              have hkp : (0 : Int) < k := by omega
              have hq1 : (k : Int) - 1 = (j : Nat) := by omega
              have hjn : (j : Int) < n := by have := Hx.out; omega
              have hkn : (k : Int) < n := by omega
              have hkd : decide (0 < k) = true := by simp; omega
              have hj0 : (0 : Int) ≤ j := by omega
              have hk00 : (0 : Int) ≤ k := by omega
              obtain ⟨b', o', hAe, hc0⟩ := HA.out.at_ (k := j) (by simpa using hjx)
              simp only [Option.some.injEq, Addr.mk.injEq, and_true] at hAe
              obtain ⟨rfl, rfl⟩ := hAe
              have e0 : w1.cell? ⟨b, o + j, none⟩ = some (.int .i64 xs[j]) := by rw [hc0]; simp [I64]
              clear hc0
              have HXP : Hid (nth xs (k - 1) = xs[j]) := Lib.hid (by rw [hj]; unfold nth; rw [List.getElem?_eq_getElem hjx]; rfl)
              have Hkj := Lib.hid hj
              clear hj
              generalize xs[j] = p at *
              have e1 := HSD.out.ext.cell' e0
              by_cases htp : x < p
              · have HTN : Hid (turnsL xs k = [(xs.set k p).set j x]) := Lib.hid (by unfold turnsL; rw [HXP.out, HXK.out, if_pos ⟨by omega, htp⟩, Hkj.out])
                go_wp2_with fail
                go_quiet (fail)
                go_wp2_with fail
                have HSQ := Lib.hid (HSD.out.on ((Ext.refl' _).drewN' nq))
                have g1 := HSQ.out.ext.cell' c0
                have g2 := HSQ.out.ext.cell' e0
                have hw1 : IntKind.i64.wrap (j : Int) = (j : Nat) := by rw [IntKind.wrap_i64]; omega
                have HW5 := fun W (h : Ext w1 W) => Lib.hid (ref_with _ xs n c k p W (IS_of_cells (HA.out.ext h)) Hx.out (by omega) hlt)
                have HW6 := fun W B d (h : Hid (IS W B (xs.set k p))) => Lib.hid (ref_with B (xs.set k p) n d j x W h.out (by rw [List.length_set, Hx.out]) (by omega) (by omega))
                go_region_held3 (fun W => W.cell? ⟨b, o + k, none⟩ = some (.int .i64 x) ∧ W.cell? ⟨b, o + j, none⟩ = some (.int .i64 p)) (first | go_keep | exact ⟨g7, g8⟩ | exact ⟨g5, g6⟩ | exact ⟨g3, g4⟩)
                  (first
                    | (go_at_call 32; (with_reducible refine (HW5 _ (HSD.out.ext.drewN' _)).out.mono ?_); rintro u t5 ⟨q5, rfl, hq5, hf5, hx5⟩; have g3 := ((HSD.out.ext.drewN' _).trans' hx5).cell' c0; have g4 := ((HSD.out.ext.drewN' _).trans' hx5).cell' e0; have HR5 := Lib.hid ((HSD.out.on ((Ext.refl' _).drewN' _)).on hx5); have HI5 : Hid (IS t5 q5.A (xs.set k p)) := Lib.hid (by have h := hf5.ok; unfold IRow.ok at h; rw [hq5] at h; exact IS_of_cells h); have hv5 : q5.val = .slice q5.A n q5.c := (by unfold IRow.val; rw [hq5, List.length_set, Hx.out]); rw [hv5]; clear hx5 hf5 hq5 hv5)
                    | (go_at_call 32; (with_reducible refine (HW6 _ _ _ HI5).out.mono ?_); rintro u t6 ⟨q6, rfl, hq6, hf6, hx6⟩; have g5 := hx6.cell' g3; have g6 := hx6.cell' g4; have HR6 := Lib.hid ((HR5.out.on hx6).put q6 ⟨hf6.ok, hf6.le, hf6.cap, fun b _ => Nat.zero_le b, hf6.soft⟩ (by have := HLN.out; have := HDL.out; rw [List.length_append]; omega)); have HQ6 := Lib.hid hq6; clear hx6 hf6 hq6)
                    | (go_at_call 31; (with_reducible refine HR6.out.mono ?_); rintro u s7 ⟨o7, rfl, hr7⟩; have HR7 := Lib.hid hr7; have g7 := hr7.ext.cell' c0; have g8 := hr7.ext.cell' e0; clear hr7))
                have HN : Hid (RowOf w1 s7 o7 (gapsTo xs n ++ (List.range (k + 1)).flatMap (chgL xs))) := Lib.hid (by
                  have h1 := HR7.out
                  rw [HQ6.out] at h1
                  rw [HLS.out, HTN.out]; exact h1)
                go_wp2_with fail
                go_roundw
                case rel => exact ⟨k + 1, by go_num, by omega, HN⟩
                case measure => simp [intOf]; omega
              · have HTN : Hid (turnsL xs k = []) := Lib.hid (by unfold turnsL; rw [HXP.out, HXK.out, if_neg (fun h => htp h.2)])
                have HNX : Hid (gapsTo xs n ++ (List.range (k + 1)).flatMap (chgL xs) = LK ++ downs xs k) := Lib.hid (by rw [HLS.out, HTN.out, List.append_nil])
                rw [← HNX.out] at HSD
                have htp' : ¬ x < p := htp
                clear htp
                go_wp2_with fail
                go_quiet (fail)
                go_wp2_with fail
                go_roundw
                case rel => exact ⟨k + 1, by go_num, by omega, Lib.hid (HSD.out.on ((Ext.refl' _).drewN' nq))⟩
                case measure => simp [intOf]; omega
        · obtain rfl : k = n := by omega
          go_wp2_with fail
          have he : (List.range k).flatMap (chgL xs) = changesL xs := by unfold changesL; rw [Hx.out]
          rw [he] at HS3
          exact hR.out _ _ ⟨_, rfl, HS3.out⟩
end Go.Proofs.Ytokfmfgnjhapiaa
